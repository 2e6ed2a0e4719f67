/- Parts of the proof, without what nothing here names. -/
import Derived.Test.YtidakgbibobbdaaGreatDoorProg
import Derived.Test.YtidakgbibobbdaaGreatDoorQc4
set_option maxRecDepth 100000
set_option maxHeartbeats 8000000
namespace Go.Proofs.YtidakgbibobbdaaGreatDoor
open Go Go.RowKit
noncomputable section
def y2I (p0 : List Int) (p1 : Int) (st4 : Int) : Option (Int ⊕ (Unit ⊕ Unit)) :=
 if decide (st4 < (p0.length : Int)) then
  (idx p0 st4).bind fun x9 =>
  if (x9 == p1) then
   some (.inr (.inr (())))
  else
   some (.inl (W (st4 + 1)))
 else
  some (.inr (.inl ()))
def y1W (p0 : List Int) (p1 : Int) : Option Bool :=
 (iter (y2I p0 p1) 0).bind fun o4 =>
 match o4 with
 | .inl u5 =>
  some false
 | .inr (u7) =>
  some true
theorem y3N {p0 : List Int} {p1 : Int} {r : Bool} (hm : y1W p0 p1 = some r) :
  Fw Tryz.prog 45 ⟨0, []⟩ [.f qI p0, .i p1] [] (.b r) [] := by
 unfold y1W at hm
 refine Fw.mk' Tryz.func45 R Tryz.ntmps45 R R (fun C => ?_) R R
 refine .seq (.reg (.sa R (.nil (.seqN (.seq (.seq (.reg (.sa R (.nil (.seqN (.block (bS hm fun o4 eo4 hm => ?_))))))))))))
 refine .cutU (z := .exit 0) (fun u5 => .inl u5 = o4) (fun (u5 : Unit) => ⟨[], [], 0⟩) ?_ fun K6 => ?_
 ·rintro u5 rfl
  dsimp only at hm
  refine .blkE (.seqN (.seq (.reg (.sa R (.nil (.seqN (.ret ?_)))))))
  obtain rfl := oi hm
  exact WX.rt [] (.inl R) Tryz.results45 (.tmp R .nil) R (fun _ _ _ h => h) trivial
 refine .cutU (z := .ret) (fun u7 => .inr (u7) = o4) (fun (u7 : Unit) => ⟨[(4, .b true)], [], 0⟩) ?_ fun K8 => ?_
 ·rintro u7 rfl
  dsimp only at hm
  refine .blkR (.seqR ?_)
  obtain rfl := oi hm
  exact WX.rt [] (.inl R) Tryz.results45 (.tmp R .nil) R (fun _ _ _ h => h) trivial
 refine .iter (fun (st4 : Int) => ⟨[(5, .i st4), (0, .f qI p0), (1, .i p1)], [], 0⟩) eo4 [] R ?_
 intro st4 res4 hm ih4 ho4
 unfold y2I at hm
 refine .seq (.seq (.reg (.mv R (.mv R (.op (O.len sl22 Z R R) R (.bi R (.nil (.seqN ?_))))))))
 rcases ifS hm with ⟨hc, hm⟩ | ⟨hc, hm⟩
 ·refine .cT R hc ?_
  refine .skip (.seqN (.seq (.block (.seq (.reg (.mv R (.mv R (bS hm fun x9 ex9 hm => .op (O.ix sl22 Z R R ex9 R) R (.op (O.ld nag3 Z R (.E lv3) R R) R (.mv R (.bi R (.nil (.seqN ?_)))))))))))))
  rcases ifS hm with ⟨hc, hm⟩ | ⟨hc, hm⟩
  ·refine .cT R hc ?_
   exact .seq (.reg (.sa R (.nil (.seqN (.ret (.blkR (.seqR (.seqR ((K8 _ (ho4 _ (oi hm).symm)).sub [] R)))))))))
  ·refine .cF R hc ?_
   exact .skip (.blkN (.seqN (.reg (.mv R (.bi R (.sa R (.nil ((ih4 _ (oi hm).symm).sub [] R))))))))
 ·refine .cF R hc ?_
  exact .exit (.seqX (.seqX ((K6 _ (ho4 _ (oi hm).symm)).sub [] R)))
def yJ (st9 : Int × List Int) (l12 : List Int) : Option ((Int × List Int) ⊕ (List Int)) :=
 some (.inl (W (st9.1 + 1), l12))
def y1k (p0 : Int) (st9 : Int × List Int) : Option ((Int × List Int) ⊕ (List Int)) :=
 if decide (st9.1 < 5) then
  (ng st9.1).bind fun _ =>
  if ((IntKind.u8.wrap (((BitVec.ofInt 8 (p0.fdiv (2 ^ (min st9.1.toNat 8))) &&& BitVec.ofInt 8 1).toNat : Int))) == 1) then
   (app st9.2 ([st9.1] : List Int)).bind fun x15 =>
   yJ st9 x15
  else
   yJ st9 st9.2
 else
  some (.inr st9.2)
def yG (p0 : Int) : Option (List Int) :=
 (iter (y1k p0) (0, ([] : List Int))).bind fun o9 =>
 some o9
theorem y3w {p0 : Int} {r : List Int} (hm : yG p0 = some r) :
  Fw Tryz.prog 120 ⟨0, []⟩ [.o (lV (.int .u8 p0))] [] (.h 0) [ROW qI 3 r] := by
 unfold yG at hm
 refine Fw.mk' Tryz.func120 R Tryz.ntmps120 R R (fun C => ?_) R R
 refine .seq (.reg (.sa R (.nil (.seqN (.seq (.reg (.sa R (.nil (.seqN (.seq (.seq (.reg (.sa R (.nil (.seqN (.block (bS hm fun o9 eo9 hm => ?_)))))))))))))))))
 refine .cut1 (z := .exit 0) o9 (fun (o9 : List Int) => ⟨[(3, .h 0)], [(0, ROW qI 3 o9)], 1⟩) ?_ fun K11 => ?_
 ·skip
  refine .blkE (.seqN (.seq (.reg (.mv R (.sa R (.nil (.seqN (.ret ?_))))))))
  obtain rfl := oi hm
  exact WX.rt [0] (.inl R) Tryz.results120 (.tmp R .nil) R (fun _ _ _ h => h) ⟨⟨_, R, fun _ _ _ _ h => h⟩, trivial⟩
 refine .nlg qI 3 3 0 R R (.iter (fun (st9 : Int × List Int) => ⟨[(4, .i st9.1), (3, .h 0), (0, .o (lV (.int .u8 p0)))], [(0, ROW qI 3 st9.2)], 1⟩) eo9 [] R ?_)
 intro st9 res9 hm ih9 ho9
 unfold y1k at hm
 refine .seq (.seq (.reg (.mv R (.bi R (.nil (.seqN ?_))))))
 rcases ifS hm with ⟨hc, hm⟩ | ⟨hc, hm⟩
 ·refine .cT R hc ?_
  refine .skip (.seqN ?_)
  refine .join1 (fun (l12 : List Int) => yJ st9 l12 = some res9) (fun l12 => ⟨[(3, .h 0), (4, .i st9.1), (0, .o (lV (.int .u8 p0)))], [(0, ROW qI 3 l12)], 1⟩) ?_ ?_
  ·intro l12 hm
   unfold yJ at hm
   exact .reg (.mv R (.bi R (.sa R (.nil ((ih9 _ (oi hm).symm).sub [] R)))))
  ·intro Jj13
   refine .block (.seq (.reg (.mv R (.mv R (bS hm fun _ z14 hm => .op (O.shr Z R R (ybt z14) R) R (.bi R (.bi R (.nil (.seqN ?_)))))))))
   rcases ifS hm with ⟨hc, hm⟩ | ⟨hc, hm⟩
   ·refine .cT R hc ?_
    exact .reg (.mv R (.mv R (.op (O.bsF (r := qI) (zs := ([st9.1] : List Int)) bs22 R R Z R R R (.c .k .n) R R R) R (bS hm fun x15 ex15 hm => .op (O.ap 1 Tryz.underlying22 el3 R R Z R R (.fr R) ex15 R) R (.sa R (.nil (.blkN ((Jj13 _ hm).sub [(0, 1)] R))))))))
   ·refine .cF R hc ?_
    exact .skip (.blkN ((Jj13 _ hm).sub [] R))
 ·refine .cF R hc ?_
  exact .exit (.seqX (.seqX ((K11 _ (ho9 _ (oi hm).symm)).sub [] R)))
def y1t (p0 : List Int) : Option AutT :=
 (app ([] : List Int) p0).bind fun x1 =>
 some (x1, 0, ([] : List Int), ([] : List (Int × Int × Int)))
theorem y4s {p0 : List Int} {r : AutT} (hm : y1t p0 = some r) :
  Fw Tryz.prog 152 ⟨0, []⟩ [.f qI p0] [] (.g [lH 0, lI r.2.1, lH 1, lH 2]) [ROW qI 3 r.1, ROW qI 3 r.2.2.1, ROW qT 97 r.2.2.2] := by
 unfold y1t at hm
 refine Fw.mk' Tryz.func152 R Tryz.ntmps152 R R (fun C => ?_) R R
 refine .seq (.reg (.op (O.al 0 R zz25 R Z R) R (.nil (.seqN (.seq (.reg (.op (O.b0O (r := qI) 1 R bs22 R Z R) R (.mv R (bS hm fun x1 ex1 hm => .op (O.ap 2 Tryz.underlying22 el3 R R Z R R (.fr R) ex1 R) R (.op (O.bu (l := [lH 2, lI 0, lN, lN]) pl25 R Z R R R) R (.op (O.st ag25.sz Z R R R R R) R (.nil (.seqN (.ret (.nlb qI 3 0 2 R R (.nlb qT 97 0 3 R R ?_))))))))))))))))
 obtain rfl := oi hm
 exact WX.rt [2, 3, 4] (.inl R) Tryz.results152 (.cell R R ag25 R .nil) R (fun _ _ _ h => h) ⟨⟨_, R, fun _ _ _ _ h => h⟩, ⟨_, R, fun _ _ _ _ h => h⟩, ⟨_, R, fun _ _ _ _ h => h⟩, trivial⟩
def y2x (p0 : AutT) (p1 : Int) (p2 : Int) (st9 : Int) : Option (Int ⊕ (Unit ⊕ Int)) :=
 if decide (st9 < (p0.2.2.2.length : Int)) then
  (idx p0.2.2.2 st9).bind fun x15 =>
  (if (x15.1 == p1) then
   (idx p0.2.2.2 st9).bind fun x20 =>
   some (x20.2.1 == p2)
  else
   some false).bind fun b16 =>
  if b16 then
   (idx p0.2.2.2 st9).bind fun x19 =>
   some (.inr (.inr (x19.2.2)))
  else
   some (.inl (W (st9 + 1)))
 else
  some (.inr (.inl ()))
def y2v (p0 : AutT) (p1 : Int) (p2 : Int) : Option Int :=
 (iter (y2x p0 p1 p2) 0).bind fun o9 =>
 match o9 with
 | .inl u11 =>
  some (-1)
 | .inr (u13) =>
  some u13
theorem y5n {p0 : AutT} {p1 : Int} {p2 : Int} {r : Int} (hm : y2v p0 p1 p2 = some r) :
  Fw Tryz.prog 173 ⟨0, []⟩ [.a [lF qI p0.1, lI p0.2.1, lF qI p0.2.2.1, lF qT p0.2.2.2], .i p1, .i p2] [] (.i r) [] := by
 unfold y2v at hm
 refine Fw.mk' Tryz.func173 R Tryz.ntmps173 R R (fun C => ?_) R R
 refine .seq (.reg (.op (O.box 0 R Z R R R) R (.sa R (.nil (.seqN (.seq (.seq (.reg (.sa R (.nil (.seqN (.block (bS hm fun o9 eo9 hm => ?_)))))))))))))
 refine .cutU (z := .exit 0) (fun u11 => .inl u11 = o9) (fun (u11 : Unit) => ⟨[], [], 0⟩) ?_ fun K12 => ?_
 ·rintro u11 rfl
  dsimp only at hm
  refine .blkE (.seqN (.seq (.reg (.sa R (.nil (.seqN (.ret ?_)))))))
  obtain rfl := oi hm
  exact WX.rt [] (.inl R) Tryz.results173 (.tmp R .nil) R (fun _ _ _ h => h) trivial
 refine .cutU (z := .ret) (fun u13 => .inr (u13) = o9) (fun (u13 : Int) => ⟨[(6, .i u13)], [], 0⟩) ?_ fun K14 => ?_
 ·rintro u13 rfl
  dsimp only at hm
  refine .blkR (.seqR ?_)
  obtain rfl := oi hm
  exact WX.rt [] (.inl R) Tryz.results173 (.tmp R .nil) R (fun _ _ _ h => h) trivial
 refine .iter (fun (st9 : Int) => ⟨[(7, .i st9), (3, .q 0 0), (1, .i p1), (2, .i p2)], [(0, .bx 25 [lF qI p0.1, lI p0.2.1, lF qI p0.2.2.1, lF qT p0.2.2.2])], 1⟩) eo9 [] R ?_
 intro st9 res9 hm ih9 ho9
 unfold y2x at hm
 refine .seq (.seq (.reg (.mv R (.op (O.faP yz Z R R) R (.op (O.ld nag23 Z R (.B R) R R) R (.op (O.len sl23 Z R R) R (.bi R (.nil (.seqN ?_)))))))))
 rcases ifS hm with ⟨hc, hm⟩ | ⟨hc, hm⟩
 ·refine .cT R hc ?_
  refine .skip (.seqN (.seq (.block (.seq (.reg (.op (O.faP yz Z R R) R (.op (O.ld nag23 Z R (.B R) R R) R (.mv R (bS hm fun x15 ex15 hm => .op (O.ix sl23 Z R R ex15 R) R (.op (O.faE y3C Z R R) R (.op (O.ld nag3 Z R (.E lv97) R R) R (.mv R (.bi R (.mv R (bS hm fun b16 eb16 hm => ?_)))))))))))))))
  refine .cut 9 (fun (v17 : Bool) => b16 = v17) (fun v17 => ⟨[(32, .b v17), (7, .i st9), (3, .q 0 0), (1, .i p1), (2, .i p2)], [(0, .bx 25 [lF qI p0.1, lI p0.2.1, lF qI p0.2.2.1, lF qT p0.2.2.2])], 1⟩) ?_ ?_
  ·rintro _ rfl
   refine .nil (.seqN ?_)
   rcases ifS hm with ⟨hc, hm⟩ | ⟨hc, hm⟩
   ·refine .cT R hc ?_
    exact .seq (.reg (.op (O.faP yz Z R R) R (.op (O.ld nag23 Z R (.B R) R R) R (.mv R (bS hm fun x19 ex19 hm => .op (O.ix sl23 Z R R ex19 R) R (.op (O.faE y4E Z R R) R (.op (O.ld nag3 Z R (.E lv97) R R) R (.sa R (.nil (.seqN (.ret (.blkR (.seqR (.seqR ((K14 _ (ho9 _ (oi hm).symm)).sub [] R)))))))))))))))
   ·refine .cF R hc ?_
    exact .skip (.blkN (.seqN (.reg (.mv R (.bi R (.sa R (.nil ((ih9 _ (oi hm).symm).sub [] R))))))))
  ·intro J18
   rcases ifS eb16 with ⟨hc, hm⟩ | ⟨hc, hm⟩
   ·refine .know (d := 23) R hc ?_
    exact .op (O.faP yz (Gu.mk R R) R R) R (.op (O.ld nag23 (Gu.mk R R) R (.B R) R R) R (.op (O.mv (Gu.mk R R) R R) R (bS hm fun x20 ex20 hm => .op (O.ix sl23 (Gu.mk R R) R R ex20 R) R (.op (O.faE y4D (Gu.mk R R) R R) R (.op (O.ld nag3 (Gu.mk R R) R (.E lv97) R R) R (.op (O.mv (Gu.mk R R) R R) R (.op (O.bi (Gu.mk R R) R R R R) R (.op (O.pkT Z R R R R) R ((J18 (x20.2.1 == p2) (oi hm).symm).sub [] R)))))))))
   ·refine .know (d := 23) R hc ?_
    exact .sk R (.sk R (.sk R (.sk R (.sk R (.sk R (.sk R (.sk R (.op (O.pkF Z R R R R) R ((J18 false (oi hm).symm).sub [] R)))))))))
 ·refine .cF R hc ?_
  exact .exit (.seqX (.seqX ((K12 _ (ho9 _ (oi hm).symm)).sub [] R)))
def y2J (p0 : List Int) (p1 : Int) (st4 : Int) : Option (Int ⊕ (Unit ⊕ Unit)) :=
 if decide (st4 < (p0.length : Int)) then
  (idx p0 st4).bind fun x9 =>
  if (x9 == p1) then
   some (.inr (.inr (())))
  else
   some (.inl (W (st4 + 1)))
 else
  some (.inr (.inl ()))
def y2G (p0 : List Int) (p1 : Int) : Option Bool :=
 (iter (y2J p0 p1) 0).bind fun o4 =>
 match o4 with
 | .inl u5 =>
  some false
 | .inr (u7) =>
  some true
theorem y5z {p0 : List Int} {p1 : Int} {r : Bool} (hm : y2G p0 p1 = some r) :
  Fw Tryz.prog 172 ⟨0, []⟩ [.f qI p0, .i p1] [] (.b r) [] := by
 unfold y2G at hm
 refine Fw.mk' Tryz.func172 R Tryz.ntmps172 R R (fun C => ?_) R R
 refine .seq (.reg (.sa R (.nil (.seqN (.seq (.seq (.reg (.sa R (.nil (.seqN (.block (bS hm fun o4 eo4 hm => ?_))))))))))))
 refine .cutU (z := .exit 0) (fun u5 => .inl u5 = o4) (fun (u5 : Unit) => ⟨[], [], 0⟩) ?_ fun K6 => ?_
 ·rintro u5 rfl
  dsimp only at hm
  refine .blkE (.seqN (.seq (.reg (.sa R (.nil (.seqN (.ret ?_)))))))
  obtain rfl := oi hm
  exact WX.rt [] (.inl R) Tryz.results172 (.tmp R .nil) R (fun _ _ _ h => h) trivial
 refine .cutU (z := .ret) (fun u7 => .inr (u7) = o4) (fun (u7 : Unit) => ⟨[(4, .b true)], [], 0⟩) ?_ fun K8 => ?_
 ·rintro u7 rfl
  dsimp only at hm
  refine .blkR (.seqR ?_)
  obtain rfl := oi hm
  exact WX.rt [] (.inl R) Tryz.results172 (.tmp R .nil) R (fun _ _ _ h => h) trivial
 refine .iter (fun (st4 : Int) => ⟨[(5, .i st4), (0, .f qI p0), (1, .i p1)], [], 0⟩) eo4 [] R ?_
 intro st4 res4 hm ih4 ho4
 unfold y2J at hm
 refine .seq (.seq (.reg (.mv R (.mv R (.op (O.len sl22 Z R R) R (.bi R (.nil (.seqN ?_))))))))
 rcases ifS hm with ⟨hc, hm⟩ | ⟨hc, hm⟩
 ·refine .cT R hc ?_
  refine .skip (.seqN (.seq (.block (.seq (.reg (.mv R (.mv R (bS hm fun x9 ex9 hm => .op (O.ix sl22 Z R R ex9 R) R (.op (O.ld nag3 Z R (.E lv3) R R) R (.mv R (.bi R (.nil (.seqN ?_)))))))))))))
  rcases ifS hm with ⟨hc, hm⟩ | ⟨hc, hm⟩
  ·refine .cT R hc ?_
   exact .seq (.reg (.sa R (.nil (.seqN (.ret (.blkR (.seqR (.seqR ((K8 _ (ho4 _ (oi hm).symm)).sub [] R)))))))))
  ·refine .cF R hc ?_
   exact .skip (.blkN (.seqN (.reg (.mv R (.bi R (.sa R (.nil ((ih4 _ (oi hm).symm).sub [] R))))))))
 ·refine .cF R hc ?_
  exact .exit (.seqX (.seqX ((K6 _ (ho4 _ (oi hm).symm)).sub [] R)))
def y1u (st51 : Int × List Int) (l54 : List Int) : Option ((Int × List Int) ⊕ (List Int)) :=
 some (.inl (W (st51.1 + 1), l54))
def y1v (p0 : AutT) (st34 : Int × List Int) (st51 : Int × List Int) : Option ((Int × List Int) ⊕ (List Int)) :=
 if decide (st51.1 < (p0.1.length : Int)) then
  (idx st51.2 st34.1).bind fun x56 =>
  (idx p0.1 st51.1).bind fun x57 =>
  (y2v p0 x56 x57).bind fun r58 =>
  (if decide (r58 ≥ 0) then
   (y2G st51.2 r58).bind fun r63 =>
   some (!r63)
  else
   some false).bind fun b59 =>
  if b59 then
   (app st51.2 ([r58] : List Int)).bind fun x62 =>
   y1u st51 x62
  else
   y1u st51 st51.2
 else
  some (.inr st51.2)
def y1w (p0 : AutT) (st34 : Int × List Int) : Option ((Int × List Int) ⊕ (List Int)) :=
 if decide (st34.1 < (st34.2.length : Int)) then
  (iter (y1v p0 st34) (0, st34.2)).bind fun o51 =>
  some (.inl (W (st34.1 + 1), o51))
 else
  some (.inr st34.2)
def y2l (p0 : AutT) (l1 : List Int) : Option (List Int) :=
 (iter (y1w p0) (0, l1)).bind fun o34 =>
 some o34
def y2S (p0 : AutT) : Option (List Int) :=
 if decide (p0.2.1 > 0) then
  (app ([] : List Int) ([0] : List Int)).bind fun x64 =>
  y2l p0 x64
 else
  y2l p0 ([] : List Int)
theorem y6R {p0 : AutT} {r : List Int} (hm : y2S p0 = some r) :
  Fw Tryz.prog 171 ⟨0, []⟩ [.a [lF qI p0.1, lI p0.2.1, lF qI p0.2.2.1, lF qT p0.2.2.2]] [] (.h 0) [ROW qI 3 r] := by
 unfold y2S at hm
 refine Fw.mk' Tryz.func171 R Tryz.ntmps171 R R (fun C => ?_) R R
 refine .seq (.reg (.op (O.box 0 R Z R R R) R (.sa R (.nil (.seqN (.seq (.reg (.sa R (.nil (.seqN ?_))))))))))
 refine .join1 (fun (l1 : List Int) => y2l p0 l1 = some r) (fun l1 => ⟨[(3, .h 0), (1, .q 1 0)], [(0, ROW qI 3 l1), (1, .bx 25 [lF qI p0.1, lI p0.2.1, lF qI p0.2.2.1, lF qT p0.2.2.2])], 2⟩) ?_ ?_
 ·intro l1 hm
  unfold y2l at hm
  refine .seq (.seq (.reg (.sa R (.nil (.seqN (.block (bS hm fun o34 eo34 hm => ?_)))))))
  refine .cut1 (z := .exit 0) o34 (fun (o34 : List Int) => ⟨[(3, .h 0)], [(0, ROW qI 3 o34)], 1⟩) ?_ fun K36 => ?_
  ·skip
   refine .blkE (.seqN (.seq (.reg (.mv R (.sa R (.nil (.seqN (.ret ?_))))))))
   obtain rfl := oi hm
   exact WX.rt [0] (.inl R) Tryz.results171 (.tmp R .nil) R (fun _ _ _ h => h) ⟨⟨_, R, fun _ _ _ _ h => h⟩, trivial⟩
  refine .iter (fun (st34 : Int × List Int) => ⟨[(4, .i st34.1), (3, .h 0), (1, .q 1 0)], [(0, ROW qI 3 st34.2), (1, .bx 25 [lF qI p0.1, lI p0.2.1, lF qI p0.2.2.1, lF qT p0.2.2.2])], 2⟩) eo34 [] R ?_
  intro st34 res34 hm ih34 ho34
  unfold y1w at hm
  refine .seq (.seq (.reg (.mv R (.mv R (.op (O.lenH sl22 Z R R R) R (.bi R (.nil (.seqN ?_))))))))
  rcases ifS hm with ⟨hc, hm⟩ | ⟨hc, hm⟩
  ·refine .cT R hc ?_
   refine .skip (.seqN (.seq (.block (.seq (.reg (.sa R (.nil (.seqN (.block (bS hm fun o51 eo51 hm => ?_))))))))))
   refine .cut1 (z := .exit 2) o51 (fun (o51 : List Int) => ⟨[(4, .i st34.1), (3, .h 0), (1, .q 1 0)], [(0, ROW qI 3 o51), (1, .bx 25 [lF qI p0.1, lI p0.2.1, lF qI p0.2.2.1, lF qT p0.2.2.2])], 2⟩) ?_ fun K53 => ?_
   ·skip
    exact .blkE (.blkN (.seqN (.reg (.mv R (.bi R (.sa R (.nil ((ih34 _ (oi hm).symm).sub [] R))))))))
   refine .iter (fun (st51 : Int × List Int) => ⟨[(5, .i st51.1), (4, .i st34.1), (3, .h 0), (1, .q 1 0)], [(0, ROW qI 3 st51.2), (1, .bx 25 [lF qI p0.1, lI p0.2.1, lF qI p0.2.2.1, lF qT p0.2.2.2])], 2⟩) eo51 [] R ?_
   intro st51 res51 hm ih51 ho51
   unfold y1v at hm
   refine .seq (.seq (.reg (.mv R (.op (O.faP y1D Z R R) R (.op (O.ld nag22 Z R (.B R) R R) R (.op (O.len sl22 Z R R) R (.bi R (.nil (.seqN ?_)))))))))
   rcases ifS hm with ⟨hc, hm⟩ | ⟨hc, hm⟩
   ·refine .cT R hc ?_
    refine .skip (.seqN ?_)
    refine .join1 (fun (l54 : List Int) => y1u st51 l54 = some res51) (fun l54 => ⟨[(3, .h 0), (5, .i st51.1), (4, .i st34.1), (1, .q 1 0)], [(0, ROW qI 3 l54), (1, .bx 25 [lF qI p0.1, lI p0.2.1, lF qI p0.2.2.1, lF qT p0.2.2.2])], 2⟩) ?_ ?_
    ·intro l54 hm
     unfold y1u at hm
     exact .reg (.mv R (.bi R (.sa R (.nil ((ih51 _ (oi hm).symm).sub [] R)))))
    ·intro Jj55
     refine .block (.seq ?_)
     refine .sub (τ := ⟨[(5, .i st51.1), (4, .i st34.1), (3, .h 0), (1, .q 1 0)], [(0, ROW qI 3 st51.2), (1, .bx 25 [lF qI p0.1, lI p0.2.1, lF qI p0.2.2.1, lF qT p0.2.2.2])], 2⟩) ?_ [] R
     refine bS hm fun x56 ex56 hm => bS hm fun x57 ex57 hm => bS hm fun r58 er58 hm => ?_
     refine .drw [(2, []), (2, []), (2, []), (2, [oF, oT, oT]), (2, [oF, oT, oT, oT]), (2, []), (2, [oF, oF, oF, oF, oF, oT]), (2, []), (2, [oF, oF, oF, oF, oF, oT, oT, oT]), (2, [oF, oF, oF, oF, oF, oT, oT, oT, oT]), (2, [oT, oT, oT, oT, oT, oT, oT, oT, oT, oT]), (2, [oT, oT, oT, oT, oT, oT, oT, oT, oT, oT, oT])] [_, _, _, _, _, _, _, _, _, _, _, _] ⟨[(6, .i r58), (5, .i st51.1), (4, .i st34.1), (3, .h 0), (1, .q 1 0)], [(0, ROW qI 3 st51.2), (1, .bx 25 [lF qI p0.1, lI p0.2.1, lF qI p0.2.2.1, lF qT p0.2.2.2])], 2⟩ ⟨O.lg (l' := [lF qI p0.1, lI p0.2.1, lF qI p0.2.2.1, lF qT p0.2.2.2]) ag25 Z R (.B R) R R R, O.mv Z R R, O.mv Z R R, O.ir sl22 Z R R R ex56 R, O.ld nag3 Z R (.R R ex56 lv3) R R, O.faP y1D Z R R, O.ld nag22 Z R (.B R) R R, O.mv Z R R, O.ix sl22 Z R R ex57 R, O.ld nag3 Z R (.E lv3) R R, O.ca0 (y5n er58) cf173 R R Z R R R, O.as Z R R, trivial⟩ (by kernel_rfl) R ?_
     refine .seqN (.seq (.reg (.mv R (.bi R (.mv R (bS hm fun b59 eb59 hm => ?_))))))
     refine .cut 5 (fun (v60 : Bool) => b59 = v60) (fun v60 => ⟨[(44, .b v60), (6, .i r58), (5, .i st51.1), (4, .i st34.1), (3, .h 0), (1, .q 1 0)], [(0, ROW qI 3 st51.2), (1, .bx 25 [lF qI p0.1, lI p0.2.1, lF qI p0.2.2.1, lF qT p0.2.2.2])], 2⟩) ?_ ?_
     ·rintro _ rfl
      refine .nil (.seqN ?_)
      rcases ifS hm with ⟨hc, hm⟩ | ⟨hc, hm⟩
      ·refine .cT R hc ?_
       exact .reg (.mv R (.mv R (.op (O.bsF (r := qI) (zs := ([r58] : List Int)) bs22 R R Z R R R (.c .k .n) R R R) R (bS hm fun x62 ex62 hm => .op (O.ap 2 Tryz.underlying22 el3 R R Z R R (.fr R) ex62 R) R (.sa R (.nil (.blkN ((Jj55 _ hm).sub [(0, 2)] R))))))))
      ·refine .cF R hc ?_
       exact .skip (.blkN ((Jj55 _ hm).sub [] R))
     ·intro J61
      rcases ifS eb59 with ⟨hc, hm⟩ | ⟨hc, hm⟩
      ·refine .know (d := 39) R hc ?_
       exact .op (O.mv (Gu.mk R R) R R) R (.op (O.mv (Gu.mk R R) R R) R (bS hm fun r63 er63 hm => .op (O.caZ (y5z er63) cf172 R R (Gu.mk R R) R ⟨⟨R, .hr R, trivial⟩, ⟨R, LnL.rf⟩, trivial⟩ (fun _ _ _ _ _ h => h) R) R (.op (O.not (Gu.mk R R) R R) R (.op (O.pkT Z R R R R) R ((J61 (!r63) (oi hm).symm).sub [] R)))))
      ·refine .know (d := 39) R hc ?_
       exact .sk R (.sk R (.sk R (.sk R (.op (O.pkF Z R R R R) R ((J61 false (oi hm).symm).sub [] R)))))
   ·refine .cF R hc ?_
    exact .exit (.seqX (.seqX ((K53 _ (ho51 _ (oi hm).symm)).sub [] R)))
  ·refine .cF R hc ?_
   exact .exit (.seqX (.seqX ((K36 _ (ho34 _ (oi hm).symm)).sub [] R)))
 ·intro Jj2
  refine .seq (.reg (.op (O.faP yW Z R R) R (.op (O.ld nag3 Z R (.B R) R R) R (.bi R (.nil (.seqN ?_))))))
  rcases ifS hm with ⟨hc, hm⟩ | ⟨hc, hm⟩
  ·refine .cT R hc ?_
   exact .reg (.mv R (.op (O.bsF (r := qI) (zs := ([0] : List Int)) bs22 R R Z R R R (.c .k .n) R R R) R (bS hm fun x64 ex64 hm => .op (O.apN (r := qI) 1 Tryz.underlying22 el3 R R Z R (.fr R) ex64 R) R (.sa R (.nil ((Jj2 _ hm).sub [(0, 1), (1, 0)] R))))))
  ·refine .cF R hc ?_
   exact .skip (.nlg qI 3 3 0 R R ((Jj2 _ hm).sub [(0, 1), (1, 0)] R))
def y2m (p0 : List Int) (p1 : Int) (st4 : Int) : Option (Int ⊕ (Unit ⊕ Int)) :=
 if decide (st4 < (p0.length : Int)) then
  (idx p0 st4).bind fun x10 =>
  if (x10 == p1) then
   some (.inr (.inr (st4)))
  else
   some (.inl (W (st4 + 1)))
 else
  some (.inr (.inl ()))
def y2T (p0 : List Int) (p1 : Int) : Option Int :=
 (iter (y2m p0 p1) 0).bind fun o4 =>
 match o4 with
 | .inl u6 =>
  some (-1)
 | .inr (u8) =>
  some u8
theorem y6S {p0 : List Int} {p1 : Int} {r : Int} (hm : y2T p0 p1 = some r) :
  Fw Tryz.prog 174 ⟨0, []⟩ [.f qI p0, .i p1] [] (.i r) [] := by
 unfold y2T at hm
 refine Fw.mk' Tryz.func174 R Tryz.ntmps174 R R (fun C => ?_) R R
 refine .seq (.reg (.sa R (.nil (.seqN (.seq (.seq (.reg (.sa R (.nil (.seqN (.block (bS hm fun o4 eo4 hm => ?_))))))))))))
 refine .cutU (z := .exit 0) (fun u6 => .inl u6 = o4) (fun (u6 : Unit) => ⟨[], [], 0⟩) ?_ fun K7 => ?_
 ·rintro u6 rfl
  dsimp only at hm
  refine .blkE (.seqN (.seq (.reg (.sa R (.nil (.seqN (.ret ?_)))))))
  obtain rfl := oi hm
  exact WX.rt [] (.inl R) Tryz.results174 (.tmp R .nil) R (fun _ _ _ h => h) trivial
 refine .cutU (z := .ret) (fun u8 => .inr (u8) = o4) (fun (u8 : Int) => ⟨[(4, .i u8)], [], 0⟩) ?_ fun K9 => ?_
 ·rintro u8 rfl
  dsimp only at hm
  refine .blkR (.seqR ?_)
  obtain rfl := oi hm
  exact WX.rt [] (.inl R) Tryz.results174 (.tmp R .nil) R (fun _ _ _ h => h) trivial
 refine .iter (fun (st4 : Int) => ⟨[(5, .i st4), (0, .f qI p0), (1, .i p1)], [], 0⟩) eo4 [] R ?_
 intro st4 res4 hm ih4 ho4
 unfold y2m at hm
 refine .seq (.seq (.reg (.mv R (.mv R (.op (O.len sl22 Z R R) R (.bi R (.nil (.seqN ?_))))))))
 rcases ifS hm with ⟨hc, hm⟩ | ⟨hc, hm⟩
 ·refine .cT R hc ?_
  refine .skip (.seqN (.seq (.block (.seq (.reg (.mv R (.mv R (bS hm fun x10 ex10 hm => .op (O.ix sl22 Z R R ex10 R) R (.op (O.ld nag3 Z R (.E lv3) R R) R (.mv R (.bi R (.nil (.seqN ?_)))))))))))))
  rcases ifS hm with ⟨hc, hm⟩ | ⟨hc, hm⟩
  ·refine .cT R hc ?_
   exact .seq (.reg (.mv R (.sa R (.nil (.seqN (.ret (.blkR (.seqR (.seqR ((K9 _ (ho4 _ (oi hm).symm)).sub [] R))))))))))
  ·refine .cF R hc ?_
   exact .skip (.blkN (.seqN (.reg (.mv R (.bi R (.sa R (.nil ((ih4 _ (oi hm).symm).sub [] R))))))))
 ·refine .cF R hc ?_
  exact .exit (.seqX (.seqX ((K7 _ (ho4 _ (oi hm).symm)).sub [] R)))
def yP (st55 : Int × EdgL) (l58 : List (Int × Int × Int)) : Option ((Int × EdgL) ⊕ EdgL) :=
 some (.inl (W (st55.1 + 1), l58))
def yQ (p0 : AutT) (r1 : List Int) (st37 : Int × List Int × EdgL) (st55 : Int × EdgL) : Option ((Int × EdgL) ⊕ EdgL) :=
 if decide (st55.1 < (p0.1.length : Int)) then
  (idx r1 st37.1).bind fun x60 =>
  (idx p0.1 st55.1).bind fun x61 =>
  (y2v p0 x60 x61).bind fun r62 =>
  if decide (r62 ≥ 0) then
   (idx p0.1 st55.1).bind fun x63 =>
   (y2T r1 r62).bind fun r64 =>
   (app st55.2 ([(st37.1, x63, r64)] : List (Int × Int × Int))).bind fun x65 =>
   yP st55 x65
  else
   yP st55 st55.2
 else
  some (.inr st55.2)
def yR (p0 : AutT) (r1 : List Int) (st37 : Int × List Int × EdgL) (l41 : List Int) : Option ((Int × List Int × EdgL) ⊕ (List Int × EdgL)) :=
 (iter (yQ p0 r1 st37) (0, st37.2.2)).bind fun o55 =>
 some (.inl (W (st37.1 + 1), l41, o55))
def y1x (p0 : AutT) (r1 : List Int) (st37 : Int × List Int × EdgL) : Option ((Int × List Int × EdgL) ⊕ (List Int × EdgL)) :=
 if decide (st37.1 < (r1.length : Int)) then
  (idx r1 st37.1).bind fun x66 =>
  (y2G p0.2.2.1 x66).bind fun r67 =>
  if r67 then
   (app st37.2.1 ([st37.1] : List Int)).bind fun x68 =>
   yR p0 r1 st37 x68
  else
   yR p0 r1 st37 st37.2.1
 else
  some (.inr st37.2)
def y1Z (p0 : AutT) : Option AutT :=
 (y2S p0).bind fun r1 =>
 (y1t p0.1).bind fun r2 =>
 (iter (y1x p0 r1) (0, r2.2.2)).bind fun o37 =>
 some (r2.1, (r1.length : Int), o37)
theorem y6e {p0 : AutT} {r : AutT} (hm : y1Z p0 = some r) :
  Fw Tryz.prog 153 ⟨0, []⟩ [.a [lF qI p0.1, lI p0.2.1, lF qI p0.2.2.1, lF qT p0.2.2.2]] [] (.g [lH 0, lI r.2.1, lH 1, lH 2]) [ROW qI 3 r.1, ROW qI 3 r.2.2.1, ROW qT 97 r.2.2.2] := by
 unfold y1Z at hm
 refine Fw.mk' Tryz.func153 R Tryz.ntmps153 R R (fun C => ?_) R R
 refine .seq (.reg (.op (O.box 0 R Z R R R) R (.op (O.al 1 R zz25 R Z R) R (.nil (.seqN (.seq (.reg (.op (O.lg (l' := [lF qI p0.1, lI p0.2.1, lF qI p0.2.2.1, lF qT p0.2.2.2]) ag25 Z R (.B R) R R R) R (bS hm fun r1 er1 hm => .op (O.ca (r' := .h 2) [2] [(0, ROW qI 3 r1)] (some 3) (y6R er1) cf171 R R Z R R R R ⟨⟨_, R, fun _ _ _ _ h => h⟩, trivial⟩ (fun _ _ _ h => h) R) R (.sa R (.nil (.seqN (.seq (.reg (.op (O.faP y1D Z R R) R (.op (O.ld nag22 Z R (.B R) R R) R (bS hm fun r2 er2 hm => .op (O.ca (r' := .g [lH 3, lI r2.2.1, lH 4, lH 5]) [3, 4, 5] [(0, ROW qI 3 r2.1), (1, ROW qI 3 r2.2.2.1), (2, ROW qT 97 r2.2.2.2)] (some 6) (y4s er2) cf152 R R Z R R R R ⟨⟨_, R, fun _ _ _ _ h => h⟩, ⟨_, R, fun _ _ _ _ h => h⟩, ⟨_, R, fun _ _ _ _ h => h⟩, trivial⟩ (fun _ _ _ h => h) R) R (.op (O.al 6 R zz25 R Z R) R (.op (O.st ag25.sz Z R R R R R) R (.nil (.seqN (.seq (.reg (.mv R (.op (O.lenH sl22 Z R R R) R (.op (O.faP yW Z R R) R (.op (O.st nag3.sz Z R R R R R) R (.nil (.seqN (.seq (.seq (.reg (.sa R (.nil (.seqN (.block (bS hm fun o37 eo37 hm => ?_)))))))))))))))))))))))))))))))))))))
 refine .cut1 (z := .exit 0) o37 (fun (o37 : List Int × EdgL) => ⟨[(4, .q 0 0), (2, .q 4 0)], [(0, .bx 25 [lH 1, lI (r1.length : Int), lH 2, lH 3]), (1, ROW qI 3 r2.1), (2, ROW qI 3 o37.1), (3, ROW qT 97 o37.2), (4, .bx 25 [lN, lI 0, lN, lN])], 5⟩) ?_ fun K40 => ?_
 ·skip
  refine .blkE (.seqN (.seq (.reg (.op (O.lg (l' := [lH 1, lI (r1.length : Int), lH 2, lH 3]) ag25 Z R (.B R) R R R) R (.op (O.st ag25.sz Z R R R R R) R (.nil (.seqN (.ret ?_))))))))
  obtain rfl := oi hm
  exact WX.rt [1, 2, 3] (.inl R) Tryz.results153 (.cell R R ag25 R .nil) R (fun _ _ _ h => h) ⟨⟨_, R, fun _ _ _ _ h => h⟩, ⟨_, R, fun _ _ _ _ h => h⟩, ⟨_, R, fun _ _ _ _ h => h⟩, trivial⟩
 refine .iter (fun (st37 : Int × List Int × EdgL) => ⟨[(5, .i st37.1), (4, .q 0 0), (3, .h 4), (2, .q 5 0), (1, .q 6 0)], [(0, .bx 25 [lH 1, lI (r1.length : Int), lH 2, lH 3]), (1, ROW qI 3 r2.1), (2, ROW qI 3 st37.2.1), (3, ROW qT 97 st37.2.2), (4, ROW qI 3 r1), (5, .bx 25 [lN, lI 0, lN, lN]), (6, .bx 25 [lF qI p0.1, lI p0.2.1, lF qI p0.2.2.1, lF qT p0.2.2.2])], 7⟩) eo37 [(0, 6), (1, 3), (2, 4), (3, 5), (4, 2), (5, 1), (6, 0)] R ?_
 intro st37 res37 hm ih37 ho37
 unfold y1x at hm
 refine .seq (.seq (.reg (.mv R (.mv R (.op (O.lenH sl22 Z R R R) R (.bi R (.nil (.seqN ?_))))))))
 rcases ifS hm with ⟨hc, hm⟩ | ⟨hc, hm⟩
 ·refine .cT R hc ?_
  refine .skip (.seqN (.seq (.block ?_)))
  refine .join1 (fun (l41 : List Int) => yR p0 r1 st37 l41 = some res37) (fun l41 => ⟨[(5, .i st37.1), (4, .q 0 0), (3, .h 4), (2, .q 5 0), (1, .q 6 0)], [(0, .bx 25 [lH 1, lI (r1.length : Int), lH 2, lH 3]), (1, ROW qI 3 r2.1), (2, ROW qI 3 l41), (3, ROW qT 97 st37.2.2), (4, ROW qI 3 r1), (5, .bx 25 [lN, lI 0, lN, lN]), (6, .bx 25 [lF qI p0.1, lI p0.2.1, lF qI p0.2.2.1, lF qT p0.2.2.2])], 7⟩) ?_ ?_
  ·intro l41 hm
   unfold yR at hm
   refine .seq (.reg (.sa R (.nil (.seqN (.block (bS hm fun o55 eo55 hm => ?_))))))
   refine .cut1 (z := .exit 2) o55 (fun (o55 : EdgL) => ⟨[(5, .i st37.1), (4, .q 0 0), (3, .h 4), (2, .q 5 0), (1, .q 6 0)], [(0, .bx 25 [lH 1, lI (r1.length : Int), lH 2, lH 3]), (1, ROW qI 3 r2.1), (2, ROW qI 3 l41), (3, ROW qT 97 o55), (4, ROW qI 3 r1), (5, .bx 25 [lN, lI 0, lN, lN]), (6, .bx 25 [lF qI p0.1, lI p0.2.1, lF qI p0.2.2.1, lF qT p0.2.2.2])], 7⟩) ?_ fun K57 => ?_
   ·skip
    exact .blkE (.blkN (.seqN (.reg (.mv R (.bi R (.sa R (.nil ((ih37 _ (oi hm).symm).sub [] R))))))))
   refine .iter (fun (st55 : Int × EdgL) => ⟨[(6, .i st55.1), (5, .i st37.1), (4, .q 0 0), (3, .h 4), (2, .q 5 0), (1, .q 6 0)], [(0, .bx 25 [lH 1, lI (r1.length : Int), lH 2, lH 3]), (1, ROW qI 3 r2.1), (2, ROW qI 3 l41), (3, ROW qT 97 st55.2), (4, ROW qI 3 r1), (5, .bx 25 [lN, lI 0, lN, lN]), (6, .bx 25 [lF qI p0.1, lI p0.2.1, lF qI p0.2.2.1, lF qT p0.2.2.2])], 7⟩) eo55 [] R ?_
   intro st55 res55 hm ih55 ho55
   unfold yQ at hm
   refine .seq (.seq (.reg (.mv R (.op (O.faP y1D Z R R) R (.op (O.ld nag22 Z R (.B R) R R) R (.op (O.len sl22 Z R R) R (.bi R (.nil (.seqN ?_)))))))))
   rcases ifS hm with ⟨hc, hm⟩ | ⟨hc, hm⟩
   ·refine .cT R hc ?_
    refine .skip (.seqN ?_)
    refine .join1 (fun (l58 : List (Int × Int × Int)) => yP st55 l58 = some res55) (fun l58 => ⟨[(6, .i st55.1), (5, .i st37.1), (4, .q 0 0), (3, .h 4), (2, .q 5 0), (1, .q 6 0)], [(0, .bx 25 [lH 1, lI (r1.length : Int), lH 2, lH 3]), (1, ROW qI 3 r2.1), (2, ROW qI 3 l41), (3, ROW qT 97 l58), (4, ROW qI 3 r1), (5, .bx 25 [lN, lI 0, lN, lN]), (6, .bx 25 [lF qI p0.1, lI p0.2.1, lF qI p0.2.2.1, lF qT p0.2.2.2])], 7⟩) ?_ ?_
    ·intro l58 hm
     unfold yP at hm
     exact .reg (.mv R (.bi R (.sa R (.nil ((ih55 _ (oi hm).symm).sub [] R)))))
    ·intro Jj59
     refine .block (.seq ?_)
     refine .sub (τ := ⟨[(6, .i st55.1), (5, .i st37.1), (4, .q 0 0), (3, .h 4), (2, .q 5 0), (1, .q 6 0)], [(0, .bx 25 [lH 1, lI (r1.length : Int), lH 2, lH 3]), (1, ROW qI 3 r2.1), (2, ROW qI 3 l41), (3, ROW qT 97 st55.2), (4, ROW qI 3 r1), (5, .bx 25 [lN, lI 0, lN, lN]), (6, .bx 25 [lF qI p0.1, lI p0.2.1, lF qI p0.2.2.1, lF qT p0.2.2.2])], 7⟩) ?_ [] R
     refine bS hm fun x60 ex60 hm => bS hm fun x61 ex61 hm => bS hm fun r62 er62 hm => ?_
     refine .drw [(7, []), (7, []), (7, []), (7, [oF, oT, oT]), (7, [oF, oT, oT, oT]), (7, []), (7, [oF, oF, oF, oF, oF, oT]), (7, []), (7, [oF, oF, oF, oF, oF, oT, oT, oT]), (7, [oF, oF, oF, oF, oF, oT, oT, oT, oT]), (7, [oT, oT, oT, oT, oT, oT, oT, oT, oT, oT]), (7, [oT, oT, oT, oT, oT, oT, oT, oT, oT, oT, oT])] [_, _, _, _, _, _, _, _, _, _, _, _] ⟨[(7, .i r62), (6, .i st55.1), (5, .i st37.1), (4, .q 0 0), (3, .h 4), (2, .q 5 0), (1, .q 6 0)], [(0, .bx 25 [lH 1, lI (r1.length : Int), lH 2, lH 3]), (1, ROW qI 3 r2.1), (2, ROW qI 3 l41), (3, ROW qT 97 st55.2), (4, ROW qI 3 r1), (5, .bx 25 [lN, lI 0, lN, lN]), (6, .bx 25 [lF qI p0.1, lI p0.2.1, lF qI p0.2.2.1, lF qT p0.2.2.2])], 7⟩ ⟨O.lg (l' := [lF qI p0.1, lI p0.2.1, lF qI p0.2.2.1, lF qT p0.2.2.2]) ag25 Z R (.B R) R R R, O.mv Z R R, O.mv Z R R, O.ir sl22 Z R R R ex60 R, O.ld nag3 Z R (.R R ex60 lv3) R R, O.faP y1D Z R R, O.ld nag22 Z R (.B R) R R, O.mv Z R R, O.ix sl22 Z R R ex61 R, O.ld nag3 Z R (.E lv3) R R, O.ca0 (y5n er62) cf173 R R Z R R R, O.as Z R R, trivial⟩ (by kernel_rfl) R ?_
     refine .seqN (.seq (.reg (.mv R (.bi R (.nil (.seqN ?_))))))
     rcases ifS hm with ⟨hc, hm⟩ | ⟨hc, hm⟩
     ·refine .cT R hc ?_
      refine .sub (τ := ⟨[(7, .i r62), (6, .i st55.1), (5, .i st37.1), (4, .q 0 0), (3, .h 4), (2, .q 5 0), (1, .q 6 0)], [(0, .bx 25 [lH 1, lI (r1.length : Int), lH 2, lH 3]), (1, ROW qI 3 r2.1), (2, ROW qI 3 l41), (3, ROW qT 97 st55.2), (4, ROW qI 3 r1), (5, .bx 25 [lN, lI 0, lN, lN]), (6, .bx 25 [lF qI p0.1, lI p0.2.1, lF qI p0.2.2.1, lF qT p0.2.2.2])], 7⟩) ?_ [] R
      refine bS hm fun x63 ex63 hm => bS hm fun r64 er64 hm => bS hm fun x65 ex65 hm => ?_
      refine .drg 8 [(7, []), (7, [oT]), (7, []), (7, []), (7, [oF, oF, oF, oT]), (7, []), (7, [oF, oF, oF, oT, oT, oT]), (7, [oF, oF, oF, oT, oT, oT, oT]), (7, []), (7, []), (7, [oF, oF, oF, oF, oF, oF, oF, oF, oT, oT]), (7, [oF, oF, oT, oT, oT, oT, oT, oT, oT, oT, oT]), (7, [oF, oF, oT, oT, oT, oT, oT, oT, oT, oT, oT, oT]), (7, [oT, oT, oT, oT, oT, oT, oT, oT, oT, oT, oT, oT, oT]), (8, [oT, oT, oT, oT, oT, oT, oT, oT, oT, oT, oT, oT, oT, oT]), (8, [oT, oT, oT, oT, oT, oT, oT, oT, oT, oT, oT, oT, oT, oT, oT])] [_, _, _, _, _, _, _, _, _, _, _, _, _, _, _, _] ⟨[(6, .i st55.1), (5, .i st37.1), (4, .q 0 0), (3, .h 4), (2, .q 5 0), (1, .q 6 0)], [(0, .bx 25 [lH 1, lI (r1.length : Int), lH 2, lH 7]), (1, ROW qI 3 r2.1), (2, ROW qI 3 l41), (7, ROW qT 97 x65), (4, ROW qI 3 r1), (5, .bx 25 [lN, lI 0, lN, lN]), (6, .bx 25 [lF qI p0.1, lI p0.2.1, lF qI p0.2.2.1, lF qT p0.2.2.2])], 8⟩ ⟨O.faP yz Z R R, O.ld nag23 Z R (.B R) R R, O.mv Z R R, O.faP y1D Z R R, O.ld nag22 Z R (.B R) R R, O.mv Z R R, O.ix sl22 Z R R ex63 R, O.ld nag3 Z R (.E lv3) R R, O.mv Z R R, O.mv Z R R, O.caZ (y6S er64) cf174 R R Z R ⟨⟨R, .hr R, trivial⟩, ⟨R, LnL.rf⟩, trivial⟩ (fun _ _ _ _ _ h => h) R, O.bu (l := [lI st37.1, lI x63, lI r64]) pl97 R Z R R R, O.bsF (r := qT) (zs := ([(st37.1, x63, r64)] : List (Int × Int × Int))) bs23 R R Z R R R (.c (.p .k (.p .k .k)) .n) R R R, O.ap 7 Tryz.underlying23 el97 R R Z R R (.fr R) ex65 R, O.faP yz Z R R, O.st nag23.sz Z R R R R R, trivial⟩ (by kernel_rfl) R ?_
      exact .blkN ((Jj59 _ hm).sub [(3, 7)] R)
     ·refine .cF R hc ?_
      exact .skip (.blkN ((Jj59 _ hm).sub [] R))
   ·refine .cF R hc ?_
    exact .exit (.seqX (.seqX ((K57 _ (ho55 _ (oi hm).symm)).sub [] R)))
  ·intro Jj42
   refine .seq ?_
   refine .sub (τ := ⟨[(5, .i st37.1), (4, .q 0 0), (3, .h 4), (2, .q 5 0), (1, .q 6 0)], [(0, .bx 25 [lH 1, lI (r1.length : Int), lH 2, lH 3]), (1, ROW qI 3 r2.1), (2, ROW qI 3 st37.2.1), (3, ROW qT 97 st37.2.2), (4, ROW qI 3 r1), (5, .bx 25 [lN, lI 0, lN, lN]), (6, .bx 25 [lF qI p0.1, lI p0.2.1, lF qI p0.2.2.1, lF qT p0.2.2.2])], 7⟩) ?_ [] R
   refine bS hm fun x66 ex66 hm => bS hm fun r67 er67 hm => ?_
   refine .drw [(7, []), (7, [oT]), (7, []), (7, []), (7, [oF, oF, oT, oT]), (7, [oF, oF, oT, oT, oT]), (7, [oT, oT, oT, oT, oT, oT])] [_, _, _, _, _, _, _] ⟨[(28, .b r67), (5, .i st37.1), (4, .q 0 0), (3, .h 4), (2, .q 5 0), (1, .q 6 0)], [(0, .bx 25 [lH 1, lI (r1.length : Int), lH 2, lH 3]), (1, ROW qI 3 r2.1), (2, ROW qI 3 st37.2.1), (3, ROW qT 97 st37.2.2), (4, ROW qI 3 r1), (5, .bx 25 [lN, lI 0, lN, lN]), (6, .bx 25 [lF qI p0.1, lI p0.2.1, lF qI p0.2.2.1, lF qT p0.2.2.2])], 7⟩ ⟨O.faP y2N Z R R, O.ld nag22 Z R (.B R) R R, O.mv Z R R, O.mv Z R R, O.ir sl22 Z R R R ex66 R, O.ld nag3 Z R (.R R ex66 lv3) R R, O.ca0 (y5z er67) cf172 R R Z R R R, trivial⟩ (by kernel_rfl) R ?_
   refine .seqN ?_
   rcases ifS hm with ⟨hc, hm⟩ | ⟨hc, hm⟩
   ·refine .cT R hc ?_
    exact .reg (.op (O.faP y2N Z R R) R (.op (O.ld nag22 Z R (.B R) R R) R (.mv R (.op (O.bsF (r := qI) (zs := ([st37.1] : List Int)) bs22 R R Z R R R (.c .k .n) R R R) R (bS hm fun x68 ex68 hm => .op (O.ap 7 Tryz.underlying22 el3 R R Z R R (.fr R) ex68 R) R (.op (O.faP y2N Z R R) R (.op (O.st nag22.sz Z R R R R R) R (.nil ((Jj42 _ hm).sub [(2, 7)] R)))))))))
   ·refine .cF R hc ?_
    exact .skip ((Jj42 _ hm).sub [] R)
 ·refine .cF R hc ?_
  exact .exit (.seqX (.seqX ((K40 _ (ho37 _ (oi hm).symm)).sub [(4, 5)] R)))
def y1H (st61 : Int × EdgL) (l66 : List (Int × Int × Int)) : Option ((Int × EdgL) ⊕ EdgL) :=
 some (.inl (W (st61.1 + 1), l66))
def y2y (p0 : List Int) (p1 : y1M) (st40 : Int × List Int × EdgL) (st61 : Int × EdgL) : Option ((Int × EdgL) ⊕ EdgL) :=
 if ((decide (st61.1 < (p0.length : Int))) && (decide (st61.1 < 5))) then
  (rng st40.1 5).bind fun _ =>
  (rng st61.1 5).bind fun _ =>
  (([p1.2.2.1.1, p1.2.2.1.2.1, p1.2.2.1.2.2.1, p1.2.2.1.2.2.2.1, p1.2.2.1.2.2.2.2, p1.2.2.2.1.1, p1.2.2.2.1.2.1, p1.2.2.2.1.2.2.1, p1.2.2.2.1.2.2.2.1, p1.2.2.2.1.2.2.2.2, p1.2.2.2.2.1.1, p1.2.2.2.2.1.2.1, p1.2.2.2.2.1.2.2.1, p1.2.2.2.2.1.2.2.2.1, p1.2.2.2.2.1.2.2.2.2, p1.2.2.2.2.2.1.1, p1.2.2.2.2.2.1.2.1, p1.2.2.2.2.2.1.2.2.1, p1.2.2.2.2.2.1.2.2.2.1, p1.2.2.2.2.2.1.2.2.2.2, p1.2.2.2.2.2.2.1, p1.2.2.2.2.2.2.2.1, p1.2.2.2.2.2.2.2.2.1, p1.2.2.2.2.2.2.2.2.2.1, p1.2.2.2.2.2.2.2.2.2.2] : List Int)[st40.1.toNat * 5 + st61.1.toNat * 1]?).bind fun x70 =>
  (nz (W ((W (1 + (W (p1.1.tmod 5)))) + 2))).bind fun _ =>
  if decide (((W x70).tmod (W ((W (1 + (W (p1.1.tmod 5)))) + 2))) < (W (1 + (W (p1.1.tmod 5))))) then
   (idx p0 st61.1).bind fun x72 =>
   (app st61.2 ([(st40.1, x72, ((W x70).tmod (W ((W (1 + (W (p1.1.tmod 5)))) + 2))))] : List (Int × Int × Int))).bind fun x73 =>
   y1H st61 x73
  else
   y1H st61 st61.2
 else
  some (.inr st61.2)
def y1I (p0 : List Int) (p1 : y1M) (st40 : Int × List Int × EdgL) (l45 : List Int) : Option ((Int × List Int × EdgL) ⊕ (List Int × EdgL)) :=
 (iter (y2y p0 p1 st40) (0, st40.2.2)).bind fun o61 =>
 some (.inl (W (st40.1 + 1), l45, o61))
def y2z (p0 : List Int) (p1 : y1M) (st40 : Int × List Int × EdgL) : Option ((Int × List Int × EdgL) ⊕ (List Int × EdgL)) :=
 if decide (st40.1 < (W (1 + (W (p1.1.tmod 5))))) then
  (ng st40.1).bind fun _ =>
  if ((IntKind.u8.wrap (((BitVec.ofInt 8 (p1.2.1.fdiv (2 ^ (min st40.1.toNat 8))) &&& BitVec.ofInt 8 1).toNat : Int))) == 1) then
   (app st40.2.1 ([st40.1] : List Int)).bind fun x75 =>
   y1I p0 p1 st40 x75
  else
   y1I p0 p1 st40 st40.2.1
 else
  some (.inr st40.2)
def y2w (p0 : List Int) (p1 : y1M) : Option AutT :=
 if decide (p1.1 ≥ 250) then
  (y1t p0).bind fun r1 =>
  some r1
 else
  (y1t p0).bind fun r2 =>
  (iter (y2z p0 p1) (0, r2.2.2)).bind fun o40 =>
  (y1Z (r2.1, W (1 + (W (p1.1.tmod 5))), o40)).bind fun r44 =>
  some r44
theorem y5o {p0 : List Int} {p1 : y1M} {r : AutT} (hm : y2w p0 p1 = some r) :
  Fw Tryz.prog 119 ⟨0, []⟩ [.f qI p0, .a (lx55 p1)] [] (.g [lH 0, lI r.2.1, lH 1, lH 2]) [ROW qI 3 r.1, ROW qI 3 r.2.2.1, ROW qT 97 r.2.2.2] := by
 unfold y2w at hm
 refine Fw.mk' Tryz.func119 R Tryz.ntmps119 R R (fun C => ?_) R R
 refine .seq (.reg (.op (O.box 0 R Z R R R) R (.op (O.al 1 R zz25 R Z R) R (.nil (.seqN (.seq (.seq (.reg (.op (O.faP ycX Z R R) R (.op (O.ld nag5 Z R (.B R) R R) R (.bi R (.nil (.seqN ?_)))))))))))))
 rcases ifS hm with ⟨hc, hm⟩ | ⟨hc, hm⟩
 ·refine .cT R hc ?_
  refine .seq (.reg (.mv R (bS hm fun r1 er1 hm => .op (O.ca (r' := .g [lH 2, lI r1.2.1, lH 3, lH 4]) [2, 3, 4] [(0, ROW qI 3 r1.1), (1, ROW qI 3 r1.2.2.1), (2, ROW qT 97 r1.2.2.2)] (some 5) (y4s er1) cf152 R R Z R R R R ⟨⟨_, R, fun _ _ _ _ h => h⟩, ⟨_, R, fun _ _ _ _ h => h⟩, ⟨_, R, fun _ _ _ _ h => h⟩, trivial⟩ (fun _ _ _ h => h) R) R (.op (O.st ag25.sz Z R R R R R) R (.nil (.seqN (.ret (.seqR ?_))))))))
  obtain rfl := oi hm
  exact WX.rt [2, 3, 4] (.inl R) Tryz.results119 (.cell R R ag25 R .nil) R (fun _ _ _ h => h) ⟨⟨_, R, fun _ _ _ _ h => h⟩, ⟨_, R, fun _ _ _ _ h => h⟩, ⟨_, R, fun _ _ _ _ h => h⟩, trivial⟩
 ·refine .cF R hc ?_
  refine .skip (.seqN (.seq (.reg (.mv R (bS hm fun r2 er2 hm => .op (O.ca (r' := .g [lH 2, lI r2.2.1, lH 3, lH 4]) [2, 3, 4] [(0, ROW qI 3 r2.1), (1, ROW qI 3 r2.2.2.1), (2, ROW qT 97 r2.2.2.2)] (some 5) (y4s er2) cf152 R R Z R R R R ⟨⟨_, R, fun _ _ _ _ h => h⟩, ⟨_, R, fun _ _ _ _ h => h⟩, ⟨_, R, fun _ _ _ _ h => h⟩, trivial⟩ (fun _ _ _ h => h) R) R (.op (O.al 5 R zz25 R Z R) R (.op (O.st ag25.sz Z R R R R R) R (.nil (.seqN (.seq (.reg (.op (O.faP ycX Z R R) R (.op (O.ld nag5 Z R (.B R) R R) R (.op (O.rem Z R R (by decide) R) R (.op (O.cv Tryz.underlying5 Tryz.underlying3 Z R R) R (.bi R (.op (O.faP yW Z R R) R (.op (O.st nag3.sz Z R R R R R) R (.nil (.seqN (.seq (.seq (.reg (.sa R (.nil (.seqN (.block (bS hm fun o40 eo40 hm => ?_))))))))))))))))))))))))))))
  refine .cut1 (z := .exit 0) o40 (fun (o40 : List Int × EdgL) => ⟨[(5, .q 0 0), (4, .q 4 0)], [(0, .bx 25 [lH 1, lI (W (1 + (W (p1.1.tmod 5)))), lH 2, lH 3]), (1, ROW qI 3 r2.1), (2, ROW qI 3 o40.1), (3, ROW qT 97 o40.2), (4, .bx 25 [lN, lI 0, lN, lN])], 5⟩) ?_ fun K43 => ?_
  ·skip
   refine .blkE (.seqN (.seq (.reg (.op (O.lg (l' := [lH 1, lI (W (1 + (W (p1.1.tmod 5)))), lH 2, lH 3]) ag25 Z R (.B R) R R R) R (.fz 1 [77] [0] R R fR R R (.fz 2 [77] [0] R R fR R R (.fz 3 [77] [0] R R fR R R (bS hm fun r44 er44 hm => .op (O.ca (r' := .g [lH 5, lI r44.2.1, lH 6, lH 7]) [5, 6, 7] [(0, ROW qI 3 r44.1), (1, ROW qI 3 r44.2.2.1), (2, ROW qT 97 r44.2.2.2)] (some 8) (y6e er44) cf153 R R Z R R R R ⟨⟨_, R, fun _ _ _ _ h => h⟩, ⟨_, R, fun _ _ _ _ h => h⟩, ⟨_, R, fun _ _ _ _ h => h⟩, trivial⟩ (fun _ _ _ h => h) R) R (.op (O.st ag25.sz Z R R R R R) R (.nil (.seqN (.ret ?_))))))))))))
   obtain rfl := oi hm
   exact WX.rt [5, 6, 7] (.inl R) Tryz.results119 (.cell R R ag25 R .nil) R (fun _ _ _ h => h) ⟨⟨_, R, fun _ _ _ _ h => h⟩, ⟨_, R, fun _ _ _ _ h => h⟩, ⟨_, R, fun _ _ _ _ h => h⟩, trivial⟩
  refine .iter (fun (st40 : Int × List Int × EdgL) => ⟨[(6, .i st40.1), (5, .q 0 0), (4, .q 4 0), (3, .q 5 0), (0, .f qI p0)], [(0, .bx 25 [lH 1, lI (W (1 + (W (p1.1.tmod 5)))), lH 2, lH 3]), (1, ROW qI 3 r2.1), (2, ROW qI 3 st40.2.1), (3, ROW qT 97 st40.2.2), (4, .bx 25 [lN, lI 0, lN, lN]), (5, .bx 55 (lx55 p1))], 6⟩) eo40 [(0, 5), (1, 2), (2, 3), (3, 4), (4, 1), (5, 0)] R ?_
  intro st40 res40 hm ih40 ho40
  unfold y2z at hm
  refine .seq (.seq (.reg (.mv R (.op (O.faP yW Z R R) R (.op (O.ld nag3 Z R (.B R) R R) R (.bi R (.nil (.seqN ?_))))))))
  rcases ifS hm with ⟨hc, hm⟩ | ⟨hc, hm⟩
  ·refine .cT R hc ?_
   refine .skip (.seqN (.seq (.block ?_)))
   refine .join1 (fun (l45 : List Int) => y1I p0 p1 st40 l45 = some res40) (fun l45 => ⟨[(6, .i st40.1), (5, .q 0 0), (4, .q 4 0), (3, .q 5 0), (0, .f qI p0)], [(0, .bx 25 [lH 1, lI (W (1 + (W (p1.1.tmod 5)))), lH 2, lH 3]), (1, ROW qI 3 r2.1), (2, ROW qI 3 l45), (3, ROW qT 97 st40.2.2), (4, .bx 25 [lN, lI 0, lN, lN]), (5, .bx 55 (lx55 p1))], 6⟩) ?_ ?_
   ·intro l45 hm
    unfold y1I at hm
    refine .seq (.reg (.sa R (.nil (.seqN (.block (bS hm fun o61 eo61 hm => ?_))))))
    refine .cut1 (z := .exit 2) o61 (fun (o61 : EdgL) => ⟨[(6, .i st40.1), (5, .q 0 0), (4, .q 4 0), (3, .q 5 0), (0, .f qI p0)], [(0, .bx 25 [lH 1, lI (W (1 + (W (p1.1.tmod 5)))), lH 2, lH 3]), (1, ROW qI 3 r2.1), (2, ROW qI 3 l45), (3, ROW qT 97 o61), (4, .bx 25 [lN, lI 0, lN, lN]), (5, .bx 55 (lx55 p1))], 6⟩) ?_ fun K63 => ?_
    ·skip
     exact .blkE (.blkN (.seqN (.reg (.mv R (.bi R (.sa R (.nil ((ih40 _ (oi hm).symm).sub [] R))))))))
    refine .iter (fun (st61 : Int × EdgL) => ⟨[(7, .i st61.1), (6, .i st40.1), (5, .q 0 0), (4, .q 4 0), (3, .q 5 0), (0, .f qI p0)], [(0, .bx 25 [lH 1, lI (W (1 + (W (p1.1.tmod 5)))), lH 2, lH 3]), (1, ROW qI 3 r2.1), (2, ROW qI 3 l45), (3, ROW qT 97 st61.2), (4, .bx 25 [lN, lI 0, lN, lN]), (5, .bx 55 (lx55 p1))], 6⟩) eo61 [] R ?_
    intro st61 res61 hm ih61 ho61
    unfold y2y at hm
    refine .seq (.seq (.reg (.mv R (.mv R (.op (O.len sl22 Z R R) R (.bi R (.mv R ?_)))))))
    refine .cut 3 (fun (v64 : Bool) => ((decide (st61.1 < (p0.length : Int))) && (decide (st61.1 < 5))) = v64) (fun v64 => ⟨[(47, .b v64), (7, .i st61.1), (6, .i st40.1), (5, .q 0 0), (4, .q 4 0), (3, .q 5 0), (0, .f qI p0)], [(0, .bx 25 [lH 1, lI (W (1 + (W (p1.1.tmod 5)))), lH 2, lH 3]), (1, ROW qI 3 r2.1), (2, ROW qI 3 l45), (3, ROW qT 97 st61.2), (4, .bx 25 [lN, lI 0, lN, lN]), (5, .bx 55 (lx55 p1))], 6⟩) ?_ ?_
    ·rintro _ rfl
     refine .nil (.seqN ?_)
     rcases ifS hm with ⟨hc, hm⟩ | ⟨hc, hm⟩
     ·refine .cT R hc ?_
      refine .skip (.seqN ?_)
      refine .join1 (fun (l66 : List (Int × Int × Int)) => y1H st61 l66 = some res61) (fun l66 => ⟨[(7, .i st61.1), (6, .i st40.1), (5, .q 0 0), (4, .q 4 0), (3, .q 5 0), (0, .f qI p0)], [(0, .bx 25 [lH 1, lI (W (1 + (W (p1.1.tmod 5)))), lH 2, lH 3]), (1, ROW qI 3 r2.1), (2, ROW qI 3 l45), (3, ROW qT 97 l66), (4, .bx 25 [lN, lI 0, lN, lN]), (5, .bx 55 (lx55 p1))], 6⟩) ?_ ?_
      ·intro l66 hm
       unfold y1H at hm
       exact .reg (.mv R (.bi R (.sa R (.nil ((ih61 _ (oi hm).symm).sub [] R)))))
      ·intro Jj67
       refine .block (.seq ?_)
       refine .sub (τ := ⟨[(7, .i st61.1), (6, .i st40.1), (5, .q 0 0), (4, .q 4 0), (3, .q 5 0), (0, .f qI p0)], [(0, .bx 25 [lH 1, lI (W (1 + (W (p1.1.tmod 5)))), lH 2, lH 3]), (1, ROW qI 3 r2.1), (2, ROW qI 3 l45), (3, ROW qT 97 st61.2), (4, .bx 25 [lN, lI 0, lN, lN]), (5, .bx 55 (lx55 p1))], 6⟩) ?_ [] R
       refine bS hm fun _ z68 hm => bS hm fun _ z69 hm => bS hm fun x70 ex70 hm => bS hm fun _ z71 hm => ?_
       refine .drw [(6, []), (6, []), (6, []), (6, [oT, oF, oT]), (6, [oT, oT, oT, oT]), (6, [oT, oT, oT, oT, oT]), (6, [oT, oT, oT, oT, oT, oT]), (6, []), (6, [oF, oF, oF, oF, oF, oF, oF, oT]), (6, [oF, oF, oF, oF, oF, oF, oF, oT, oT]), (6, [oT, oT, oT, oT, oT, oT, oT, oT, oT, oT]), (6, [oT, oT, oT, oT, oT, oT, oT, oT, oT, oT, oT])] [_, _, _, _, _, _, _, _, _, _, _, _] ⟨[(8, .i ((W x70).tmod (W ((W (1 + (W (p1.1.tmod 5)))) + 2)))), (7, .i st61.1), (6, .i st40.1), (5, .q 0 0), (4, .q 4 0), (3, .q 5 0), (0, .f qI p0)], [(0, .bx 25 [lH 1, lI (W (1 + (W (p1.1.tmod 5)))), lH 2, lH 3]), (1, ROW qI 3 r2.1), (2, ROW qI 3 l45), (3, ROW qT 97 st61.2), (4, .bx 25 [lN, lI 0, lN, lN]), (5, .bx 55 (lx55 p1))], 6⟩ ⟨O.mv Z R R, O.mv Z R R, O.faP yeG Z R R, O.ia ia53 Z R R z68 R, O.ia ia52 Z R R z69 R, O.ldA (off := 2) (k := st40.1.toNat * 5 + st61.1.toNat * 1) (m := 25) (cs := [p1.2.2.1.1, p1.2.2.1.2.1, p1.2.2.1.2.2.1, p1.2.2.1.2.2.2.1, p1.2.2.1.2.2.2.2, p1.2.2.2.1.1, p1.2.2.2.1.2.1, p1.2.2.2.1.2.2.1, p1.2.2.2.1.2.2.2.1, p1.2.2.2.1.2.2.2.2, p1.2.2.2.2.1.1, p1.2.2.2.2.1.2.1, p1.2.2.2.2.1.2.2.1, p1.2.2.2.2.1.2.2.2.1, p1.2.2.2.2.1.2.2.2.2, p1.2.2.2.2.2.1.1, p1.2.2.2.2.2.1.2.1, p1.2.2.2.2.2.1.2.2.1, p1.2.2.2.2.2.1.2.2.2.1, p1.2.2.2.2.2.1.2.2.2.2, p1.2.2.2.2.2.2.1, p1.2.2.2.2.2.2.2.1, p1.2.2.2.2.2.2.2.2.1, p1.2.2.2.2.2.2.2.2.2.1, p1.2.2.2.2.2.2.2.2.2.2]) nag5 Z R R R (by omega) ex70 R, O.cv Tryz.underlying5 Tryz.underlying3 Z R R, O.faP yW Z R R, O.ld nag3 Z R (.B R) R R, O.bi Z R R R R, O.rem Z R R (ybs z71) R, O.as Z R R, trivial⟩ (by kernel_rfl) R ?_
       refine .seqN (.seq (.reg (.mv R (.op (O.faP yW Z R R) R (.op (O.ld nag3 Z R (.B R) R R) R (.bi R (.nil (.seqN ?_))))))))
       rcases ifS hm with ⟨hc, hm⟩ | ⟨hc, hm⟩
       ·refine .cT R hc ?_
        refine .sub (τ := ⟨[(8, .i ((W x70).tmod (W ((W (1 + (W (p1.1.tmod 5)))) + 2)))), (7, .i st61.1), (6, .i st40.1), (5, .q 0 0), (4, .q 4 0), (3, .q 5 0), (0, .f qI p0)], [(0, .bx 25 [lH 1, lI (W (1 + (W (p1.1.tmod 5)))), lH 2, lH 3]), (1, ROW qI 3 r2.1), (2, ROW qI 3 l45), (3, ROW qT 97 st61.2), (4, .bx 25 [lN, lI 0, lN, lN]), (5, .bx 55 (lx55 p1))], 6⟩) ?_ [] R
        refine bS hm fun x72 ex72 hm => bS hm fun x73 ex73 hm => ?_
        refine .drg 7 [(6, []), (6, [oT]), (6, []), (6, []), (6, []), (6, [oF, oF, oF, oT, oT]), (6, [oF, oF, oF, oT, oT, oT]), (6, []), (6, [oF, oF, oT, oT, oT, oT, oT, oT]), (6, [oF, oF, oT, oT, oT, oT, oT, oT, oT]), (6, [oT, oT, oT, oT, oT, oT, oT, oT, oT, oT]), (7, [oT, oT, oT, oT, oT, oT, oT, oT, oT, oT, oT]), (7, [oT, oT, oT, oT, oT, oT, oT, oT, oT, oT, oT, oT])] [_, _, _, _, _, _, _, _, _, _, _, _, _] ⟨[(7, .i st61.1), (6, .i st40.1), (5, .q 0 0), (4, .q 4 0), (3, .q 5 0), (0, .f qI p0)], [(0, .bx 25 [lH 1, lI (W (1 + (W (p1.1.tmod 5)))), lH 2, lH 6]), (1, ROW qI 3 r2.1), (2, ROW qI 3 l45), (6, ROW qT 97 x73), (4, .bx 25 [lN, lI 0, lN, lN]), (5, .bx 55 (lx55 p1))], 7⟩ ⟨O.faP yz Z R R, O.ld nag23 Z R (.B R) R R, O.mv Z R R, O.mv Z R R, O.mv Z R R, O.ix sl22 Z R R ex72 R, O.ld nag3 Z R (.E lv3) R R, O.mv Z R R, O.bu (l := [lI st40.1, lI x72, lI ((W x70).tmod (W ((W (1 + (W (p1.1.tmod 5)))) + 2)))]) pl97 R Z R R R, O.bsF (r := qT) (zs := ([(st40.1, x72, ((W x70).tmod (W ((W (1 + (W (p1.1.tmod 5)))) + 2))))] : List (Int × Int × Int))) bs23 R R Z R R R (.c (.p .k (.p .k .k)) .n) R R R, O.ap 6 Tryz.underlying23 el97 R R Z R R (.fr R) ex73 R, O.faP yz Z R R, O.st nag23.sz Z R R R R R, trivial⟩ (by kernel_rfl) R ?_
        exact .blkN ((Jj67 _ hm).sub [(3, 6)] R)
       ·refine .cF R hc ?_
        exact .skip (.blkN ((Jj67 _ hm).sub [] R))
     ·refine .cF R hc ?_
      exact .exit (.seqX (.seqX ((K63 _ (ho61 _ (oi hm).symm)).sub [] R)))
    ·intro J65
     rcases Bool.eq_false_or_eq_true (decide (st61.1 < (p0.length : Int))) with hc | hc
     ·refine .know (d := 44) R hc ?_
      exact .op (O.mv (Gu.mk R R) R R) R (.op (O.bi (Gu.mk R R) R R R R) R (.op (O.pkT Z R R R R) R ((J65 (decide (st61.1 < 5)) (andT hc).symm).sub [] R)))
     ·refine .know (d := 44) R hc ?_
      exact .sk R (.sk R (.op (O.pkF Z R R R R) R ((J65 false (andF hc).symm).sub [] R)))
   ·intro Jj46
    refine .seq (.reg (.op (O.faP yeF Z R R) R (.op (O.ld nag5 Z R (.B R) R R) R (.mv R (bS hm fun _ z74 hm => .op (O.shr Z R R (ybt z74) R) R (.bi R (.bi R (.nil (.seqN ?_)))))))))
    rcases ifS hm with ⟨hc, hm⟩ | ⟨hc, hm⟩
    ·refine .cT R hc ?_
     exact .reg (.op (O.faP y2N Z R R) R (.op (O.ld nag22 Z R (.B R) R R) R (.mv R (.op (O.bsF (r := qI) (zs := ([st40.1] : List Int)) bs22 R R Z R R R (.c .k .n) R R R) R (bS hm fun x75 ex75 hm => .op (O.ap 6 Tryz.underlying22 el3 R R Z R R (.fr R) ex75 R) R (.op (O.faP y2N Z R R) R (.op (O.st nag22.sz Z R R R R R) R (.nil ((Jj46 _ hm).sub [(2, 6)] R)))))))))
    ·refine .cF R hc ?_
     exact .skip ((Jj46 _ hm).sub [] R)
  ·refine .cF R hc ?_
   exact .exit (.seqX (.seqX ((K43 _ (ho40 _ (oi hm).symm)).sub [] R)))
def y3f (p0 : (Int × y1M) × (Int × y1M) × Int) : Option (AutT × AutT × List Int) :=
 (yG p0.1.1).bind fun r1 =>
 (y2w r1 p0.1.2).bind fun r2 =>
 (yG p0.2.1.1).bind fun r3 =>
 (y2q r3 r2.1).bind fun r4 =>
 (y2w r4 p0.2.1.2).bind fun r5 =>
 (yG p0.2.2).bind fun r6 =>
 some (r2, r5, r6)
theorem y7i {p0 : (Int × y1M) × (Int × y1M) × Int} {r : AutT × AutT × List Int} (hm : y3f p0 = some r) :
  Fw Tryz.prog 69 ⟨0, []⟩ [.a (lx59 p0)] [] (.tp [.a [lF qI r.1.1, lI r.1.2.1, lH 0, lH 1], .a [lH 2, lI r.2.1.2.1, lH 3, lH 4], .h 5]) [ROW qI 3 r.1.2.2.1, ROW qT 97 r.1.2.2.2, ROW qI 3 r.2.1.1, ROW qI 3 r.2.1.2.2.1, ROW qT 97 r.2.1.2.2.2, ROW qI 3 r.2.2] := by
 unfold y3f at hm
 refine Fw.mk' Tryz.func69 R Tryz.ntmps69 R R (fun C => ?_) R R
 refine .seq (.reg (.op (O.box 0 R Z R R R) R (.op (O.al 1 R zz25 R Z R) R (.op (O.al 2 R zz25 R Z R) R (.sa R (.nil (.seqN (.seq ?_))))))))
 refine .sub (τ := ⟨[(3, .q 2 0), (2, .q 1 0), (1, .q 0 0)], [(2, .bx 25 [lN, lI 0, lN, lN]), (1, .bx 25 [lN, lI 0, lN, lN]), (0, .bx 59 (lx59 p0))], 3⟩) ?_ [] R
 refine bS hm fun r1 er1 hm => bS hm fun r2 er2 hm => ?_
 refine .drg 6 [(3, []), (3, [oT]), (3, [oT, oT]), (3, [oT, oT, oT]), (3, []), (3, [oF, oF, oF, oF, oT]), (3, [oF, oF, oF, oF, oT, oT]), (3, [oT, oT, oT, oT, oT, oT, oT]), (6, [oT, oT, oT, oT, oT, oT, oT, oT])] [_, _, _, _, _, _, _, _, _] ⟨[(3, .q 2 0), (2, .q 1 0), (1, .q 0 0)], [(2, .bx 25 [lN, lI 0, lN, lN]), (1, .bx 25 [lH 3, lI r2.2.1, lH 4, lH 5]), (3, ROW qI 3 r2.1), (4, ROW qI 3 r2.2.2.1), (5, ROW qT 97 r2.2.2.2), (0, .bx 59 (lx59 p0))], 6⟩ ⟨O.faP yd0 Z R R, O.faP ycY Z R R, O.ld nag51 Z R (.B R) R R, O.ca0 (r := .f qI r1) (Fw.fz (y3w er1)) cf120 R R Z R R R, O.faP yd0 Z R R, O.faP ycZ Z R R, O.lg (l' := (lx55 p0.1.2)) ag55 Z R (.B R) R R R, O.ca (r' := .g [lH 3, lI r2.2.1, lH 4, lH 5]) [3, 4, 5] [(0, ROW qI 3 r2.1), (1, ROW qI 3 r2.2.2.1), (2, ROW qT 97 r2.2.2.2)] (some 6) (y5o er2) cf119 R R Z R R R R ⟨⟨_, R, fun _ _ _ _ h => h⟩, ⟨_, R, fun _ _ _ _ h => h⟩, ⟨_, R, fun _ _ _ _ h => h⟩, trivial⟩ (fun _ _ _ h => h) R, O.st ag25.sz Z R R R R R, trivial⟩ (by kernel_rfl) R ?_
 refine .seqN (.seq (.fz 3 [] [1] R R fR R R ?_))
 refine .sub (τ := ⟨[(3, .q 2 0), (2, .q 1 0), (1, .q 0 0)], [(2, .bx 25 [lN, lI 0, lN, lN]), (1, .bx 25 [lF qI r2.1, lI r2.2.1, lH 4, lH 5]), (4, ROW qI 3 r2.2.2.1), (5, ROW qT 97 r2.2.2.2), (0, .bx 59 (lx59 p0))], 6⟩) ?_ [] R
 refine bS hm fun r3 er3 hm => bS hm fun r4 er4 hm => bS hm fun r5 er5 hm => ?_
 refine .drg 9 [(6, []), (6, [oT]), (6, [oT, oT]), (6, [oT, oT, oT]), (6, []), (6, [oF, oF, oF, oF, oT]), (6, [oT, oT, oT, oT, oT, oT]), (6, []), (6, [oF, oF, oF, oF, oF, oF, oF, oT]), (6, [oF, oF, oF, oF, oF, oF, oF, oT, oT]), (6, [oT, oT, oT, oT, oT, oT, oT, oT, oT, oT]), (9, [oT, oT, oT, oT, oT, oT, oT, oT, oT, oT, oT])] [_, _, _, _, _, _, _, _, _, _, _, _] ⟨[(3, .q 2 0), (2, .q 1 0), (1, .q 0 0)], [(2, .bx 25 [lH 6, lI r5.2.1, lH 7, lH 8]), (6, ROW qI 3 r5.1), (7, ROW qI 3 r5.2.2.1), (8, ROW qT 97 r5.2.2.2), (1, .bx 25 [lF qI r2.1, lI r2.2.1, lH 4, lH 5]), (4, ROW qI 3 r2.2.2.1), (5, ROW qT 97 r2.2.2.2), (0, .bx 59 (lx59 p0))], 9⟩ ⟨O.faP yd1 Z R R, O.faP ycY Z R R, O.ld nag51 Z R (.B R) R R, O.ca0 (r := .f qI r3) (Fw.fz (y3w er3)) cf120 R R Z R R R, O.faP y1D Z R R, O.ld nag22 Z R (.B R) R R, O.ca0 (r := .f qI r4) (Fw.fz (y5l er4)) cf104 R R Z R R R, O.faP yd1 Z R R, O.faP ycZ Z R R, O.lg (l' := (lx55 p0.2.1.2)) ag55 Z R (.B R) R R R, O.ca (r' := .g [lH 6, lI r5.2.1, lH 7, lH 8]) [6, 7, 8] [(0, ROW qI 3 r5.1), (1, ROW qI 3 r5.2.2.1), (2, ROW qT 97 r5.2.2.2)] (some 9) (y5o er5) cf119 R R Z R R R R ⟨⟨_, R, fun _ _ _ _ h => h⟩, ⟨_, R, fun _ _ _ _ h => h⟩, ⟨_, R, fun _ _ _ _ h => h⟩, trivial⟩ (fun _ _ _ h => h) R, O.st ag25.sz Z R R R R R, trivial⟩ (by kernel_rfl) R ?_
 refine .seqN (.seq ?_)
 refine .sub (τ := ⟨[(3, .q 2 0), (2, .q 1 0), (1, .q 0 0)], [(2, .bx 25 [lH 6, lI r5.2.1, lH 7, lH 8]), (6, ROW qI 3 r5.1), (7, ROW qI 3 r5.2.2.1), (8, ROW qT 97 r5.2.2.2), (1, .bx 25 [lF qI r2.1, lI r2.2.1, lH 4, lH 5]), (4, ROW qI 3 r2.2.2.1), (5, ROW qT 97 r2.2.2.2), (0, .bx 59 (lx59 p0))], 9⟩) ?_ [] R
 refine bS hm fun r6 er6 hm => ?_
 refine .drd 10 [(9, [], []), (9, [], [1]), (9, [], []), (9, [oF, oF, oT], []), (9, [oF, oF, oT, oT], []), (10, [oT, oF, oT, oT, oT], []), (10, [oT, oT, oT, oT, oT, oT], []), (10, [oT, oT, oT, oT, oT, oT, oT], [])] [_, _, _, _, _, _, _, _] ⟨[(4, .h 9), (3, .q 2 0), (2, .q 1 0)], [(9, ROW qI 3 r6), (2, .bx 25 [lH 6, lI r5.2.1, lH 7, lH 8]), (6, ROW qI 3 r5.1), (7, ROW qI 3 r5.2.2.1), (8, ROW qT 97 r5.2.2.2), (1, .bx 25 [lF qI r2.1, lI r2.2.1, lH 4, lH 5]), (4, ROW qI 3 r2.2.2.1), (5, ROW qT 97 r2.2.2.2)], 10⟩ ⟨O.lg (l' := [lF qI r2.1, lI r2.2.1, lH 4, lH 5]) ag25 Z R (.B R) R R R, O.lg (l' := [lH 6, lI r5.2.1, lH 7, lH 8]) ag25 Z R (.B R) R R R, O.faP yeH Z R R, O.ld nag51 Z R (.B R) R R, O.ca (r' := .h 9) [9] [(0, ROW qI 3 r6)] (some 10) (y3w er6) cf120 R R Z R R R R ⟨⟨_, R, fun _ _ _ _ h => h⟩, trivial⟩ (fun _ _ _ h => h) R, O.st ag25.sz Z R R R R R, O.st ag25.sz Z R R R R R, O.as Z R R, trivial⟩ (by kernel_rfl) R ?_
 refine .seqN (.ret ?_)
 obtain rfl := oi hm
 exact WX.rt [4, 5, 6, 7, 8, 9] (.inl R) Tryz.results69 (.cell R R ag25 R (.cell R R ag25 R (.tmp R .nil))) R (fun _ _ _ h => h) ⟨⟨_, R, fun _ _ _ _ h => h⟩, ⟨_, R, fun _ _ _ _ h => h⟩, ⟨_, R, fun _ _ _ _ h => h⟩, ⟨_, R, fun _ _ _ _ h => h⟩, ⟨_, R, fun _ _ _ _ h => h⟩, ⟨_, R, fun _ _ _ _ h => h⟩, trivial⟩
def y5e (p0 : AutT) (p1 : Int) (p2 : Int) (st9 : Int) : Option (Int ⊕ (Unit ⊕ Int)) :=
 if decide (st9 < (p0.2.2.2.length : Int)) then
  (idx p0.2.2.2 st9).bind fun x15 =>
  (if (x15.1 == p1) then
   (idx p0.2.2.2 st9).bind fun x20 =>
   some (x20.2.1 == p2)
  else
   some false).bind fun b16 =>
  if b16 then
   (idx p0.2.2.2 st9).bind fun x19 =>
   some (.inr (.inr (x19.2.2)))
  else
   some (.inl (W (st9 + 1)))
 else
  some (.inr (.inl ()))
def y4c (p0 : AutT) (p1 : Int) (p2 : Int) : Option Int :=
 (iter (y5e p0 p1 p2) 0).bind fun o9 =>
 match o9 with
 | .inl u11 =>
  some (-1)
 | .inr (u13) =>
  some u13
theorem y4B {p0 : AutT} {p1 : Int} {p2 : Int} {r : Int} (hm : y4c p0 p1 p2 = some r) :
  Fw Tryz.prog 70 ⟨0, []⟩ [.a [lF qI p0.1, lI p0.2.1, lF qI p0.2.2.1, lF qT p0.2.2.2], .i p1, .i p2] [] (.i r) [] := by
 unfold y4c at hm
 refine Fw.mk' Tryz.func70 R Tryz.ntmps70 R R (fun C => ?_) R R
 refine .seq (.reg (.op (O.box 0 R Z R R R) R (.sa R (.nil (.seqN (.seq (.seq (.reg (.sa R (.nil (.seqN (.block (bS hm fun o9 eo9 hm => ?_)))))))))))))
 refine .cutU (z := .exit 0) (fun u11 => .inl u11 = o9) (fun (u11 : Unit) => ⟨[], [], 0⟩) ?_ fun K12 => ?_
 ·rintro u11 rfl
  dsimp only at hm
  refine .blkE (.seqN (.seq (.reg (.sa R (.nil (.seqN (.ret ?_)))))))
  obtain rfl := oi hm
  exact WX.rt [] (.inl R) Tryz.results70 (.tmp R .nil) R (fun _ _ _ h => h) trivial
 refine .cutU (z := .ret) (fun u13 => .inr (u13) = o9) (fun (u13 : Int) => ⟨[(6, .i u13)], [], 0⟩) ?_ fun K14 => ?_
 ·rintro u13 rfl
  dsimp only at hm
  refine .blkR (.seqR ?_)
  obtain rfl := oi hm
  exact WX.rt [] (.inl R) Tryz.results70 (.tmp R .nil) R (fun _ _ _ h => h) trivial
 refine .iter (fun (st9 : Int) => ⟨[(7, .i st9), (3, .q 0 0), (1, .i p1), (2, .i p2)], [(0, .bx 25 [lF qI p0.1, lI p0.2.1, lF qI p0.2.2.1, lF qT p0.2.2.2])], 1⟩) eo9 [] R ?_
 intro st9 res9 hm ih9 ho9
 unfold y5e at hm
 refine .seq (.seq (.reg (.mv R (.op (O.faP yz Z R R) R (.op (O.ld nag23 Z R (.B R) R R) R (.op (O.len sl23 Z R R) R (.bi R (.nil (.seqN ?_)))))))))
 rcases ifS hm with ⟨hc, hm⟩ | ⟨hc, hm⟩
 ·refine .cT R hc ?_
  refine .skip (.seqN (.seq (.block (.seq (.reg (.op (O.faP yz Z R R) R (.op (O.ld nag23 Z R (.B R) R R) R (.mv R (bS hm fun x15 ex15 hm => .op (O.ix sl23 Z R R ex15 R) R (.op (O.faE y3C Z R R) R (.op (O.ld nag3 Z R (.E lv97) R R) R (.mv R (.bi R (.mv R (bS hm fun b16 eb16 hm => ?_)))))))))))))))
  refine .cut 9 (fun (v17 : Bool) => b16 = v17) (fun v17 => ⟨[(32, .b v17), (7, .i st9), (3, .q 0 0), (1, .i p1), (2, .i p2)], [(0, .bx 25 [lF qI p0.1, lI p0.2.1, lF qI p0.2.2.1, lF qT p0.2.2.2])], 1⟩) ?_ ?_
  ·rintro _ rfl
   refine .nil (.seqN ?_)
   rcases ifS hm with ⟨hc, hm⟩ | ⟨hc, hm⟩
   ·refine .cT R hc ?_
    exact .seq (.reg (.op (O.faP yz Z R R) R (.op (O.ld nag23 Z R (.B R) R R) R (.mv R (bS hm fun x19 ex19 hm => .op (O.ix sl23 Z R R ex19 R) R (.op (O.faE y4E Z R R) R (.op (O.ld nag3 Z R (.E lv97) R R) R (.sa R (.nil (.seqN (.ret (.blkR (.seqR (.seqR ((K14 _ (ho9 _ (oi hm).symm)).sub [] R)))))))))))))))
   ·refine .cF R hc ?_
    exact .skip (.blkN (.seqN (.reg (.mv R (.bi R (.sa R (.nil ((ih9 _ (oi hm).symm).sub [] R))))))))
  ·intro J18
   rcases ifS eb16 with ⟨hc, hm⟩ | ⟨hc, hm⟩
   ·refine .know (d := 23) R hc ?_
    exact .op (O.faP yz (Gu.mk R R) R R) R (.op (O.ld nag23 (Gu.mk R R) R (.B R) R R) R (.op (O.mv (Gu.mk R R) R R) R (bS hm fun x20 ex20 hm => .op (O.ix sl23 (Gu.mk R R) R R ex20 R) R (.op (O.faE y4D (Gu.mk R R) R R) R (.op (O.ld nag3 (Gu.mk R R) R (.E lv97) R R) R (.op (O.mv (Gu.mk R R) R R) R (.op (O.bi (Gu.mk R R) R R R R) R (.op (O.pkT Z R R R R) R ((J18 (x20.2.1 == p2) (oi hm).symm).sub [] R)))))))))
   ·refine .know (d := 23) R hc ?_
    exact .sk R (.sk R (.sk R (.sk R (.sk R (.sk R (.sk R (.sk R (.op (O.pkF Z R R R R) R ((J18 false (oi hm).symm).sub [] R)))))))))
 ·refine .cF R hc ?_
  exact .exit (.seqX (.seqX ((K12 _ (ho9 _ (oi hm).symm)).sub [] R)))
def y3o (st30 : Int × List Int) (st44 : Int) (b48 : Bool) : Option (Int ⊕ (List Int)) :=
 if b48 then
  (app st30.2 ([st30.1] : List Int)).bind fun x50 =>
  some (.inr x50)
 else
  some (.inl (W (st44 + 1)))
def y5f (r1 : AutT × AutT × List Int) (r2 : AutT × List (List Int) × Int) (st30 : Int × List Int) (st44 : Int) : Option (Int ⊕ (List Int)) :=
 if decide (st44 < (r1.2.2.length : Int)) then
  (idx r1.2.2 st44).bind fun x47 =>
  (idx r2.2.1 st30.1).bind fun x51 =>
  (idx x51 0).bind fun x52 =>
  (y4c r1.1 x52 x47).bind fun r53 =>
  if decide (r53 ≥ 0) then
   (y4c r2.1 st30.1 x47).bind fun r55 =>
   y3o st30 st44 (decide (r55 < 0))
  else
   y3o st30 st44 false
 else
  some (.inr st30.2)
def y5g (r1 : AutT × AutT × List Int) (r2 : AutT × List (List Int) × Int) (st30 : Int × List Int) : Option ((Int × List Int) ⊕ (List Int)) :=
 if decide (st30.1 < (r2.2.1.length : Int)) then
  (iter (y5f r1 r2 st30) 0).bind fun o44 =>
  some (.inl (W (st30.1 + 1), o44))
 else
  some (.inr st30.2)
def y3g (p0 : (Int × y1M) × (Int × y1M) × Int) (p1 : Bool) : Option (AutT × AutT × List Int) :=
 (y3f p0).bind fun r1 =>
 if (!p1) then
  some r1
 else
  (yi ([r1.1, r1.2.1] : List AutT)).bind fun r2 =>
  (iter (y5g r1 r2) (0, ([] : List Int))).bind fun o30 =>
  none
theorem y7j {p0 : (Int × y1M) × (Int × y1M) × Int} {p1 : Bool} {r : (AutT × AutT × List Int)} (hm : y3g p0 p1 = some r) :
  Fw Tryz.prog 25 ⟨0, []⟩ [.a (lx59 p0), .b p1] [] (.g [lF qI r.1.1, lI r.1.2.1, lH 0, lH 1, lH 2, lI r.2.1.2.1, lH 3, lH 4, lH 5]) [ROW qI 3 r.1.2.2.1, ROW qT 97 r.1.2.2.2, ROW qI 3 r.2.1.1, ROW qI 3 r.2.1.2.2.1, ROW qT 97 r.2.1.2.2.2, ROW qI 3 r.2.2] := by
 unfold y3g at hm
 refine Fw.mk' Tryz.func25 R Tryz.ntmps25 R R (fun C => ?_) R R
 refine .seq (.reg (.op (O.box 0 R Z R R R) R (.op (O.al 1 R zz27 R Z R) R (.nil (.seqN (.seq (.reg (.op (O.lg (l' := (lx59 p0)) ag59 Z R (.B R) R R R) R (bS hm fun r1 er1 hm => .op (O.ca (r' := .tp [.a [lF qI r1.1.1, lI r1.1.2.1, lH 2, lH 3], .a [lH 4, lI r1.2.1.2.1, lH 5, lH 6], .h 7]) [2, 3, 4, 5, 6, 7] [(0, ROW qI 3 r1.1.2.2.1), (1, ROW qT 97 r1.1.2.2.2), (2, ROW qI 3 r1.2.1.1), (3, ROW qI 3 r1.2.1.2.2.1), (4, ROW qT 97 r1.2.1.2.2.2), (5, ROW qI 3 r1.2.2)] (some 8) (y7i er1) cf69 R R Z R R R R ⟨⟨_, R, fun _ _ _ _ h => h⟩, ⟨_, R, fun _ _ _ _ h => h⟩, ⟨_, R, fun _ _ _ _ h => h⟩, ⟨_, R, fun _ _ _ _ h => h⟩, ⟨_, R, fun _ _ _ _ h => h⟩, ⟨_, R, fun _ _ _ _ h => h⟩, trivial⟩ (fun _ _ _ h => h) R) R (.mv R (.op (O.ex Z R R R) R (.op (O.ex Z R R R) R (.op (O.ex Z R R R) R (.op (O.al 8 R zz25 R Z R) R (.op (O.al 9 R zz25 R Z R) R (.op (O.st ag25.sz Z R R R R R) R (.op (O.st ag25.sz Z R R R R R) R (.sa R (.nil (.seqN (.seq (.reg (.op (O.lg (l' := [lF qI r1.1.1, lI r1.1.2.1, lH 2, lH 3]) ag25 Z R (.B R) R R R) R (.op (O.lg (l' := [lH 4, lI r1.2.1.2.1, lH 5, lH 6]) ag25 Z R (.B R) R R R) R (.mv R (.op (O.bu (l := [lF qI r1.1.1, lI r1.1.2.1, lH 2, lH 3, lH 4, lI r1.2.1.2.1, lH 5, lH 6, lH 7]) pl27 R Z R R R) R (.op (O.al 10 R zz27 R Z R) R (.op (O.st ag27.sz Z R R R R R) R (.nil (.seqN (.seq (.seq (.reg (.mv R (.op (O.not Z R R) R (.nil (.seqN ?_)))))))))))))))))))))))))))))))))))))
 rcases ifS hm with ⟨hc, hm⟩ | ⟨hc, hm⟩
 ·refine .cT R hc ?_
  refine .seq (.reg (.op (O.lg (l' := [lF qI r1.1.1, lI r1.1.2.1, lH 2, lH 3, lH 4, lI r1.2.1.2.1, lH 5, lH 6, lH 7]) ag27 Z R (.B R) R R R) R (.op (O.st ag27.sz Z R R R R R) R (.nil (.seqN (.ret (.seqR ?_)))))))
  obtain rfl := oi hm
  exact WX.rt [2, 3, 4, 5, 6, 7] (.inl R) Tryz.results25 (.cell R R ag27 R .nil) R (fun _ _ _ h => h) ⟨⟨_, R, fun _ _ _ _ h => h⟩, ⟨_, R, fun _ _ _ _ h => h⟩, ⟨_, R, fun _ _ _ _ h => h⟩, ⟨_, R, fun _ _ _ _ h => h⟩, ⟨_, R, fun _ _ _ _ h => h⟩, ⟨_, R, fun _ _ _ _ h => h⟩, trivial⟩
 ·refine .cF R hc ?_
  refine .skip (.seqN (.seq (.reg (.op (O.lg (l' := [lF qI r1.1.1, lI r1.1.2.1, lH 2, lH 3]) ag25 Z R (.B R) R R R) R (.op (O.lg (l' := [lH 4, lI r1.2.1.2.1, lH 5, lH 6]) ag25 Z R (.B R) R R R) R (.fz 2 [32] [8, 10] R R fR R R (.fz 3 [32] [8, 10] R R fR R R (.fz 4 [33] [9, 10] R R fR R R (.fz 5 [33] [9, 10] R R fR R R (.fz 6 [33] [9, 10] R R fR R R (.op (O.bsF (r := rE25) (zs := ([r1.1, r1.2.1] : List AutT)) bs73 R R Z R R R (.c (.p .l (.p .k (.p .l .l))) (.c (.p .l (.p .k (.p .l .l))) .n)) R R R) R (bS hm fun r2 er2 hm => .op (O.ca (r' := .tp [.a [lF qI r2.1.1, lI r2.1.2.1, lH 11, lH 12], .h 13, .i r2.2.2]) [11, 12, 13] [(0, ROW qI 3 r2.1.2.2.1), (1, ROW qT 97 r2.1.2.2.2), (2, ROW (rL qI) 22 r2.2.1)] (some 14) (y3n er2) cf34 R R Z R R R R ⟨⟨_, R, fun _ _ _ _ h => h⟩, ⟨_, R, fun _ _ _ _ h => h⟩, ⟨_, R, fun _ _ _ _ h => h⟩, trivial⟩ (fun _ _ _ h => h) R) R (.mv R (.op (O.ex Z R R R) R (.op (O.ex Z R R R) R (.op (O.ex Z R R R) R (.op (O.al 14 R zz25 R Z R) R (.op (O.st ag25.sz Z R R R R R) R (.sa R (.sa R (.nil (.seqN (.seq (.reg (.sa R (.nil (.seqN (.seq (.seq (.reg (.sa R (.nil (.seqN (.block (bS hm fun o30 eo30 hm => ?_)))))))))))))))))))))))))))))))))))
  refine .cut1 (z := .exit 0) o30 (fun (o30 : List Int) => ⟨[(12, .h 0), (9, .q 1 0), (8, .q 4 0), (7, .h 5), (4, .q 6 0)], [(0, ROW qI 3 o30), (1, .bx 25 [lF qI r2.1.1, lI r2.1.2.1, lH 2, lH 3]), (2, ROW qI 3 r2.1.2.2.1), (3, ROW qT 97 r2.1.2.2.2), (4, .bx 27 [lF qI r1.1.1, lI r1.1.2.1, lF qI r1.1.2.2.1, lF qT r1.1.2.2.2, lF qI r1.2.1.1, lI r1.2.1.2.1, lF qI r1.2.1.2.2.1, lF qT r1.2.1.2.2.2, lH 5]), (5, ROW qI 3 r1.2.2), (6, .bx 27 [lN, lI 0, lN, lN, lN, lI 0, lN, lN, lN])], 7⟩) ?_ fun K32 => ?_
  ·skip
   refine .blkE (.seqN (.seq (.reg (.op (O.lg (l' := [lF qI r2.1.1, lI r2.1.2.1, lH 2, lH 3]) ag25 Z R (.B R) R R R) R (.mv R (.mv R ?_))))))
   cases hm
  refine .nlg qI 3 12 0 R R (.iter (fun (st30 : Int × List Int) => ⟨[(13, .i st30.1), (12, .h 0), (10, .h 1), (9, .q 2 0), (8, .q 5 0), (7, .h 6), (5, .q 7 0), (4, .q 8 0)], [(0, ROW qI 3 st30.2), (1, ROW (rL qI) 22 r2.2.1), (2, .bx 25 [lF qI r2.1.1, lI r2.1.2.1, lH 3, lH 4]), (3, ROW qI 3 r2.1.2.2.1), (4, ROW qT 97 r2.1.2.2.2), (5, .bx 27 [lF qI r1.1.1, lI r1.1.2.1, lF qI r1.1.2.2.1, lF qT r1.1.2.2.2, lF qI r1.2.1.1, lI r1.2.1.2.1, lF qI r1.2.1.2.2.1, lF qT r1.2.1.2.2.2, lH 6]), (6, ROW qI 3 r1.2.2), (7, .bx 25 [lF qI r1.1.1, lI r1.1.2.1, lF qI r1.1.2.2.1, lF qT r1.1.2.2.2]), (8, .bx 27 [lN, lI 0, lN, lN, lN, lI 0, lN, lN, lN])], 9⟩) eo30 [(0, 15), (1, 13), (2, 14), (3, 11), (4, 12), (5, 10), (6, 7), (7, 8), (8, 1)] R ?_)
  intro st30 res30 hm ih30 ho30
  unfold y5g at hm
  refine .seq (.seq (.reg (.mv R (.mv R (.op (O.lenH sl34 Z R R R) R (.bi R (.nil (.seqN ?_))))))))
  rcases ifS hm with ⟨hc, hm⟩ | ⟨hc, hm⟩
  ·refine .cT R hc ?_
   refine .skip (.seqN (.seq (.block (.seq (.reg (.mv R (.op (O.lenH sl22 Z R R R) R (.mv R (.nil (.seqN (.block (bS hm fun o44 eo44 hm => ?_))))))))))))
   refine .cut1 (z := .exit 2) o44 (fun (o44 : List Int) => ⟨[(12, .h 0), (13, .i st30.1), (10, .h 1), (9, .q 2 0), (8, .q 5 0), (7, .h 6), (5, .q 7 0), (4, .q 8 0)], [(0, ROW qI 3 o44), (1, ROW (rL qI) 22 r2.2.1), (2, .bx 25 [lF qI r2.1.1, lI r2.1.2.1, lH 3, lH 4]), (3, ROW qI 3 r2.1.2.2.1), (4, ROW qT 97 r2.1.2.2.2), (5, .bx 27 [lF qI r1.1.1, lI r1.1.2.1, lF qI r1.1.2.2.1, lF qT r1.1.2.2.2, lF qI r1.2.1.1, lI r1.2.1.2.1, lF qI r1.2.1.2.2.1, lF qT r1.2.1.2.2.2, lH 6]), (6, ROW qI 3 r1.2.2), (7, .bx 25 [lF qI r1.1.1, lI r1.1.2.1, lF qI r1.1.2.2.1, lF qT r1.1.2.2.2]), (8, .bx 27 [lN, lI 0, lN, lN, lN, lI 0, lN, lN, lN])], 9⟩) ?_ fun K46 => ?_
   ·skip
    exact .blkE (.blkN (.seqN (.reg (.mv R (.bi R (.sa R (.nil ((ih30 _ (oi hm).symm).sub [] R))))))))
   refine .iter (fun (st44 : Int) => ⟨[(47, .i st44), (46, .i (r1.2.2.length : Int)), (45, .h 0), (13, .i st30.1), (12, .h 1), (10, .h 2), (9, .q 3 0), (8, .q 6 0), (7, .h 0), (5, .q 7 0), (4, .q 8 0)], [(0, ROW qI 3 r1.2.2), (1, ROW qI 3 st30.2), (2, ROW (rL qI) 22 r2.2.1), (3, .bx 25 [lF qI r2.1.1, lI r2.1.2.1, lH 4, lH 5]), (4, ROW qI 3 r2.1.2.2.1), (5, ROW qT 97 r2.1.2.2.2), (6, .bx 27 [lF qI r1.1.1, lI r1.1.2.1, lF qI r1.1.2.2.1, lF qT r1.1.2.2.2, lF qI r1.2.1.1, lI r1.2.1.2.1, lF qI r1.2.1.2.2.1, lF qT r1.2.1.2.2.2, lH 0]), (7, .bx 25 [lF qI r1.1.1, lI r1.1.2.1, lF qI r1.1.2.2.1, lF qT r1.1.2.2.2]), (8, .bx 27 [lN, lI 0, lN, lN, lN, lI 0, lN, lN, lN])], 9⟩) eo44 [(0, 6), (1, 0), (2, 1), (3, 2), (4, 3), (5, 4), (6, 5)] R ?_
   intro st44 res44 hm ih44 ho44
   unfold y5f at hm
   refine .seq (.reg (.bi R (.nil (.seqN (.seq ?_)))))
   rcases ifS hm with ⟨hc, hm⟩ | ⟨hc, hm⟩
   ·refine .cT R hc ?_
    refine .skip (.seqN (.seq (.block (.seq (.reg (bS hm fun x47 ex47 hm => .op (O.ir sl22 Z R R R ex47 R) R (.op (O.ld nag3 Z R (.R R ex47 lv3) R R) R (.sa R (.nil (.seqN ?_))))))))))
    refine .join1 (fun (b48 : Bool) => y3o st30 st44 b48 = some res44) (fun b48 => ⟨[(67, .b b48), (47, .i st44), (46, .i (r1.2.2.length : Int)), (45, .h 0), (13, .i st30.1), (12, .h 1), (10, .h 2), (9, .q 3 0), (8, .q 6 0), (7, .h 0), (5, .q 7 0), (4, .q 8 0)], [(0, ROW qI 3 r1.2.2), (1, ROW qI 3 st30.2), (2, ROW (rL qI) 22 r2.2.1), (3, .bx 25 [lF qI r2.1.1, lI r2.1.2.1, lH 4, lH 5]), (4, ROW qI 3 r2.1.2.2.1), (5, ROW qT 97 r2.1.2.2.2), (6, .bx 27 [lF qI r1.1.1, lI r1.1.2.1, lF qI r1.1.2.2.1, lF qT r1.1.2.2.2, lF qI r1.2.1.1, lI r1.2.1.2.1, lF qI r1.2.1.2.2.1, lF qT r1.2.1.2.2.2, lH 0]), (7, .bx 25 [lF qI r1.1.1, lI r1.1.2.1, lF qI r1.1.2.2.1, lF qT r1.1.2.2.2]), (8, .bx 27 [lN, lI 0, lN, lN, lN, lI 0, lN, lN, lN])], 9⟩) ?_ ?_
    ·intro b48 hm
     unfold y3o at hm
     rcases ifS hm with ⟨hc, hm⟩ | ⟨hc, hm⟩
     ·refine .cT R hc ?_
      exact .seq (.reg (.mv R (.mv R (.op (O.bsF (r := qI) (zs := ([st30.1] : List Int)) bs22 R R Z R R R (.c .k .n) R R R) R (bS hm fun x50 ex50 hm => .op (O.ap 9 Tryz.underlying22 el3 R R Z R R (.fr R) ex50 R) R (.sa R (.nil (.seqN (.exit (.blkX R (.seqX (.seqX ((K46 _ (ho44 _ (oi hm).symm)).sub [(0, 9), (1, 2), (2, 3), (3, 4), (4, 5), (5, 6), (6, 0)] R)))))))))))))
     ·refine .cF R hc ?_
      exact .skip (.blkN (.seqN (.reg (.bi R (.mv R (.nil ((ih44 _ (oi hm).symm).sub [] R)))))))
    ·intro Jj49
     refine .sub (τ := ⟨[(15, .i x47), (47, .i st44), (46, .i (r1.2.2.length : Int)), (45, .h 0), (13, .i st30.1), (12, .h 1), (10, .h 2), (9, .q 3 0), (8, .q 6 0), (7, .h 0), (5, .q 7 0), (4, .q 8 0)], [(0, ROW qI 3 r1.2.2), (1, ROW qI 3 st30.2), (2, ROW (rL qI) 22 r2.2.1), (3, .bx 25 [lF qI r2.1.1, lI r2.1.2.1, lH 4, lH 5]), (4, ROW qI 3 r2.1.2.2.1), (5, ROW qT 97 r2.1.2.2.2), (6, .bx 27 [lF qI r1.1.1, lI r1.1.2.1, lF qI r1.1.2.2.1, lF qT r1.1.2.2.2, lF qI r1.2.1.1, lI r1.2.1.2.1, lF qI r1.2.1.2.2.1, lF qT r1.2.1.2.2.2, lH 0]), (7, .bx 25 [lF qI r1.1.1, lI r1.1.2.1, lF qI r1.1.2.2.1, lF qT r1.1.2.2.2]), (8, .bx 27 [lN, lI 0, lN, lN, lN, lI 0, lN, lN, lN])], 9⟩) ?_ [] R
     refine bS hm fun x51 ex51 hm => bS hm fun x52 ex52 hm => bS hm fun r53 er53 hm => ?_
     rcases ifS hm with ⟨hc54, hm⟩ | ⟨hc54, hm⟩
     ·skip
      refine bS hm fun r55 er55 hm => ?_
      refine .drw [(9, []), (9, []), (9, []), (9, [oF, oT, oT]), (9, [oF, oT, oT, oT]), (9, [oF, oT, oT, oT, oT]), (9, [oF, oT, oT, oT, oT, oT]), (9, []), (9, [oT, oT, oT, oT, oT, oT, oT, oT]), (9, [oT, oT, oT, oT, oT, oT, oT, oT, oT]), (9, [oT, oT, oT, oT, oT, oT, oT, oT, oT, oT]), (9, [oT, oT, oT, oT, oT, oT, oT, oT, oT, oT, oT]), (9, [oT, oT, oT, oT, oT, oT, oT, oT, oT, oT, oT]), (9, [oT, oT, oT, oT, oT, oT, oT, oT, oT, oT, oT]), (9, [oT, oT, oT, oT, oT, oT, oT, oT, oT, oT, oT, oT, oT, oT]), (9, [oT, oT, oT, oT, oT, oT, oT, oT, oT, oT, oT, oT, oT, oT, oT]), (9, [oT, oT, oT, oT, oT, oT, oT, oT, oT, oT, oT, oT, oT, oT, oT, oT])] [_, _, _, _, _, _, _, _, _, _, _, _, _, _, _, _, _] ⟨[(67, .b (decide (r55 < 0))), (47, .i st44), (46, .i (r1.2.2.length : Int)), (45, .h 0), (13, .i st30.1), (12, .h 1), (10, .h 2), (9, .q 3 0), (8, .q 6 0), (7, .h 0), (5, .q 7 0), (4, .q 8 0)], [(0, ROW qI 3 r1.2.2), (1, ROW qI 3 st30.2), (2, ROW (rL qI) 22 r2.2.1), (3, .bx 25 [lF qI r2.1.1, lI r2.1.2.1, lH 4, lH 5]), (4, ROW qI 3 r2.1.2.2.1), (5, ROW qT 97 r2.1.2.2.2), (6, .bx 27 [lF qI r1.1.1, lI r1.1.2.1, lF qI r1.1.2.2.1, lF qT r1.1.2.2.2, lF qI r1.2.1.1, lI r1.2.1.2.1, lF qI r1.2.1.2.2.1, lF qT r1.2.1.2.2.2, lH 0]), (7, .bx 25 [lF qI r1.1.1, lI r1.1.2.1, lF qI r1.1.2.2.1, lF qT r1.1.2.2.2]), (8, .bx 27 [lN, lI 0, lN, lN, lN, lI 0, lN, lN, lN])], 9⟩ ⟨O.lg (l' := [lF qI r1.1.1, lI r1.1.2.1, lF qI r1.1.2.2.1, lF qT r1.1.2.2.2]) ag25 Z R (.B R) R R R, O.mv Z R R, O.mv Z R R, O.ir sl34 Z R R R ex51 R, O.ld nag22 Z R (.R R ex51 lv22) R R, O.ix sl22 Z R R ex52 R, O.ld nag3 Z R (.E lv3) R R, O.mv Z R R, O.ca0 (y4B er53) cf70 R R Z R R R, O.bi Z R R R R, O.kn (O.mv Z R R) hc54, O.lg (l' := [lF qI r2.1.1, lI r2.1.2.1, lH 4, lH 5]) ag25 (Gu.mk R R) R (.B R) R R R, O.mv (Gu.mk R R) R R, O.mv (Gu.mk R R) R R, O.caZ (y4B er55) cf70 R R (Gu.mk R R) R ⟨⟨R, .rf, .rf, .hr R, .hr R, trivial⟩, ⟨R, LnL.rf⟩, ⟨R, LnL.rf⟩, trivial⟩ (fun _ _ _ _ _ h => h) R, O.bi (Gu.mk R R) R R R R, O.pkT Z R R R R, trivial⟩ (by kernel_rfl) R ?_
      exact (Jj49 _ hm).sub [] R
     ·skip
      refine .drw [(9, []), (9, []), (9, []), (9, [oF, oT, oT]), (9, [oF, oT, oT, oT]), (9, [oF, oT, oT, oT, oT]), (9, [oF, oT, oT, oT, oT, oT]), (9, []), (9, [oT, oT, oT, oT, oT, oT, oT, oT]), (9, [oT, oT, oT, oT, oT, oT, oT, oT, oT]), (9, [oT, oT, oT, oT, oT, oT, oT, oT, oT, oT]), (9, [oT, oT, oT, oT, oT, oT, oT, oT, oT, oT, oT]), (9, [oT, oT, oT, oT, oT, oT, oT, oT, oT, oT, oT]), (9, [oT, oT, oT, oT, oT, oT, oT, oT, oT, oT, oT]), (9, [oT, oT, oT, oT, oT, oT, oT, oT, oT, oT, oT, oT, oT, oT]), (9, [oT, oT, oT, oT, oT, oT, oT, oT, oT, oT, oT, oT, oT, oT, oT]), (9, [oT, oT, oT, oT, oT, oT, oT, oT, oT, oT, oT, oT, oT, oT, oT, oT])] [_, _, _, _, _, _, _, _, _, _, _, _, _, _, _, _, _] ⟨[(67, .b false), (47, .i st44), (46, .i (r1.2.2.length : Int)), (45, .h 0), (13, .i st30.1), (12, .h 1), (10, .h 2), (9, .q 3 0), (8, .q 6 0), (7, .h 0), (5, .q 7 0), (4, .q 8 0)], [(0, ROW qI 3 r1.2.2), (1, ROW qI 3 st30.2), (2, ROW (rL qI) 22 r2.2.1), (3, .bx 25 [lF qI r2.1.1, lI r2.1.2.1, lH 4, lH 5]), (4, ROW qI 3 r2.1.2.2.1), (5, ROW qT 97 r2.1.2.2.2), (6, .bx 27 [lF qI r1.1.1, lI r1.1.2.1, lF qI r1.1.2.2.1, lF qT r1.1.2.2.2, lF qI r1.2.1.1, lI r1.2.1.2.1, lF qI r1.2.1.2.2.1, lF qT r1.2.1.2.2.2, lH 0]), (7, .bx 25 [lF qI r1.1.1, lI r1.1.2.1, lF qI r1.1.2.2.1, lF qT r1.1.2.2.2]), (8, .bx 27 [lN, lI 0, lN, lN, lN, lI 0, lN, lN, lN])], 9⟩ ⟨O.lg (l' := [lF qI r1.1.1, lI r1.1.2.1, lF qI r1.1.2.2.1, lF qT r1.1.2.2.2]) ag25 Z R (.B R) R R R, O.mv Z R R, O.mv Z R R, O.ir sl34 Z R R R ex51 R, O.ld nag22 Z R (.R R ex51 lv22) R R, O.ix sl22 Z R R ex52 R, O.ld nag3 Z R (.E lv3) R R, O.mv Z R R, O.ca0 (y4B er53) cf70 R R Z R R R, O.bi Z R R R R, O.kn (O.mv Z R R) hc54, O.skip R R R R, O.skip R R R R, O.skip R R R R, O.skip R R R R, O.skip R R R R, O.pkF Z R R R R, trivial⟩ (by kernel_rfl) R ?_
      exact (Jj49 _ hm).sub [] R
   ·refine .cF R hc ?_
    exact .exit (.seqX (.seqX ((K46 _ (ho44 _ (oi hm).symm)).sub [(0, 1), (1, 2), (2, 3), (3, 4), (4, 5), (5, 6), (6, 0)] R)))
  ·refine .cF R hc ?_
   exact .exit (.seqX (.seqX ((K32 _ (ho30 _ (oi hm).symm)).sub [(1, 2), (2, 3), (3, 4), (4, 5), (5, 6), (6, 8)] R)))
def y1J (st10 : Int) (b16 : Bool) : Option (Int ⊕ (Unit ⊕ Unit)) :=
 if b16 then
  some (.inr (.inr (())))
 else
  some (.inl (W (st10 + 1)))
def y1K (p0 : List AutT) (p1 : List Int) (st10 : Int) : Option (Int ⊕ (Unit ⊕ Unit)) :=
 if decide (st10 < (p0.length : Int)) then
  (idx p0 st10).bind fun x15 =>
  (idx p1 st10).bind fun x18 =>
  if decide (x18 < 0) then
   y1J st10 true
  else
   (idx p1 st10).bind fun x20 =>
   y1J st10 (decide (x20 ≥ x15.2.1))
 else
  some (.inr (.inl ()))
def y3h (p0 : List AutT) (p1 : List Int) : Option Int :=
 (y2B p0).bind fun r1 =>
 if (r1 != 0) then
  some r1
 else
  if ((p1.length : Int) != (p0.length : Int)) then
   some 4
  else
   (iter (y1K p0 p1) 0).bind fun o10 =>
   match o10 with
   | .inl u11 =>
    some 0
   | .inr (u13) =>
    some 2
theorem y7k {p0 : List AutT} {p1 : List Int} {r : Int} (hm : y3h p0 p1 = some r) :
  Fw Tryz.prog 166 ⟨0, []⟩ [.f rE25 p0, .f qI p1] [] (.i r) [] := by
 unfold y3h at hm
 refine Fw.mk' Tryz.func166 R Tryz.ntmps166 R R (fun C => ?_) R R
 refine .seq (.reg (.sa R (.nil (.seqN (.seq (.seq (.reg (.mv R (bS hm fun r1 er1 hm => .op (O.ca0 (y6n er1) cf76 R R Z R R R) R (.sa R (.nil (.seqN (.seq (.reg (.mv R (.bi R (.nil (.seqN ?_))))))))))))))))))
 rcases ifS hm with ⟨hc, hm⟩ | ⟨hc, hm⟩
 ·refine .cT R hc ?_
  refine .seq (.reg (.mv R (.sa R (.nil (.seqN (.ret (.seqR ?_)))))))
  obtain rfl := oi hm
  exact WX.rt [] (.inl R) Tryz.results166 (.tmp R .nil) R (fun _ _ _ h => h) trivial
 ·refine .cF R hc ?_
  refine .skip (.seqN (.seq (.seq (.reg (.mv R (.op (O.len sl22 Z R R) R (.mv R (.op (O.len sl73 Z R R) R (.bi R (.nil (.seqN ?_)))))))))))
  rcases ifS hm with ⟨hc, hm⟩ | ⟨hc, hm⟩
  ·refine .cT R hc ?_
   refine .seq (.reg (.sa R (.nil (.seqN (.ret (.seqR ?_))))))
   obtain rfl := oi hm
   exact WX.rt [] (.inl R) Tryz.results166 (.tmp R .nil) R (fun _ _ _ h => h) trivial
  ·refine .cF R hc ?_
   refine .skip (.seqN (.seq (.seq (.reg (.mv R (.op (O.len sl73 Z R R) R (.mv R (.nil (.seqN (.block (bS hm fun o10 eo10 hm => ?_)))))))))))
   refine .cutU (z := .exit 0) (fun u11 => .inl u11 = o10) (fun (u11 : Unit) => ⟨[], [], 0⟩) ?_ fun K12 => ?_
   ·rintro u11 rfl
    dsimp only at hm
    refine .blkE (.seqN (.seq (.reg (.sa R (.nil (.seqN (.ret ?_)))))))
    obtain rfl := oi hm
    exact WX.rt [] (.inl R) Tryz.results166 (.tmp R .nil) R (fun _ _ _ h => h) trivial
   refine .cutU (z := .ret) (fun u13 => .inr (u13) = o10) (fun (u13 : Unit) => ⟨[(4, .i 2)], [], 0⟩) ?_ fun K14 => ?_
   ·rintro u13 rfl
    dsimp only at hm
    refine .blkR (.seqR ?_)
    obtain rfl := oi hm
    exact WX.rt [] (.inl R) Tryz.results166 (.tmp R .nil) R (fun _ _ _ h => h) trivial
   refine .iter (fun (st10 : Int) => ⟨[(20, .i st10), (19, .i (p0.length : Int)), (18, .f rE25 p0), (1, .f qI p1)], [], 0⟩) eo10 [] R ?_
   intro st10 res10 hm ih10 ho10
   unfold y1K at hm
   refine .seq (.reg (.bi R (.nil (.seqN (.seq ?_)))))
   rcases ifS hm with ⟨hc, hm⟩ | ⟨hc, hm⟩
   ·refine .cT R hc ?_
    refine .skip (.seqN (.seq (.block (.seq (.reg (.mv R (bS hm fun x15 ex15 hm => .op (O.ix sl73 Z R R ex15 R) R (.op (O.lg (l' := [lF qI x15.1, lI x15.2.1, lF qI x15.2.2.1, lF qT x15.2.2.2]) ag25 Z R (.E lv25) R R R) R (.op (O.al 0 R zz25 R Z R) R (.sa R (.op (O.st ag25.sz Z R R R R R) R (.nil (.seqN ?_)))))))))))))
    refine .join1 (fun (b16 : Bool) => y1J st10 b16 = some res10) (fun b16 => ⟨[(38, .b b16), (20, .i st10), (19, .i (p0.length : Int)), (18, .f rE25 p0), (1, .f qI p1)], [], 0⟩) ?_ ?_
    ·intro b16 hm
     unfold y1J at hm
     rcases ifS hm with ⟨hc, hm⟩ | ⟨hc, hm⟩
     ·refine .cT R hc ?_
      exact .seq (.reg (.sa R (.nil (.seqN (.ret (.blkR (.seqR (.seqR ((K14 _ (ho10 _ (oi hm).symm)).sub [] R)))))))))
     ·refine .cF R hc ?_
      exact .skip (.blkN (.seqN (.reg (.bi R (.mv R (.nil ((ih10 _ (oi hm).symm).sub [] R)))))))
    ·intro Jj17
     refine .sub (τ := ⟨[(6, .i st10), (7, .q 0 0), (20, .i st10), (19, .i (p0.length : Int)), (18, .f rE25 p0), (1, .f qI p1)], [(0, .bx 25 [lF qI x15.1, lI x15.2.1, lF qI x15.2.2.1, lF qT x15.2.2.2])], 1⟩) ?_ [] R
     refine bS hm fun x18 ex18 hm => ?_
     rcases ifS hm with ⟨hc19, hm⟩ | ⟨hc19, hm⟩
     ·skip
      refine .drw [(1, []), (1, []), (1, [oT, oT]), (1, [oT, oT, oT]), (1, [oT, oT, oT, oT]), (1, [oT, oT, oT, oT, oT]), (1, [oT, oT, oT, oT, oT, oT]), (1, [oT, oT, oT, oT, oT, oT]), (1, [oT, oT, oT, oT, oT, oT, oT, oT]), (1, [oT, oT, oT, oT, oT, oT, oT, oT, oT]), (1, [oT, oT, oT, oT, oT, oT]), (1, [oT, oT, oT, oT, oT, oT, oF, oF, oF, oF, oT]), (1, [oT, oT, oT, oT, oT, oT, oT, oT, oT, oT, oT, oT]), (1, [oT, oT, oT, oT, oT, oT, oT, oT, oT, oT, oT, oT, oT])] [_, _, _, _, _, _, _, _, _, _, _, _, _, _] ⟨[(38, .b true), (20, .i st10), (19, .i (p0.length : Int)), (18, .f rE25 p0), (1, .f qI p1)], [], 1⟩ ⟨O.mv Z R R, O.mv Z R R, O.ix sl22 Z R R ex18 R, O.ld nag3 Z R (.E lv3) R R, O.bi Z R R R R, O.kn (O.mv Z R R) hc19, O.skip R R R R, O.skip R R R R, O.skip R R R R, O.skip R R R R, O.skip R R R R, O.skip R R R R, O.skip R R R R, O.pkT Z R R R R, trivial⟩ (by kernel_rfl) R ?_
      exact (Jj17 _ hm).sub [] R
     ·skip
      refine bS hm fun x20 ex20 hm => ?_
      refine .drw [(1, []), (1, []), (1, [oT, oT]), (1, [oT, oT, oT]), (1, [oT, oT, oT, oT]), (1, [oT, oT, oT, oT, oT]), (1, [oT, oT, oT, oT, oT, oT]), (1, [oT, oT, oT, oT, oT, oT]), (1, [oT, oT, oT, oT, oT, oT, oT, oT]), (1, [oT, oT, oT, oT, oT, oT, oT, oT, oT]), (1, [oT, oT, oT, oT, oT, oT]), (1, [oT, oT, oT, oT, oT, oT, oF, oF, oF, oF, oT]), (1, [oT, oT, oT, oT, oT, oT, oT, oT, oT, oT, oT, oT]), (1, [oT, oT, oT, oT, oT, oT, oT, oT, oT, oT, oT, oT, oT])] [_, _, _, _, _, _, _, _, _, _, _, _, _, _] ⟨[(38, .b (decide (x20 ≥ x15.2.1))), (20, .i st10), (19, .i (p0.length : Int)), (18, .f rE25 p0), (1, .f qI p1)], [], 1⟩ ⟨O.mv Z R R, O.mv Z R R, O.ix sl22 Z R R ex18 R, O.ld nag3 Z R (.E lv3) R R, O.bi Z R R R R, O.kn (O.mv Z R R) hc19, O.mv (Gu.mk R R) R R, O.mv (Gu.mk R R) R R, O.ix sl22 (Gu.mk R R) R R ex20 R, O.ld nag3 (Gu.mk R R) R (.E lv3) R R, O.faP yW (Gu.mk R R) R R, O.ld nag3 (Gu.mk R R) R (.B R) R R, O.bi (Gu.mk R R) R R R R, O.pkF Z R R R R, trivial⟩ (by kernel_rfl) R ?_
      exact (Jj17 _ hm).sub [] R
   ·refine .cF R hc ?_
    exact .exit (.seqX (.seqX ((K12 _ (ho10 _ (oi hm).symm)).sub [] R)))
def y4d (p0 : List AutT) (p1 : List Int) (p2 : Int) : Option Int :=
 (y3h p0 p1).bind fun r1 =>
 if (r1 != 0) then
  some r1
 else
  (y2j p0).bind fun r2 =>
  (yn r2 p2).bind fun r3 =>
  if (!r3) then
   some 9
  else
   some 0
theorem y7l {p0 : List AutT} {p1 : List Int} {p2 : Int} {r : Int} (hm : y4d p0 p1 p2 = some r) :
  Fw Tryz.prog 140 ⟨0, []⟩ [.f rE25 p0, .f qI p1, .i p2] [] (.i r) [] := by
 unfold y4d at hm
 refine Fw.mk' Tryz.func140 R Tryz.ntmps140 R R (fun C => ?_) R R
 refine .seq (.reg (.sa R (.nil (.seqN (.seq (.seq (.reg (.mv R (.mv R (bS hm fun r1 er1 hm => .op (O.ca0 (y7k er1) cf166 R R Z R R R) R (.sa R (.nil (.seqN (.seq (.reg (.mv R (.bi R (.nil (.seqN ?_)))))))))))))))))))
 rcases ifS hm with ⟨hc, hm⟩ | ⟨hc, hm⟩
 ·refine .cT R hc ?_
  refine .seq (.reg (.mv R (.sa R (.nil (.seqN (.ret (.seqR ?_)))))))
  obtain rfl := oi hm
  exact WX.rt [] (.inl R) Tryz.results140 (.tmp R .nil) R (fun _ _ _ h => h) trivial
 ·refine .cF R hc ?_
  refine .skip (.seqN (.seq (.seq (.reg (.mv R (bS hm fun r2 er2 hm => .op (O.ca (r' := .h 0) [0] [(0, ROW qI 3 r2)] (some 1) (y6b er2) cf123 R R Z R R R R ⟨⟨_, R, fun _ _ _ _ h => h⟩, trivial⟩ (fun _ _ _ h => h) R) R (.mv R (bS hm fun r3 er3 hm => .op (O.caZ (yU er3) cf68 R R Z R ⟨⟨R, .hr R, trivial⟩, ⟨R, LnL.rf⟩, trivial⟩ (fun _ _ _ _ _ h => h) R) R (.op (O.not Z R R) R (.nil (.seqN ?_)))))))))))
  rcases ifS hm with ⟨hc, hm⟩ | ⟨hc, hm⟩
  ·refine .cT R hc ?_
   refine .seq (.reg (.sa R (.nil (.seqN (.ret (.seqR ?_))))))
   obtain rfl := oi hm
   exact WX.rt [] (.inl R) Tryz.results140 (.tmp R .nil) R (fun _ _ _ h => h) trivial
  ·refine .cF R hc ?_
   refine .skip (.seqN (.seq (.reg (.sa R (.nil (.seqN (.ret ?_)))))))
   obtain rfl := oi hm
   exact WX.rt [] (.inl R) Tryz.results140 (.tmp R .nil) R (fun _ _ _ h => h) trivial
def y3x (p0 : List AutT) (p1 : List Int) (p2 : Int) : Option (List Int × Bool × Int) :=
 (y4d p0 p1 p2).bind fun r1 =>
 if (r1 != 0) then
  some (([] : List Int), false, r1)
 else
  (y2p p0).bind fun r2 =>
  (yu r2 p1 p2).bind fun r3 =>
  some (r3.1, r3.2, 0)
theorem y9i {p0 : List AutT} {p1 : List Int} {p2 : Int} {r : List Int × Bool × Int} (hm : y3x p0 p1 p2 = some r) :
  Fw Tryz.prog 93 ⟨0, []⟩ [.f rE25 p0, .f qI p1, .i p2] [] (.tp [.h 0, .b r.2.1, .i r.2.2]) [ROW qI 3 r.1] := by
 unfold y3x at hm
 refine Fw.mk' Tryz.func93 R Tryz.ntmps93 R R (fun C => ?_) R R
 refine .seq (.reg (.sa R (.sa R (.sa R (.nil (.seqN (.seq (.seq (.reg (.mv R (.mv R (.mv R (bS hm fun r1 er1 hm => .op (O.ca0 (y7l er1) cf140 R R Z R R R) R (.sa R (.nil (.seqN (.seq (.reg (.mv R (.bi R (.nil (.seqN ?_))))))))))))))))))))))
 rcases ifS hm with ⟨hc, hm⟩ | ⟨hc, hm⟩
 ·refine .cT R hc ?_
  refine .seq (.reg (.mv R (.sa R (.sa R (.sa R (.nil (.seqN (.ret (.seqR (.nlg qI 3 6 0 R R ?_))))))))))
  obtain rfl := oi hm
  exact WX.rt [0] (.inl R) Tryz.results93 (.tmp R (.tmp R (.tmp R .nil))) R (fun _ _ _ h => h) ⟨⟨_, R, fun _ _ _ _ h => h⟩, trivial⟩
 ·refine .cF R hc ?_
  refine .skip (.seqN (.seq (.reg (.mv R (bS hm fun r2 er2 hm => .op (O.ca (r' := .g [lF rE25 r2.1, lH 0, lH 1]) [0, 1] [(0, ROW qI 3 r2.2.1), (1, ROW (rM kvP qI) 106 r2.2.2)] (some 2) (y6K er2) cf77 R R Z R R R R ⟨⟨_, R, fun _ _ _ _ h => h⟩, ⟨_, R, fun _ _ _ _ h => h⟩, trivial⟩ (fun _ _ _ h => h) R) R (.mv R (.mv R (.fz 0 [19] [] R R fR R R (.fz 1 [19] [] R R fR R R (bS hm fun r3 er3 hm => .op (O.ca (r' := .tp [.h 2, .b r3.2]) [2] [(0, ROW qI 3 r3.1)] (some 3) (y4S er3) cf81 R R Z R R R R ⟨⟨_, R, fun _ _ _ _ h => h⟩, trivial⟩ (fun _ _ _ h => h) R) R (.mv R (.op (O.ex Z R R R) R (.op (O.ex Z R R R) R (.sa R (.sa R (.nil (.seqN (.seq (.reg (.mv R (.mv R (.sa R (.sa R (.sa R (.nil (.seqN (.ret ?_)))))))))))))))))))))))))))
  obtain rfl := oi hm
  exact WX.rt [2] (.inl R) Tryz.results93 (.tmp R (.tmp R (.tmp R .nil))) R (fun _ _ _ h => h) ⟨⟨_, R, fun _ _ _ _ h => h⟩, trivial⟩
def y2a (p0 : AutT × AutT × List Int) (p1 : List Int) (p2 : List Int) (st6 : Int) : Option (Int ⊕ (Unit ⊕ Int)) :=
 if decide (st6 < (p2.length : Int)) then
  (idx p2 st6).bind fun x12 =>
  (y3x ([p0.1, p0.2.1] : List AutT) p1 x12).bind fun r13 =>
  if r13.2.1 then
   (idx p2 st6).bind fun x14 =>
   some (.inr (.inr (x14)))
  else
   some (.inl (W (st6 + 1)))
 else
  some (.inr (.inl ()))
def y1b (p0 : AutT × AutT × List Int) (p1 : List Int) (p2 : List Int) : Option Int :=
 (iter (y2a p0 p1 p2) 0).bind fun o6 =>
 match o6 with
 | .inl u8 =>
  some (-1)
 | .inr (u10) =>
  some u10
theorem y4W {p0 : AutT × AutT × List Int} {p1 : List Int} {p2 : List Int} {r : Int} (hm : y1b p0 p1 p2 = some r) :
  Fw Tryz.prog 49 ⟨0, []⟩ [.a [lF qI p0.1.1, lI p0.1.2.1, lF qI p0.1.2.2.1, lF qT p0.1.2.2.2, lF qI p0.2.1.1, lI p0.2.1.2.1, lF qI p0.2.1.2.2.1, lF qT p0.2.1.2.2.2, lF qI p0.2.2], .f qI p1, .f qI p2] [] (.i r) [] := by
 unfold y1b at hm
 refine Fw.mk' Tryz.func49 R Tryz.ntmps49 R R (fun C => ?_) R R
 refine .seq (.reg (.op (O.box 0 R Z R R R) R (.sa R (.nil (.seqN (.seq (.seq (.reg (.sa R (.nil (.seqN (.block (bS hm fun o6 eo6 hm => ?_)))))))))))))
 refine .cutU (z := .exit 0) (fun u8 => .inl u8 = o6) (fun (u8 : Unit) => ⟨[], [], 0⟩) ?_ fun K9 => ?_
 ·rintro u8 rfl
  dsimp only at hm
  refine .blkE (.seqN (.seq (.reg (.sa R (.nil (.seqN (.ret ?_)))))))
  obtain rfl := oi hm
  exact WX.rt [] (.inl R) Tryz.results49 (.tmp R .nil) R (fun _ _ _ h => h) trivial
 refine .cutU (z := .ret) (fun u10 => .inr (u10) = o6) (fun (u10 : Int) => ⟨[(6, .i u10)], [], 0⟩) ?_ fun K11 => ?_
 ·rintro u10 rfl
  dsimp only at hm
  refine .blkR (.seqR ?_)
  obtain rfl := oi hm
  exact WX.rt [] (.inl R) Tryz.results49 (.tmp R .nil) R (fun _ _ _ h => h) trivial
 refine .iter (fun (st6 : Int) => ⟨[(7, .i st6), (3, .q 0 0), (1, .f qI p1), (2, .f qI p2)], [(0, .bx 27 [lF qI p0.1.1, lI p0.1.2.1, lF qI p0.1.2.2.1, lF qT p0.1.2.2.2, lF qI p0.2.1.1, lI p0.2.1.2.1, lF qI p0.2.1.2.2.1, lF qT p0.2.1.2.2.2, lF qI p0.2.2])], 1⟩) eo6 [] R ?_
 intro st6 res6 hm ih6 ho6
 unfold y2a at hm
 refine .seq (.seq (.reg (.mv R (.mv R (.op (O.len sl22 Z R R) R (.bi R (.nil (.seqN ?_))))))))
 rcases ifS hm with ⟨hc, hm⟩ | ⟨hc, hm⟩
 ·refine .cT R hc ?_
  refine .skip (.seqN (.seq (.block (.seq ?_))))
  refine .sub (τ := ⟨[(7, .i st6), (3, .q 0 0), (1, .f qI p1), (2, .f qI p2)], [(0, .bx 27 [lF qI p0.1.1, lI p0.1.2.1, lF qI p0.1.2.2.1, lF qT p0.1.2.2.2, lF qI p0.2.1.1, lI p0.2.1.2.1, lF qI p0.2.1.2.2.1, lF qT p0.2.1.2.2.2, lF qI p0.2.2])], 1⟩) ?_ [] R
  refine bS hm fun x12 ex12 hm => bS hm fun r13 er13 hm => ?_
  refine .drw [(1, []), (1, [oT]), (1, []), (1, [oF, oF, oT]), (1, [oT, oT, oT, oT]), (1, []), (1, []), (1, []), (1, [oF, oF, oF, oF, oF, oF, oT, oT]), (1, [oF, oF, oF, oF, oF, oF, oT, oT, oT]), (1, [oT, oT, oT, oT, oT, oT, oT, oT, oT, oT]), (2, [oT, oT, oT, oT, oT, oT, oT, oT, oT, oT, oT]), (2, [oT, oT, oT, oT, oT, oT, oT, oT, oT, oT, oT, oT]), (2, [oT, oT, oT, oT, oT, oT, oT, oT, oT, oT, oT, oT]), (2, [oT, oT, oT, oT, oT, oT, oT, oT, oT, oT, oT, oT]), (2, [oT, oT, oT, oT, oT, oT, oT, oT, oT, oT, oT, oT, oT]), (2, [oT, oT, oT, oT, oT, oT, oT, oT, oT, oT, oT, oT, oT, oT, oF, oT]), (2, [oT, oT, oT, oT, oT, oT, oT, oT, oT, oT, oT, oT, oT, oT, oT, oT, oT])] [_, _, _, _, _, _, _, _, _, _, _, _, _, _, _, _, _, _] ⟨[(9, .b r13.2.1), (7, .i st6), (3, .q 0 0), (1, .f qI p1), (2, .f qI p2)], [(0, .bx 27 [lF qI p0.1.1, lI p0.1.2.1, lF qI p0.1.2.2.1, lF qT p0.1.2.2.2, lF qI p0.2.1.1, lI p0.2.1.2.1, lF qI p0.2.1.2.2.1, lF qT p0.2.1.2.2.2, lF qI p0.2.2])], 2⟩ ⟨O.faP y5i Z R R, O.lg (l' := [lF qI p0.1.1, lI p0.1.2.1, lF qI p0.1.2.2.1, lF qT p0.1.2.2.2]) ag25 Z R (.B R) R R R, O.faP y6I Z R R, O.lg (l' := [lF qI p0.2.1.1, lI p0.2.1.2.1, lF qI p0.2.1.2.2.1, lF qT p0.2.1.2.2.2]) ag25 Z R (.B R) R R R, O.bsF (r := rE25) (zs := ([p0.1, p0.2.1] : List AutT)) bs73 R R Z R R R (.c (.p .l (.p .k (.p .l .l))) (.c (.p .l (.p .k (.p .l .l))) .n)) R R R, O.mv Z R R, O.mv Z R R, O.mv Z R R, O.ix sl22 Z R R ex12 R, O.ld nag3 Z R (.E lv3) R R, O.ca (r' := .tp [.h 1, .b r13.2.1, .i r13.2.2]) [1] [(0, ROW qI 3 r13.1)] (some 2) (y9i er13) cf93 R R Z R R R R ⟨⟨_, R, fun _ _ _ _ h => h⟩, trivial⟩ (fun _ _ _ h => h) R, O.mv Z R R, O.ex Z R R R, O.ex Z R R R, O.ex Z R R R, O.as Z R R, O.as Z R R, O.as Z R R, trivial⟩ (by kernel_rfl) R ?_
  refine .seqN (.seq (.reg (.mv R (.nil (.seqN ?_)))))
  rcases ifS hm with ⟨hc, hm⟩ | ⟨hc, hm⟩
  ·refine .cT R hc ?_
   exact .seq (.reg (.mv R (.mv R (bS hm fun x14 ex14 hm => .op (O.ix sl22 Z R R ex14 R) R (.op (O.ld nag3 Z R (.E lv3) R R) R (.sa R (.nil (.seqN (.ret (.blkR (.seqR (.seqR ((K11 _ (ho6 _ (oi hm).symm)).sub [] R)))))))))))))
  ·refine .cF R hc ?_
   exact .skip (.blkN (.seqN (.reg (.mv R (.bi R (.sa R (.nil ((ih6 _ (oi hm).symm).sub [] R))))))))
 ·refine .cF R hc ?_
  exact .exit (.seqX (.seqX ((K9 _ (ho6 _ (oi hm).symm)).sub [] R)))
def yf (p0 : List (Int × Int × Int)) (p1 : Int) (p2 : (Int × Int × Int) → Int → Option Int) (st7 : Int × Int) : Option ((Int × Int) ⊕ Int) :=
 if decide (st7.2 < st7.1) then
  (idx p0 (W ((IntKind.u64.wrap (W (st7.2 + st7.1))).fdiv (2 ^ (min (1 : Int).toNat 64))))).bind fun x15 =>
  (p2 x15 p1).bind fun r16 =>
  if decide (r16 < 0) then
   some (.inl (st7.1, W ((W ((IntKind.u64.wrap (W (st7.2 + st7.1))).fdiv (2 ^ (min (1 : Int).toNat 64)))) + 1)))
  else
   some (.inl (W ((IntKind.u64.wrap (W (st7.2 + st7.1))).fdiv (2 ^ (min (1 : Int).toNat 64))), st7.2))
 else
  some (.inr st7.2)
def ye (p0 : List (Int × Int × Int)) (p1 : Int) (p2 : (Int × Int × Int) → Int → Option Int) : Option (Int × Bool) :=
 (iter (yf p0 p1 p2) ((p0.length : Int), 0)).bind fun o7 =>
 (if decide (o7 < (p0.length : Int)) then
  (idx p0 o7).bind fun x13 =>
  (p2 x13 p1).bind fun r14 =>
  some (r14 == 0)
 else
  some false).bind fun b10 =>
 some (o7, b10)
theorem y2e {p0 : List (Int × Int × Int)} {p1 : Int} {p2 : (Int × Int × Int) → Int → Option Int} {r : Int × Bool} (hm : ye p0 p1 p2 = some r) :
  Fw Tryz.prog 128 ⟨0, []⟩ [.f qT p0, .i p1, .o (lW Tryz.prog (fun (x : (Int × Int × Int) × Int) => [.a [lI x.1.1, lI x.1.2.1, lI x.1.2.2], .i x.2]) (fun (r : Int) => .i r) (fun x => p2 x.1 x.2))] [] (.tp [.i r.1, .b r.2]) [] := by
 unfold ye at hm
 refine Fw.mk' Tryz.func128 R Tryz.ntmps128 R R (fun C => ?_) R R
 refine .seq (.reg (.sa R (.sa R (.nil (.seqN (.seq (.reg (.mv R (.op (O.len sl23 Z R R) R (.sa R (.nil (.seqN (.seq (.reg (.mv R (.sa R (.sa R (.nil (.seqN (.seq (.block (bS hm fun o7 eo7 hm => ?_))))))))))))))))))))))
 refine .cut1 (z := .exit 0) o7 (fun (o7 : Int) => ⟨[(9, .i o7), (8, .i (p0.length : Int)), (0, .f qT p0), (1, .i p1), (2, .o (lW Tryz.prog (fun (x : (Int × Int × Int) × Int) => [.a [lI x.1.1, lI x.1.2.1, lI x.1.2.2], .i x.2]) (fun (r : Int) => .i r) (fun x => p2 x.1 x.2)))], [], 0⟩) ?_ fun K9 => ?_
 ·skip
  refine .blkE (.seqN (.seq (.reg (.mv R (.mv R (.mv R (.bi R (.mv R (bS hm fun b10 eb10 hm => ?_)))))))))
  refine .cut 9 (fun (v11 : Bool) => b10 = v11) (fun v11 => ⟨[(48, .b v11), (35, .i o7)], [], 0⟩) ?_ ?_
  ·rintro _ rfl
   refine .sa R (.sa R (.nil (.seqN (.ret ?_))))
   obtain rfl := oi hm
   exact WX.rt [] (.inl R) Tryz.results128 (.tmp R (.tmp R .nil)) R (fun _ _ _ h => h) trivial
  ·intro J12
   rcases ifS eb10 with ⟨hc, hm⟩ | ⟨hc, hm⟩
   ·refine .know (d := 39) R hc ?_
    refine .op (O.mv (Gu.mk R R) R R) R (.op (O.mv (Gu.mk R R) R R) R (.op (O.mv (Gu.mk R R) R R) R (bS hm fun x13 ex13 hm => .op (O.ix sl23 (Gu.mk R R) R R ex13 R) R (.op (O.lg (l' := [lI x13.1, lI x13.2.1, lI x13.2.2]) ag97 (Gu.mk R R) R (.E lv97) R R R) R (.op (O.mv (Gu.mk R R) R R) R (bS hm fun r14 er14 hm => ?_))))))
    refine .op (O.fv (y := (x13, p1)) R R R (Gu.mk R R) R er14 R R) R ?_
    exact .op (O.bi (Gu.mk R R) R R R R) R (.op (O.pkT Z R R R R) R ((J12 (r14 == 0) (oi hm).symm).sub [] R))
   ·refine .know (d := 39) R hc ?_
    exact .sk R (.sk R (.sk R (.sk R (.sk R (.sk R (.sk R (.sk R (.op (O.pkF Z R R R R) R ((J12 false (oi hm).symm).sub [] R)))))))))
 refine .iter (fun (st7 : Int × Int) => ⟨[(10, .i st7.1), (9, .i st7.2), (8, .i (p0.length : Int)), (0, .f qT p0), (1, .i p1), (2, .o (lW Tryz.prog (fun (x : (Int × Int × Int) × Int) => [.a [lI x.1.1, lI x.1.2.1, lI x.1.2.2], .i x.2]) (fun (r : Int) => .i r) (fun x => p2 x.1 x.2)))], [], 0⟩) eo7 [] R ?_
 intro st7 res7 hm ih7 ho7
 unfold yf at hm
 refine .seq (.seq (.reg (.mv R (.mv R (.bi R (.nil (.seqN ?_)))))))
 rcases ifS hm with ⟨hc, hm⟩ | ⟨hc, hm⟩
 ·refine .cT R hc ?_
  refine .skip (.seqN (.block (.seq (.reg (.mv R (.mv R (.bi R (.op (O.cv Tryz.underlying3 Tryz.underlying216 Z R R) R (.op (O.shr Z R R (by decide) R) R (.op (O.cv Tryz.underlying216 Tryz.underlying3 Z R R) R (.sa R (.nil (.seqN (.seq (.reg (.mv R (.mv R (.mv R (bS hm fun x15 ex15 hm => .op (O.ix sl23 Z R R ex15 R) R (.op (O.lg (l' := [lI x15.1, lI x15.2.1, lI x15.2.2]) ag97 Z R (.E lv97) R R R) R (.mv R (bS hm fun r16 er16 hm => ?_))))))))))))))))))))))
  refine .op (O.fv (y := (x15, p1)) R R R Z R er16 R R) R ?_
  refine .bi R (.nil (.seqN ?_))
  rcases ifS hm with ⟨hc, hm⟩ | ⟨hc, hm⟩
  ·refine .cT R hc ?_
   exact .reg (.mv R (.bi R (.sa R (.nil (.blkN ((ih7 _ (oi hm).symm).sub [] R))))))
  ·refine .cF R hc ?_
   exact .reg (.mv R (.sa R (.nil (.blkN ((ih7 _ (oi hm).symm).sub [] R)))))
 ·refine .cF R hc ?_
  exact .exit (.seqX (.seqX ((K9 _ (ho7 _ (oi hm).symm)).sub [] R)))
def y3W (p0 : Int × Int × Int) (p1 : Int) : Option Int :=
 some (W (p0.1 - p1))
theorem y8r {p0 : Int × Int × Int} {p1 : Int} {r : Int} (hm : y3W p0 p1 = some r) :
  Fw Tryz.prog 129 ⟨0, []⟩ [.a [lI p0.1, lI p0.2.1, lI p0.2.2], .i p1] [] (.i r) [] := by
 unfold y3W at hm
 refine Fw.mk' Tryz.func129 R Tryz.ntmps129 R R (fun C => ?_) R R
 refine .seq (.reg (.op (O.box 0 R Z R R R) R (.sa R (.nil (.seqN (.seq (.reg (.op (O.faP y3C Z R R) R (.op (O.ld nag3 Z R (.B R) R R) R (.mv R (.bi R (.sa R (.nil (.seqN (.ret ?_)))))))))))))))
 obtain rfl := oi hm
 exact WX.rt [] (.inl R) Tryz.results129 (.tmp R .nil) R (fun _ _ _ h => h) trivial
def y3X (p0 : Int × Int × Int) (p1 : Int) : Option Int :=
 some (W (p0.1 - p1))
theorem y8s {p0 : Int × Int × Int} {p1 : Int} {r : Int} (hm : y3X p0 p1 = some r) :
  Fw Tryz.prog 130 ⟨0, []⟩ [.a [lI p0.1, lI p0.2.1, lI p0.2.2], .i p1] [] (.i r) [] := by
 unfold y3X at hm
 refine Fw.mk' Tryz.func130 R Tryz.ntmps130 R R (fun C => ?_) R R
 refine .seq (.reg (.op (O.box 0 R Z R R R) R (.sa R (.nil (.seqN (.seq (.reg (.op (O.faP y3C Z R R) R (.op (O.ld nag3 Z R (.B R) R R) R (.mv R (.bi R (.sa R (.nil (.seqN (.ret ?_)))))))))))))))
 obtain rfl := oi hm
 exact WX.rt [] (.inl R) Tryz.results130 (.tmp R .nil) R (fun _ _ _ h => h) trivial
def y3i (p0 : AutT) (p1 : Int) : Option EdgL :=
 (ye p0.2.2.2 p1 y3W).bind fun r1 =>
 (ye p0.2.2.2 (W (p1 + 1)) y3X).bind fun r2 =>
 (slc p0.2.2.2 r1.1 r2.1).bind fun x3 =>
 some x3
theorem y6p {p0 : AutT} {p1 : Int} {r : EdgL} (hm : y3i p0 p1 = some r) :
  Fw Tryz.prog 82 ⟨0, []⟩ [.a [lF qI p0.1, lI p0.2.1, lF qI p0.2.2.1, lF qT p0.2.2.2], .i p1] [] (.f qT r) [] := by
 unfold y3i at hm
 refine Fw.mk' Tryz.func82 R Tryz.ntmps82 R R (fun C => ?_) R R
 refine .seq (.reg (.op (O.box 0 R Z R R R) R (.sa R (.nil (.seqN (.seq (.reg (.op (O.faP yz Z R R) R (.op (O.ld nag23 Z R (.B R) R R) R (.mv R (bS hm fun r1 er1 hm => .op (O.ca0c (y2e er1) cf128 R R Z R ⟨⟨R, .rf⟩, ⟨R, .rf⟩, ⟨R, (.c (.fn cf129 (fun x r h => y8r h) (fun _ => R)) .n)⟩, trivial⟩ R R) R (.mv R (.op (O.ex Z R R R) R (.op (O.ex Z R R R) R (.sa R (.sa R (.nil (.seqN (.seq (.reg (.op (O.faP yz Z R R) R (.op (O.ld nag23 Z R (.B R) R R) R (.mv R (.bi R (bS hm fun r2 er2 hm => .op (O.ca0c (y2e er2) cf128 R R Z R ⟨⟨R, .rf⟩, ⟨R, .rf⟩, ⟨R, (.c (.fn cf130 (fun x r h => y8s h) (fun _ => R)) .n)⟩, trivial⟩ R R) R (.mv R (.op (O.ex Z R R R) R (.op (O.ex Z R R R) R (.sa R (.sa R (.nil (.seqN (.seq (.reg (.op (O.faP yz Z R R) R (.op (O.ld nag23 Z R (.B R) R R) R (.mv R ?_)))))))))))))))))))))))))))))))))))))
 refine .mv R (bS hm fun x3 ex3 hm => .op (O.sl sl23 Z R R R ex3 R) R (.sa R (.nil (.seqN (.ret ?_)))))
 obtain rfl := oi hm
 exact WX.rt [] (.inl R) Tryz.results82 (.tmp R .nil) R (fun _ _ _ h => h) trivial
def y1y (st64 : Int × List Int × List Int × List Int × EdgL) (st91 : Int × List Int × List Int × EdgL) (x96 : Int × Int × Int) (l97 : List Int) (l98 : List Int) : Option ((Int × List Int × List Int × EdgL) ⊕ (List Int × List Int × EdgL)) :=
 (idx l98 x96.2.2).bind fun x100 =>
 (app st91.2.2.2 ([(st64.1, x96.2.1, x100)] : List (Int × Int × Int))).bind fun x101 =>
 some (.inl (W (st91.1 + 1), l97, l98, x101))
def y1z (st64 : Int × List Int × List Int × List Int × EdgL) (r72 : EdgL) (st91 : Int × List Int × List Int × EdgL) : Option ((Int × List Int × List Int × EdgL) ⊕ (List Int × List Int × EdgL)) :=
 if decide (st91.1 < (r72.length : Int)) then
  (idx r72 st91.1).bind fun x96 =>
  (idx st91.2.2.1 x96.2.2).bind fun x102 =>
  if decide (x102 < 0) then
   (idx st91.2.2.1 x96.2.2).bind fun x103 =>
   (upd st91.2.2.1 x96.2.2 (st91.2.1.length : Int)).bind fun x104 =>
   (app st91.2.1 ([x96.2.2] : List Int)).bind fun x105 =>
   y1y st64 st91 x96 x105 x104
  else
   y1y st64 st91 x96 st91.2.1 st91.2.2.1
 else
  some (.inr st91.2)
def y1A (p0 : AutT) (st64 : Int × List Int × List Int × List Int × EdgL) (l69 : List Int) : Option ((Int × List Int × List Int × List Int × EdgL) ⊕ (List Int × List Int × EdgL)) :=
 (idx st64.2.1 st64.1).bind fun x71 =>
 (y3i p0 x71).bind fun r72 =>
 (iter (y1z st64 r72) (0, st64.2.1, st64.2.2.1, st64.2.2.2.2)).bind fun o91 =>
 some (.inl (W (st64.1 + 1), o91.1, o91.2.1, l69, o91.2.2))
def y1B (p0 : AutT) (st64 : Int × List Int × List Int × List Int × EdgL) : Option ((Int × List Int × List Int × List Int × EdgL) ⊕ (List Int × List Int × EdgL)) :=
 if decide (st64.1 < (st64.2.1.length : Int)) then
  (idx st64.2.1 st64.1).bind fun x106 =>
  (y1e p0.2.2.1 x106).bind fun r107 =>
  if r107.2 then
   (app st64.2.2.2.1 ([st64.1] : List Int)).bind fun x108 =>
   y1A p0 st64 x108
  else
   y1A p0 st64 st64.2.2.2.1
 else
  some (.inr (st64.2.1, st64.2.2.2))
def y1C (x2 : List Int) (st9 : Int × List Int) : Option ((Int × List Int) ⊕ (List Int)) :=
 if decide (st9.1 < (x2.length : Int)) then
  (idx st9.2 st9.1).bind fun x109 =>
  (upd st9.2 st9.1 (-1)).bind fun x110 =>
  some (.inl (W (st9.1 + 1), x110))
 else
  some (.inr st9.2)
def y2U (p0 : AutT) : Option AutT :=
 (y1a p0.1).bind fun r1 =>
 if (p0.2.1 == 0) then
  some (r1, 0, ([] : List Int), ([] : List (Int × Int × Int)))
 else
  (mkL p0.2.1 (0 : Int)).bind fun x2 =>
  (iter (y1C x2) (0, x2)).bind fun o9 =>
  (idx o9 0).bind fun x12 =>
  (upd o9 0 0).bind fun x13 =>
  (iter (y1B p0) (0, ([0] : List Int), x13, ([] : List Int), ([] : List (Int × Int × Int)))).bind fun o64 =>
  some (r1, (o64.1.length : Int), o64.2)
theorem y6T {p0 : AutT} {r : AutT} (hm : y2U p0 = some r) :
  Fw Tryz.prog 141 ⟨0, []⟩ [.a [lF qI p0.1, lI p0.2.1, lF qI p0.2.2.1, lF qT p0.2.2.2]] [] (.g [lH 0, lI r.2.1, lH 1, lH 2]) [ROW qI 3 r.1, ROW qI 3 r.2.2.1, ROW qT 97 r.2.2.2] := by
 unfold y2U at hm
 refine Fw.mk' Tryz.func141 R Tryz.ntmps141 R R (fun C => ?_) R R
 refine .seq (.reg (.op (O.box 0 R Z R R R) R (.op (O.al 1 R zz25 R Z R) R (.nil (.seqN (.seq (.reg (.op (O.faP y1D Z R R) R (.op (O.ld nag22 Z R (.B R) R R) R (bS hm fun r1 er1 hm => .op (O.ca (r' := .h 2) [2] [(0, ROW qI 3 r1)] (some 3) (y3Z er1) cf83 R R Z R R R R ⟨⟨_, R, fun _ _ _ _ h => h⟩, trivial⟩ (fun _ _ _ h => h) R) R (.op (O.bu (l := [lH 2, lI 0, lN, lN]) pl25 R Z R R R) R (.op (O.al 3 R zz25 R Z R) R (.op (O.st ag25.sz Z R R R R R) R (.nil (.seqN (.seq (.seq (.reg (.op (O.faP yW Z R R) R (.op (O.ld nag3 Z R (.B R) R R) R (.bi R (.nil (.seqN ?_)))))))))))))))))))))))
 rcases ifS hm with ⟨hc, hm⟩ | ⟨hc, hm⟩
 ·refine .cT R hc ?_
  refine .seq (.reg (.op (O.lg (l' := [lH 2, lI 0, lN, lN]) ag25 Z R (.B R) R R R) R (.op (O.st ag25.sz Z R R R R R) R (.nil (.seqN (.ret (.seqR (.nlb qI 3 1 2 R R (.nlb qT 97 1 3 R R ?_)))))))))
  obtain rfl := oi hm
  exact WX.rt [2, 4, 5] (.inl R) Tryz.results141 (.cell R R ag25 R .nil) R (fun _ _ _ h => h) ⟨⟨_, R, fun _ _ _ _ h => h⟩, ⟨_, R, fun _ _ _ _ h => h⟩, ⟨_, R, fun _ _ _ _ h => h⟩, trivial⟩
 ·refine .cF R hc ?_
  refine .skip (.seqN (.seq (.reg (.op (O.faP yW Z R R) R (.op (O.ld nag3 Z R (.B R) R R) R (bS hm fun x2 ex2 hm => .op (O.mk (z := (0 : Int)) 4 Tryz.underlying22 zr3 R R Z R R ex2 R) R (.sa R (.nil (.seqN (.seq (.seq (.reg (.mv R (.op (O.lenH sl22 Z R R R) R (.mv R (.nil (.seqN (.block (bS hm fun o9 eo9 hm => ?_)))))))))))))))))))
  refine .cut1 (z := .exit 0) o9 (fun (o9 : List Int) => ⟨[(4, .h 0), (3, .q 1 0), (2, .q 3 0), (1, .q 4 0)], [(0, ROW qI 3 o9), (1, .bx 25 [lH 2, lI 0, lN, lN]), (2, ROW qI 3 r1), (3, .bx 25 [lN, lI 0, lN, lN]), (4, .bx 25 [lF qI p0.1, lI p0.2.1, lF qI p0.2.2.1, lF qT p0.2.2.2])], 5⟩) ?_ fun K11 => ?_
  ·skip
   refine .blkE (.seqN (.seq (.reg (.mv R (bS hm fun x12 ex12 hm => .op (O.ir sl22 Z R R R ex12 R) R (bS hm fun x13 ex13 hm => .op (O.su (z := 0) nag3.sz Z R R ex12 ex13 R R R lv3 R .k) R (.nil (.seqN (.seq (.reg (.op (O.bsO (r := qI) (zs := ([0] : List Int)) 5 R bs22 R R Z R R R (.c .k .n) R R R) R (.sa R (.nil (.seqN (.seq (.seq (.reg (.sa R (.nil (.seqN (.block (bS hm fun o64 eo64 hm => ?_))))))))))))))))))))))
   refine .cut1 (z := .exit 2) o64 (fun (o64 : List Int × List Int × EdgL) => ⟨[(6, .h 0), (3, .q 1 0), (2, .q 5 0)], [(0, ROW qI 3 o64.1), (1, .bx 25 [lH 2, lI 0, lH 3, lH 4]), (2, ROW qI 3 r1), (3, ROW qI 3 o64.2.1), (4, ROW qT 97 o64.2.2), (5, .bx 25 [lN, lI 0, lN, lN])], 6⟩) ?_ fun K68 => ?_
   ·skip
    refine .blkE (.seqN (.seq (.reg (.mv R (.op (O.lenH sl22 Z R R R) R (.op (O.faP yW Z R R) R (.op (O.st nag3.sz Z R R R R R) R (.nil (.seqN (.seq (.reg (.op (O.lg (l' := [lH 2, lI (o64.1.length : Int), lH 3, lH 4]) ag25 Z R (.B R) R R R) R (.op (O.st ag25.sz Z R R R R R) R (.nil (.seqN (.ret ?_))))))))))))))))
    obtain rfl := oi hm
    exact WX.rt [2, 3, 4] (.inl R) Tryz.results141 (.cell R R ag25 R .nil) R (fun _ _ _ h => h) ⟨⟨_, R, fun _ _ _ _ h => h⟩, ⟨_, R, fun _ _ _ _ h => h⟩, ⟨_, R, fun _ _ _ _ h => h⟩, trivial⟩
   refine .nlb qI 3 1 2 R R (.nlb qT 97 1 3 R R (.iter (fun (st64 : Int × List Int × List Int × List Int × EdgL) => ⟨[(7, .i st64.1), (6, .h 0), (4, .h 1), (3, .q 2 0), (2, .q 6 0), (1, .q 7 0)], [(0, ROW qI 3 st64.2.1), (1, ROW qI 3 st64.2.2.1), (2, .bx 25 [lH 3, lI 0, lH 4, lH 5]), (3, ROW qI 3 r1), (4, ROW qI 3 st64.2.2.2.1), (5, ROW qT 97 st64.2.2.2.2), (6, .bx 25 [lN, lI 0, lN, lN]), (7, .bx 25 [lF qI p0.1, lI p0.2.1, lF qI p0.2.2.1, lF qT p0.2.2.2])], 8⟩) eo64 [(0, 5), (1, 0), (2, 1), (3, 2), (4, 6), (5, 7), (6, 3), (7, 4)] R ?_))
   intro st64 res64 hm ih64 ho64
   unfold y1B at hm
   refine .seq (.seq (.reg (.mv R (.mv R (.op (O.lenH sl22 Z R R R) R (.bi R (.nil (.seqN ?_))))))))
   rcases ifS hm with ⟨hc, hm⟩ | ⟨hc, hm⟩
   ·refine .cT R hc ?_
    refine .skip (.seqN (.seq (.block ?_)))
    refine .join1 (fun (l69 : List Int) => y1A p0 st64 l69 = some res64) (fun l69 => ⟨[(7, .i st64.1), (6, .h 0), (4, .h 1), (3, .q 2 0), (2, .q 6 0), (1, .q 7 0)], [(0, ROW qI 3 st64.2.1), (1, ROW qI 3 st64.2.2.1), (2, .bx 25 [lH 3, lI 0, lH 4, lH 5]), (3, ROW qI 3 r1), (4, ROW qI 3 l69), (5, ROW qT 97 st64.2.2.2.2), (6, .bx 25 [lN, lI 0, lN, lN]), (7, .bx 25 [lF qI p0.1, lI p0.2.1, lF qI p0.2.2.1, lF qT p0.2.2.2])], 8⟩) ?_ ?_
    ·intro l69 hm
     unfold y1A at hm
     refine .seq ?_
     refine .sub (τ := ⟨[(7, .i st64.1), (6, .h 0), (4, .h 1), (3, .q 2 0), (2, .q 6 0), (1, .q 7 0)], [(0, ROW qI 3 st64.2.1), (1, ROW qI 3 st64.2.2.1), (2, .bx 25 [lH 3, lI 0, lH 4, lH 5]), (3, ROW qI 3 r1), (4, ROW qI 3 l69), (5, ROW qT 97 st64.2.2.2.2), (6, .bx 25 [lN, lI 0, lN, lN]), (7, .bx 25 [lF qI p0.1, lI p0.2.1, lF qI p0.2.2.1, lF qT p0.2.2.2])], 8⟩) ?_ [] R
     refine bS hm fun x71 ex71 hm => bS hm fun r72 er72 hm => ?_
     refine .drw [(8, []), (8, []), (8, []), (8, [oF, oT, oT]), (8, [oF, oT, oT, oT]), (8, [oT, oT, oT, oT, oT]), (8, [oT, oT, oT, oT, oT, oT]), (8, [])] [_, _, _, _, _, _, _, _] ⟨[(65, .i 0), (64, .i (r72.length : Int)), (63, .f qT r72), (7, .i st64.1), (6, .h 0), (4, .h 1), (3, .q 2 0), (2, .q 6 0), (1, .q 7 0)], [(0, ROW qI 3 st64.2.1), (1, ROW qI 3 st64.2.2.1), (2, .bx 25 [lH 3, lI 0, lH 4, lH 5]), (3, ROW qI 3 r1), (4, ROW qI 3 l69), (5, ROW qT 97 st64.2.2.2.2), (6, .bx 25 [lN, lI 0, lN, lN]), (7, .bx 25 [lF qI p0.1, lI p0.2.1, lF qI p0.2.2.1, lF qT p0.2.2.2])], 8⟩ ⟨O.lg (l' := [lF qI p0.1, lI p0.2.1, lF qI p0.2.2.1, lF qT p0.2.2.2]) ag25 Z R (.B R) R R R, O.mv Z R R, O.mv Z R R, O.ir sl22 Z R R R ex71 R, O.ld nag3 Z R (.R R ex71 lv3) R R, O.ca0 (y6p er72) cf82 R R Z R R R, O.len sl23 Z R R, O.mv Z R R, trivial⟩ (by kernel_rfl) R ?_
     refine .seqN (.block (bS hm fun o91 eo91 hm => ?_))
     refine .cut1 (z := .exit 4) o91 (fun (o91 : List Int × List Int × EdgL) => ⟨[(7, .i st64.1), (6, .h 0), (4, .h 1), (3, .q 2 0), (2, .q 6 0), (1, .q 7 0)], [(0, ROW qI 3 o91.1), (1, ROW qI 3 o91.2.1), (2, .bx 25 [lH 3, lI 0, lH 4, lH 5]), (3, ROW qI 3 r1), (4, ROW qI 3 l69), (5, ROW qT 97 o91.2.2), (6, .bx 25 [lN, lI 0, lN, lN]), (7, .bx 25 [lF qI p0.1, lI p0.2.1, lF qI p0.2.2.1, lF qT p0.2.2.2])], 8⟩) ?_ fun K95 => ?_
     ·skip
      exact .blkE (.blkN (.seqN (.reg (.mv R (.bi R (.sa R (.nil ((ih64 _ (oi hm).symm).sub [] R))))))))
     refine .iter (fun (st91 : Int × List Int × List Int × EdgL) => ⟨[(65, .i st91.1), (64, .i (r72.length : Int)), (63, .f qT r72), (7, .i st64.1), (6, .h 0), (4, .h 1), (3, .q 2 0), (2, .q 6 0), (1, .q 7 0)], [(0, ROW qI 3 st91.2.1), (1, ROW qI 3 st91.2.2.1), (2, .bx 25 [lH 3, lI 0, lH 4, lH 5]), (3, ROW qI 3 r1), (4, ROW qI 3 l69), (5, ROW qT 97 st91.2.2.2), (6, .bx 25 [lN, lI 0, lN, lN]), (7, .bx 25 [lF qI p0.1, lI p0.2.1, lF qI p0.2.2.1, lF qT p0.2.2.2])], 8⟩) eo91 [] R ?_
     intro st91 res91 hm ih91 ho91
     unfold y1z at hm
     refine .seq (.reg (.bi R (.nil (.seqN (.seq ?_)))))
     rcases ifS hm with ⟨hc, hm⟩ | ⟨hc, hm⟩
     ·refine .cT R hc ?_
      refine .skip (.seqN (.seq (.block (.seq (.reg (bS hm fun x96 ex96 hm => .op (O.ix sl23 Z R R ex96 R) R (.op (O.lg (l' := [lI x96.1, lI x96.2.1, lI x96.2.2]) ag97 Z R (.E lv97) R R R) R (.op (O.al 8 R zz97 R Z R) R (.op (O.st ag97.sz Z R R R R R) R (.nil (.seqN ?_)))))))))))
      refine .join2 (fun (l97 : List Int) (l98 : List Int) => y1y st64 st91 x96 l97 l98 = some res91) (fun l97 l98 => ⟨[(6, .h 0), (11, .q 1 0), (65, .i st91.1), (64, .i (r72.length : Int)), (63, .f qT r72), (7, .i st64.1), (4, .h 2), (3, .q 3 0), (2, .q 7 0), (1, .q 8 0)], [(0, ROW qI 3 l97), (1, .bx 97 [lI x96.1, lI x96.2.1, lI x96.2.2]), (2, ROW qI 3 l98), (3, .bx 25 [lH 4, lI 0, lH 5, lH 6]), (4, ROW qI 3 r1), (5, ROW qI 3 l69), (6, ROW qT 97 st91.2.2.2), (7, .bx 25 [lN, lI 0, lN, lN]), (8, .bx 25 [lF qI p0.1, lI p0.2.1, lF qI p0.2.2.1, lF qT p0.2.2.2])], 9⟩) ?_ ?_
      ·intro l97 l98 hm
       unfold y1y at hm
       refine .sub (τ := ⟨[(6, .h 0), (11, .q 1 0), (65, .i st91.1), (64, .i (r72.length : Int)), (63, .f qT r72), (7, .i st64.1), (4, .h 2), (3, .q 3 0), (2, .q 7 0), (1, .q 8 0)], [(0, ROW qI 3 l97), (1, .bx 97 [lI x96.1, lI x96.2.1, lI x96.2.2]), (2, ROW qI 3 l98), (3, .bx 25 [lH 4, lI 0, lH 5, lH 6]), (4, ROW qI 3 r1), (5, ROW qI 3 l69), (6, ROW qT 97 st91.2.2.2), (7, .bx 25 [lN, lI 0, lN, lN]), (8, .bx 25 [lF qI p0.1, lI p0.2.1, lF qI p0.2.2.1, lF qT p0.2.2.2])], 9⟩) ?_ [] R
       refine bS hm fun x100 ex100 hm => bS hm fun x101 ex101 hm => ?_
       refine .drg 10 [(9, []), (9, [oT]), (9, []), (9, []), (9, [oF, oF, oF, oT]), (9, []), (9, []), (9, [oF, oF, oF, oF, oF, oF, oT]), (9, [oF, oF, oF, oF, oF, oT, oT, oT]), (9, [oF, oF, oF, oF, oF, oT, oT, oT, oT]), (9, [oF, oF, oT, oT, oT, oT, oT, oT, oT, oT]), (9, [oF, oF, oT, oT, oT, oT, oT, oT, oT, oT, oT]), (9, [oT, oT, oT, oT, oT, oT, oT, oT, oT, oT, oT, oT]), (10, [oT, oT, oT, oT, oT, oT, oT, oT, oT, oT, oT, oT, oT]), (10, [oT, oT, oT, oT, oT, oT, oT, oT, oT, oT, oT, oT, oT, oT])] [_, _, _, _, _, _, _, _, _, _, _, _, _, _, _] ⟨[(6, .h 0), (65, .i st91.1), (64, .i (r72.length : Int)), (63, .f qT r72), (7, .i st64.1), (4, .h 2), (3, .q 3 0), (2, .q 7 0), (1, .q 8 0)], [(0, ROW qI 3 l97), (2, ROW qI 3 l98), (3, .bx 25 [lH 4, lI 0, lH 5, lH 9]), (4, ROW qI 3 r1), (5, ROW qI 3 l69), (9, ROW qT 97 x101), (7, .bx 25 [lN, lI 0, lN, lN]), (8, .bx 25 [lF qI p0.1, lI p0.2.1, lF qI p0.2.2.1, lF qT p0.2.2.2])], 10⟩ ⟨O.faP yz Z R R, O.ld nag23 Z R (.B R) R R, O.mv Z R R, O.faP y4D Z R R, O.ld nag3 Z R (.B R) R R, O.mv Z R R, O.faP y4E Z R R, O.ld nag3 Z R (.B R) R R, O.ir sl22 Z R R R ex100 R, O.ld nag3 Z R (.R R ex100 lv3) R R, O.bu (l := [lI st64.1, lI x96.2.1, lI x100]) pl97 R Z R R R, O.bsF (r := qT) (zs := ([(st64.1, x96.2.1, x100)] : List (Int × Int × Int))) bs23 R R Z R R R (.c (.p .k (.p .k .k)) .n) R R R, O.ap 9 Tryz.underlying23 el97 R R Z R R (.fr R) ex101 R, O.faP yz Z R R, O.st nag23.sz Z R R R R R, trivial⟩ (by kernel_rfl) R ?_
       exact .blkN (.seqN (.reg (.bi R (.mv R (.nil ((ih91 _ (oi hm).symm).sub [(1, 2), (2, 3), (3, 4), (4, 5), (5, 9), (6, 7), (7, 8)] R))))))
      ·intro Jj99
       refine .seq (.reg (.mv R (.op (O.faP y4E Z R R) R (.op (O.ld nag3 Z R (.B R) R R) R (bS hm fun x102 ex102 hm => .op (O.ir sl22 Z R R R ex102 R) R (.op (O.ld nag3 Z R (.R R ex102 lv3) R R) R (.bi R (.nil (.seqN ?_)))))))))
       rcases ifS hm with ⟨hc, hm⟩ | ⟨hc, hm⟩
       ·refine .cT R hc ?_
        exact .seq (.reg (.mv R (.op (O.faP y4E Z R R) R (.op (O.ld nag3 Z R (.B R) R R) R (.mv R (.op (O.lenH sl22 Z R R R) R (bS hm fun x103 ex103 hm => .op (O.ir sl22 Z R R R ex103 R) R (bS hm fun x104 ex104 hm => .op (O.su (z := (st91.2.1.length : Int)) nag3.sz Z R R ex103 ex104 R R R lv3 R .k) R (.nil (.seqN (.reg (.mv R (.op (O.faP y4E Z R R) R (.op (O.ld nag3 Z R (.B R) R R) R (.op (O.bsF (r := qI) (zs := ([x96.2.2] : List Int)) bs22 R R Z R R R (.c .k .n) R R R) R (bS hm fun x105 ex105 hm => .op (O.ap 9 Tryz.underlying22 el3 R R Z R R (.fr R) ex105 R) R (.sa R (.nil ((Jj99 _ _ hm).sub [(0, 9), (1, 8), (2, 1), (3, 2), (4, 3), (5, 4), (6, 5), (7, 6), (8, 7)] R)))))))))))))))))))
       ·refine .cF R hc ?_
        exact .skip ((Jj99 _ _ hm).sub [(1, 8), (2, 1), (3, 2), (4, 3), (5, 4), (6, 5), (7, 6), (8, 7)] R)
     ·refine .cF R hc ?_
      exact .exit (.seqX (.seqX ((K95 _ (ho91 _ (oi hm).symm)).sub [] R)))
    ·intro Jj70
     refine .seq ?_
     refine .sub (τ := ⟨[(7, .i st64.1), (6, .h 0), (4, .h 1), (3, .q 2 0), (2, .q 6 0), (1, .q 7 0)], [(0, ROW qI 3 st64.2.1), (1, ROW qI 3 st64.2.2.1), (2, .bx 25 [lH 3, lI 0, lH 4, lH 5]), (3, ROW qI 3 r1), (4, ROW qI 3 st64.2.2.2.1), (5, ROW qT 97 st64.2.2.2.2), (6, .bx 25 [lN, lI 0, lN, lN]), (7, .bx 25 [lF qI p0.1, lI p0.2.1, lF qI p0.2.2.1, lF qT p0.2.2.2])], 8⟩) ?_ [] R
     refine bS hm fun x106 ex106 hm => bS hm fun r107 er107 hm => ?_
     refine .drw [(8, []), (8, [oT]), (8, []), (8, []), (8, [oF, oF, oT, oT]), (8, [oF, oF, oT, oT, oT]), (8, [oT, oT, oT, oT, oT, oT]), (8, [oT, oT, oT, oT, oT, oT, oT]), (8, [oT, oT, oT, oT, oT, oT, oT, oT]), (8, [oT, oT, oT, oT, oT, oT, oT, oT]), (8, [oT, oT, oT, oT, oT, oT, oT, oT, oT]), (8, [oT, oT, oT, oT, oT, oT, oT, oT, oT, oT, oT])] [_, _, _, _, _, _, _, _, _, _, _, _] ⟨[(9, .b r107.2), (7, .i st64.1), (6, .h 0), (4, .h 1), (3, .q 2 0), (2, .q 6 0), (1, .q 7 0)], [(0, ROW qI 3 st64.2.1), (1, ROW qI 3 st64.2.2.1), (2, .bx 25 [lH 3, lI 0, lH 4, lH 5]), (3, ROW qI 3 r1), (4, ROW qI 3 st64.2.2.2.1), (5, ROW qT 97 st64.2.2.2.2), (6, .bx 25 [lN, lI 0, lN, lN]), (7, .bx 25 [lF qI p0.1, lI p0.2.1, lF qI p0.2.2.1, lF qT p0.2.2.2])], 8⟩ ⟨O.faP y2N Z R R, O.ld nag22 Z R (.B R) R R, O.mv Z R R, O.mv Z R R, O.ir sl22 Z R R R ex106 R, O.ld nag3 Z R (.R R ex106 lv3) R R, O.ca0 (y4G er107) cf118 R R Z R R R, O.mv Z R R, O.ex Z R R R, O.ex Z R R R, O.as Z R R, O.as Z R R, trivial⟩ (by kernel_rfl) R ?_
     refine .seqN (.seq (.reg (.mv R (.nil (.seqN ?_)))))
     rcases ifS hm with ⟨hc, hm⟩ | ⟨hc, hm⟩
     ·refine .cT R hc ?_
      exact .reg (.op (O.faP y2N Z R R) R (.op (O.ld nag22 Z R (.B R) R R) R (.mv R (.op (O.bsF (r := qI) (zs := ([st64.1] : List Int)) bs22 R R Z R R R (.c .k .n) R R R) R (bS hm fun x108 ex108 hm => .op (O.ap 8 Tryz.underlying22 el3 R R Z R R (.fr R) ex108 R) R (.op (O.faP y2N Z R R) R (.op (O.st nag22.sz Z R R R R R) R (.nil ((Jj70 _ hm).sub [(4, 8)] R)))))))))
     ·refine .cF R hc ?_
      exact .skip ((Jj70 _ hm).sub [] R)
   ·refine .cF R hc ?_
    exact .exit (.seqX (.seqX ((K68 _ (ho64 _ (oi hm).symm)).sub [(1, 2), (2, 3), (3, 4), (4, 5), (5, 6)] R)))
  refine .iter (fun (st9 : Int × List Int) => ⟨[(25, .i st9.1), (24, .i (x2.length : Int)), (4, .h 0), (3, .q 1 0), (2, .q 3 0), (1, .q 4 0)], [(0, ROW qI 3 st9.2), (1, .bx 25 [lH 2, lI 0, lN, lN]), (2, ROW qI 3 r1), (3, .bx 25 [lN, lI 0, lN, lN]), (4, .bx 25 [lF qI p0.1, lI p0.2.1, lF qI p0.2.2.1, lF qT p0.2.2.2])], 5⟩) eo9 [(0, 4), (1, 3), (3, 1), (4, 0)] R ?_
  intro st9 res9 hm ih9 ho9
  unfold y1C at hm
  refine .seq (.reg (.bi R (.nil (.seqN (.seq ?_)))))
  rcases ifS hm with ⟨hc, hm⟩ | ⟨hc, hm⟩
  ·refine .cT R hc ?_
   exact .skip (.seqN (.seq (.block (.seq (.reg (.mv R (.sa R (.nil (.seqN (.reg (.mv R (.mv R (bS hm fun x109 ex109 hm => .op (O.ir sl22 Z R R R ex109 R) R (bS hm fun x110 ex110 hm => .op (O.su (z := (-1)) nag3.sz Z R R ex109 ex110 R R R lv3 R .k) R (.nil (.blkN (.seqN (.reg (.bi R (.mv R (.nil ((ih9 _ (oi hm).symm).sub [] R))))))))))))))))))))))
  ·refine .cF R hc ?_
   exact .exit (.seqX (.seqX ((K11 _ (ho9 _ (oi hm).symm)).sub [] R)))
def y3O (p0 : AutT) : Option (AutT × Int) :=
 (yH p0).bind fun r1 =>
 if (r1 != 0) then
  some ((([] : List Int), 0, ([] : List Int), ([] : List (Int × Int × Int))), r1)
 else
  (y2U p0).bind fun r2 =>
  some (r2, 0)
theorem y6U {p0 : AutT} {r : AutT × Int} (hm : y3O p0 = some r) :
  Fw Tryz.prog 94 ⟨0, []⟩ [.a [lF qI p0.1, lI p0.2.1, lF qI p0.2.2.1, lF qT p0.2.2.2]] [] (.tp [.a [lH 0, lI r.1.2.1, lH 1, lH 2], .i r.2]) [ROW qI 3 r.1.1, ROW qI 3 r.1.2.2.1, ROW qT 97 r.1.2.2.2] := by
 unfold y3O at hm
 refine Fw.mk' Tryz.func94 R Tryz.ntmps94 R R (fun C => ?_) R R
 refine .seq (.reg (.op (O.box 0 R Z R R R) R (.op (O.al 1 R zz25 R Z R) R (.sa R (.nil (.seqN (.seq (.seq (.reg (.op (O.lg (l' := [lF qI p0.1, lI p0.2.1, lF qI p0.2.2.1, lF qT p0.2.2.2]) ag25 Z R (.B R) R R R) R (bS hm fun r1 er1 hm => .op (O.ca0 (y2F er1) cf51 R R Z R R R) R (.sa R (.nil (.seqN (.seq (.reg (.mv R (.bi R (.nil (.seqN ?_))))))))))))))))))))
 rcases ifS hm with ⟨hc, hm⟩ | ⟨hc, hm⟩
 ·refine .cT R hc ?_
  refine .seq (.reg (.op (O.bu (l := [lN, lI 0, lN, lN]) pl25 R Z R R R) R (.mv R (.op (O.st ag25.sz Z R R R R R) R (.sa R (.nil (.seqN (.ret (.seqR (.nlb qI 3 1 0 R R (.nlb qI 3 1 2 R R (.nlb qT 97 1 3 R R ?_))))))))))))
  obtain rfl := oi hm
  exact WX.rt [2, 3, 4] (.inl R) Tryz.results94 (.cell R R ag25 R (.tmp R .nil)) R (fun _ _ _ h => h) ⟨⟨_, R, fun _ _ _ _ h => h⟩, ⟨_, R, fun _ _ _ _ h => h⟩, ⟨_, R, fun _ _ _ _ h => h⟩, trivial⟩
 ·refine .cF R hc ?_
  refine .skip (.seqN (.seq (.reg (.op (O.lg (l' := [lF qI p0.1, lI p0.2.1, lF qI p0.2.2.1, lF qT p0.2.2.2]) ag25 Z R (.B R) R R R) R (bS hm fun r2 er2 hm => .op (O.ca (r' := .g [lH 2, lI r2.2.1, lH 3, lH 4]) [2, 3, 4] [(0, ROW qI 3 r2.1), (1, ROW qI 3 r2.2.2.1), (2, ROW qT 97 r2.2.2.2)] (some 5) (y6T er2) cf141 R R Z R R R R ⟨⟨_, R, fun _ _ _ _ h => h⟩, ⟨_, R, fun _ _ _ _ h => h⟩, ⟨_, R, fun _ _ _ _ h => h⟩, trivial⟩ (fun _ _ _ h => h) R) R (.op (O.st ag25.sz Z R R R R R) R (.sa R (.nil (.seqN (.ret ?_))))))))))
  obtain rfl := oi hm
  exact WX.rt [2, 3, 4] (.inl R) Tryz.results94 (.cell R R ag25 R (.tmp R .nil)) R (fun _ _ _ h => h) ⟨⟨_, R, fun _ _ _ _ h => h⟩, ⟨_, R, fun _ _ _ _ h => h⟩, ⟨_, R, fun _ _ _ _ h => h⟩, trivial⟩
def yK (st16 : Int × EdgL) (l20 : List (Int × Int × Int)) : Option ((Int × EdgL) ⊕ EdgL) :=
 some (.inl (W (st16.1 + 1), l20))
def yL (st16 : Int × EdgL) (x22 : Int × Int × Int) (b23 : Bool) : Option ((Int × EdgL) ⊕ EdgL) :=
 if b23 then
  (app st16.2 ([x22] : List (Int × Int × Int))).bind fun x25 =>
  yK st16 x25
 else
  yK st16 st16.2
def yM (p0 : AutT × AutT × List Int) (p1 : List Int) (r1 : AutT × List (List Int) × Int) (st16 : Int × EdgL) : Option ((Int × EdgL) ⊕ EdgL) :=
 if decide (st16.1 < (r1.1.2.2.2.length : Int)) then
  (idx r1.1.2.2.2 st16.1).bind fun x22 =>
  (y1W p0.2.2 x22.2.1).bind fun r26 =>
  if r26 then
   yL st16 x22 true
  else
   (idx r1.2.1 x22.1).bind fun x28 =>
   (y1b p0 x28 p1).bind fun r29 =>
   yL st16 x22 (r29 == x22.2.1)
 else
  some (.inr st16.2)
def y1N (p0 : AutT × AutT × List Int) (p1 : List Int) : Option AutT :=
 (yi ([p0.1, p0.2.1] : List AutT)).bind fun r1 =>
 (iter (yM p0 p1 r1) (0, ([] : List (Int × Int × Int)))).bind fun o16 =>
 (y3O (r1.1.1, r1.1.2.1, r1.1.2.2.1, o16)).bind fun r19 =>
 some r19.1
theorem y5P {p0 : AutT × AutT × List Int} {p1 : List Int} {r : AutT} (hm : y1N p0 p1 = some r) :
  Fw Tryz.prog 44 ⟨0, []⟩ [.a [lF qI p0.1.1, lI p0.1.2.1, lF qI p0.1.2.2.1, lF qT p0.1.2.2.2, lF qI p0.2.1.1, lI p0.2.1.2.1, lF qI p0.2.1.2.2.1, lF qT p0.2.1.2.2.2, lF qI p0.2.2], .f qI p1] [] (.g [lH 0, lI r.2.1, lH 1, lH 2]) [ROW qI 3 r.1, ROW qI 3 r.2.2.1, ROW qT 97 r.2.2.2] := by
 unfold y1N at hm
 refine Fw.mk' Tryz.func44 R Tryz.ntmps44 R R (fun C => ?_) R R
 refine .seq (.reg (.op (O.box 0 R Z R R R) R (.op (O.al 1 R zz25 R Z R) R (.nil (.seqN (.seq (.reg (.op (O.faP y5i Z R R) R (.op (O.lg (l' := [lF qI p0.1.1, lI p0.1.2.1, lF qI p0.1.2.2.1, lF qT p0.1.2.2.2]) ag25 Z R (.B R) R R R) R (.op (O.faP y6I Z R R) R (.op (O.lg (l' := [lF qI p0.2.1.1, lI p0.2.1.2.1, lF qI p0.2.1.2.2.1, lF qT p0.2.1.2.2.2]) ag25 Z R (.B R) R R R) R (.op (O.bsF (r := rE25) (zs := ([p0.1, p0.2.1] : List AutT)) bs73 R R Z R R R (.c (.p .l (.p .k (.p .l .l))) (.c (.p .l (.p .k (.p .l .l))) .n)) R R R) R (bS hm fun r1 er1 hm => .op (O.ca (r' := .tp [.a [lF qI r1.1.1, lI r1.1.2.1, lH 2, lH 3], .h 4, .i r1.2.2]) [2, 3, 4] [(0, ROW qI 3 r1.1.2.2.1), (1, ROW qT 97 r1.1.2.2.2), (2, ROW (rL qI) 22 r1.2.1)] (some 5) (y3n er1) cf34 R R Z R R R R ⟨⟨_, R, fun _ _ _ _ h => h⟩, ⟨_, R, fun _ _ _ _ h => h⟩, ⟨_, R, fun _ _ _ _ h => h⟩, trivial⟩ (fun _ _ _ h => h) R) R (.mv R (.op (O.ex Z R R R) R (.op (O.ex Z R R R) R (.op (O.ex Z R R R) R (.op (O.al 5 R zz25 R Z R) R (.op (O.st ag25.sz Z R R R R R) R (.sa R (.sa R (.nil (.seqN (.seq (.reg (.op (O.faP y1D Z R R) R (.op (O.ld nag22 Z R (.B R) R R) R (.op (O.faP yW Z R R) R (.op (O.ld nag3 Z R (.B R) R R) R (.op (O.faP y2N Z R R) R (.op (O.ld nag22 Z R (.B R) R R) R (.op (O.bu (l := [lF qI r1.1.1, lI r1.1.2.1, lH 2, lN]) pl25 R Z R R R) R (.op (O.al 6 R zz25 R Z R) R (.op (O.st ag25.sz Z R R R R R) R (.nil (.seqN (.seq (.seq ?_))))))))))))))))))))))))))))))))))))))
 refine .reg (.op (O.faP yz Z R R) R (.op (O.ld nag23 Z R (.B R) R R) R (.op (O.lenH sl23 Z R R R) R (.mv R (.nil (.seqN (.block (bS hm fun o16 eo16 hm => ?_))))))))
 refine .cut1 (z := .exit 0) o16 (fun (o16 : EdgL) => ⟨[(8, .q 0 0), (4, .q 3 0)], [(0, .bx 25 [lF qI r1.1.1, lI r1.1.2.1, lH 1, lH 2]), (1, ROW qI 3 r1.1.2.2.1), (2, ROW qT 97 o16), (3, .bx 25 [lN, lI 0, lN, lN])], 4⟩) ?_ fun K18 => ?_
 ·skip
  refine .blkE (.seqN (.seq (.reg (.op (O.lg (l' := [lF qI r1.1.1, lI r1.1.2.1, lH 1, lH 2]) ag25 Z R (.B R) R R R) R (.fz 1 [61] [0] R R fR R R (.fz 2 [61] [0] R R fR R R (bS hm fun r19 er19 hm => .op (O.ca (r' := .tp [.a [lH 4, lI r19.1.2.1, lH 5, lH 6], .i r19.2]) [4, 5, 6] [(0, ROW qI 3 r19.1.1), (1, ROW qI 3 r19.1.2.2.1), (2, ROW qT 97 r19.1.2.2.2)] (some 7) (y6U er19) cf94 R R Z R R R R ⟨⟨_, R, fun _ _ _ _ h => h⟩, ⟨_, R, fun _ _ _ _ h => h⟩, ⟨_, R, fun _ _ _ _ h => h⟩, trivial⟩ (fun _ _ _ h => h) R) R (.mv R (.op (O.ex Z R R R) R (.op (O.ex Z R R R) R (.op (O.st ag25.sz Z R R R R R) R (.nil (.seqN (.seq (.reg (.op (O.lg (l' := [lH 4, lI r19.1.2.1, lH 5, lH 6]) ag25 Z R (.B R) R R R) R (.op (O.st ag25.sz Z R R R R R) R (.nil (.seqN (.ret ?_))))))))))))))))))))
  obtain rfl := oi hm
  exact WX.rt [4, 5, 6] (.inl R) Tryz.results44 (.cell R R ag25 R .nil) R (fun _ _ _ h => h) ⟨⟨_, R, fun _ _ _ _ h => h⟩, ⟨_, R, fun _ _ _ _ h => h⟩, ⟨_, R, fun _ _ _ _ h => h⟩, trivial⟩
 refine .nlb qT 97 6 3 R R (.iter (fun (st16 : Int × EdgL) => ⟨[(31, .i st16.1), (30, .i (r1.1.2.2.2.length : Int)), (29, .h 0), (8, .q 1 0), (6, .h 4), (4, .q 5 0), (2, .q 6 0), (1, .f qI p1)], [(0, ROW qT 97 r1.1.2.2.2), (1, .bx 25 [lF qI r1.1.1, lI r1.1.2.1, lH 2, lH 3]), (2, ROW qI 3 r1.1.2.2.1), (3, ROW qT 97 st16.2), (4, ROW (rL qI) 22 r1.2.1), (5, .bx 25 [lN, lI 0, lN, lN]), (6, .bx 27 [lF qI p0.1.1, lI p0.1.2.1, lF qI p0.1.2.2.1, lF qT p0.1.2.2.2, lF qI p0.2.1.1, lI p0.2.1.2.1, lF qI p0.2.1.2.2.1, lF qT p0.2.1.2.2.2, lF qI p0.2.2])], 7⟩) eo16 [(0, 3), (1, 6), (3, 7), (5, 1), (6, 0)] R ?_)
 intro st16 res16 hm ih16 ho16
 unfold yM at hm
 refine .seq (.reg (.bi R (.nil (.seqN (.seq ?_)))))
 rcases ifS hm with ⟨hc, hm⟩ | ⟨hc, hm⟩
 ·refine .cT R hc ?_
  refine .skip (.seqN ?_)
  refine .join1 (fun (l20 : List (Int × Int × Int)) => yK st16 l20 = some res16) (fun l20 => ⟨[(31, .i st16.1), (30, .i (r1.1.2.2.2.length : Int)), (29, .h 0), (8, .q 1 0), (6, .h 4), (4, .q 5 0), (2, .q 6 0), (1, .f qI p1)], [(0, ROW qT 97 r1.1.2.2.2), (1, .bx 25 [lF qI r1.1.1, lI r1.1.2.1, lH 2, lH 3]), (2, ROW qI 3 r1.1.2.2.1), (3, ROW qT 97 l20), (4, ROW (rL qI) 22 r1.2.1), (5, .bx 25 [lN, lI 0, lN, lN]), (6, .bx 27 [lF qI p0.1.1, lI p0.1.2.1, lF qI p0.1.2.2.1, lF qT p0.1.2.2.2, lF qI p0.2.1.1, lI p0.2.1.2.1, lF qI p0.2.1.2.2.1, lF qT p0.2.1.2.2.2, lF qI p0.2.2])], 7⟩) ?_ ?_
  ·intro l20 hm
   unfold yK at hm
   exact .reg (.bi R (.mv R (.nil ((ih16 _ (oi hm).symm).sub [] R))))
  ·intro Jj21
   refine .block (.seq (.reg (bS hm fun x22 ex22 hm => .op (O.ir sl23 Z R R R ex22 R) R (.op (O.lg (l' := [lI x22.1, lI x22.2.1, lI x22.2.2]) ag97 Z R (.R R ex22 lv97) R R R) R (.op (O.al 7 R zz97 R Z R) R (.op (O.st ag97.sz Z R R R R R) R (.nil (.seqN ?_))))))))
   refine .join1 (fun (b23 : Bool) => yL st16 x22 b23 = some res16) (fun b23 => ⟨[(52, .b b23), (10, .q 0 0), (31, .i st16.1), (30, .i (r1.1.2.2.2.length : Int)), (29, .h 1), (8, .q 2 0), (6, .h 5), (4, .q 6 0), (2, .q 7 0), (1, .f qI p1)], [(0, .bx 97 [lI x22.1, lI x22.2.1, lI x22.2.2]), (1, ROW qT 97 r1.1.2.2.2), (2, .bx 25 [lF qI r1.1.1, lI r1.1.2.1, lH 3, lH 4]), (3, ROW qI 3 r1.1.2.2.1), (4, ROW qT 97 st16.2), (5, ROW (rL qI) 22 r1.2.1), (6, .bx 25 [lN, lI 0, lN, lN]), (7, .bx 27 [lF qI p0.1.1, lI p0.1.2.1, lF qI p0.1.2.2.1, lF qT p0.1.2.2.2, lF qI p0.2.1.1, lI p0.2.1.2.1, lF qI p0.2.1.2.2.1, lF qT p0.2.1.2.2.2, lF qI p0.2.2])], 8⟩) ?_ ?_
   ·intro b23 hm
    unfold yL at hm
    rcases ifS hm with ⟨hc, hm⟩ | ⟨hc, hm⟩
    ·refine .cT R hc ?_
     exact .reg (.op (O.faP yz Z R R) R (.op (O.ld nag23 Z R (.B R) R R) R (.op (O.lg (l' := [lI x22.1, lI x22.2.1, lI x22.2.2]) ag97 Z R (.B R) R R R) R (.op (O.bsF (r := qT) (zs := ([x22] : List (Int × Int × Int))) bs23 R R Z R R R (.c (.p .k (.p .k .k)) .n) R R R) R (bS hm fun x25 ex25 hm => .op (O.ap 8 Tryz.underlying23 el97 R R Z R R (.fr R) ex25 R) R (.op (O.faP yz Z R R) R (.op (O.st nag23.sz Z R R R R R) R (.nil (.blkN ((Jj21 _ hm).sub [(0, 1), (1, 2), (2, 3), (3, 8), (4, 5), (5, 6), (6, 7)] R))))))))))
    ·refine .cF R hc ?_
     exact .skip (.blkN ((Jj21 _ hm).sub [(0, 1), (1, 2), (2, 3), (3, 4), (4, 5), (5, 6), (6, 7)] R))
   ·intro Jj24
    refine .sub (τ := ⟨[(10, .q 7 0), (31, .i st16.1), (30, .i (r1.1.2.2.2.length : Int)), (29, .h 0), (8, .q 1 0), (6, .h 4), (4, .q 5 0), (2, .q 6 0), (1, .f qI p1)], [(7, .bx 97 [lI x22.1, lI x22.2.1, lI x22.2.2]), (0, ROW qT 97 r1.1.2.2.2), (1, .bx 25 [lF qI r1.1.1, lI r1.1.2.1, lH 2, lH 3]), (2, ROW qI 3 r1.1.2.2.1), (3, ROW qT 97 st16.2), (4, ROW (rL qI) 22 r1.2.1), (5, .bx 25 [lN, lI 0, lN, lN]), (6, .bx 27 [lF qI p0.1.1, lI p0.1.2.1, lF qI p0.1.2.2.1, lF qT p0.1.2.2.2, lF qI p0.2.1.1, lI p0.2.1.2.1, lF qI p0.2.1.2.2.1, lF qT p0.2.1.2.2.2, lF qI p0.2.2])], 8⟩) ?_ [] R
    refine bS hm fun r26 er26 hm => ?_
    rcases ifS hm with ⟨hc27, hm⟩ | ⟨hc27, hm⟩
    ·skip
     refine .drw [(8, []), (8, [oT]), (8, []), (8, [oF, oF, oT]), (8, [oT, oT, oT, oT]), (8, [oT, oT, oT, oT, oT]), (8, [oT, oT, oT, oT, oT, oT]), (8, [oT, oT, oT, oT, oT, oT]), (8, [oT, oT, oT, oT, oT, oT]), (8, [oT, oT, oT, oT, oT, oT, oF, oF, oT]), (8, [oT, oT, oT, oT, oT, oT, oF, oT, oT, oT]), (8, [oT, oT, oT, oT, oT, oT, oF, oT, oT, oT, oT]), (8, [oT, oT, oT, oT, oT, oT]), (8, [oT, oT, oT, oT, oT, oT, oT, oT, oT, oT, oT, oT, oT]), (8, [oT, oT, oT, oT, oT, oT]), (8, [oT, oT, oT, oT, oT, oT, oF, oF, oF, oF, oF, oF, oF, oF, oT]), (8, [oT, oT, oT, oT, oT, oT, oT, oT, oT, oT, oT, oT, oT, oT, oT, oT]), (8, [oT, oT, oT, oT, oT, oT, oT, oT, oT, oT, oT, oT, oT, oT, oT, oT, oT])] [_, _, _, _, _, _, _, _, _, _, _, _, _, _, _, _, _, _] ⟨[(52, .b true), (10, .q 7 0), (31, .i st16.1), (30, .i (r1.1.2.2.2.length : Int)), (29, .h 0), (8, .q 1 0), (6, .h 4), (4, .q 5 0), (2, .q 6 0), (1, .f qI p1)], [(7, .bx 97 [lI x22.1, lI x22.2.1, lI x22.2.2]), (0, ROW qT 97 r1.1.2.2.2), (1, .bx 25 [lF qI r1.1.1, lI r1.1.2.1, lH 2, lH 3]), (2, ROW qI 3 r1.1.2.2.1), (3, ROW qT 97 st16.2), (4, ROW (rL qI) 22 r1.2.1), (5, .bx 25 [lN, lI 0, lN, lN]), (6, .bx 27 [lF qI p0.1.1, lI p0.1.2.1, lF qI p0.1.2.2.1, lF qT p0.1.2.2.2, lF qI p0.2.1.1, lI p0.2.1.2.1, lF qI p0.2.1.2.2.1, lF qT p0.2.1.2.2.2, lF qI p0.2.2])], 8⟩ ⟨O.faP y8E Z R R, O.ld nag22 Z R (.B R) R R, O.faP y4D Z R R, O.ld nag3 Z R (.B R) R R, O.ca0 (y3N er26) cf45 R R Z R R R, O.kn (O.mv Z R R) hc27, O.skip R R R R, O.skip R R R R, O.skip R R R R, O.skip R R R R, O.skip R R R R, O.skip R R R R, O.skip R R R R, O.skip R R R R, O.skip R R R R, O.skip R R R R, O.skip R R R R, O.pkT Z R R R R, trivial⟩ (by kernel_rfl) R ?_
     exact (Jj24 _ hm).sub [(0, 7), (1, 0), (2, 1), (3, 2), (4, 3), (5, 4), (6, 5), (7, 6)] R
    ·skip
     refine bS hm fun x28 ex28 hm => bS hm fun r29 er29 hm => ?_
     refine .drw [(8, []), (8, [oT]), (8, []), (8, [oF, oF, oT]), (8, [oT, oT, oT, oT]), (8, [oT, oT, oT, oT, oT]), (8, [oT, oT, oT, oT, oT, oT]), (8, [oT, oT, oT, oT, oT, oT]), (8, [oT, oT, oT, oT, oT, oT]), (8, [oT, oT, oT, oT, oT, oT, oF, oF, oT]), (8, [oT, oT, oT, oT, oT, oT, oF, oT, oT, oT]), (8, [oT, oT, oT, oT, oT, oT, oF, oT, oT, oT, oT]), (8, [oT, oT, oT, oT, oT, oT]), (8, [oT, oT, oT, oT, oT, oT, oT, oT, oT, oT, oT, oT, oT]), (8, [oT, oT, oT, oT, oT, oT]), (8, [oT, oT, oT, oT, oT, oT, oF, oF, oF, oF, oF, oF, oF, oF, oT]), (8, [oT, oT, oT, oT, oT, oT, oT, oT, oT, oT, oT, oT, oT, oT, oT, oT]), (8, [oT, oT, oT, oT, oT, oT, oT, oT, oT, oT, oT, oT, oT, oT, oT, oT, oT])] [_, _, _, _, _, _, _, _, _, _, _, _, _, _, _, _, _, _] ⟨[(52, .b (r29 == x22.2.1)), (10, .q 7 0), (31, .i st16.1), (30, .i (r1.1.2.2.2.length : Int)), (29, .h 0), (8, .q 1 0), (6, .h 4), (4, .q 5 0), (2, .q 6 0), (1, .f qI p1)], [(7, .bx 97 [lI x22.1, lI x22.2.1, lI x22.2.2]), (0, ROW qT 97 r1.1.2.2.2), (1, .bx 25 [lF qI r1.1.1, lI r1.1.2.1, lH 2, lH 3]), (2, ROW qI 3 r1.1.2.2.1), (3, ROW qT 97 st16.2), (4, ROW (rL qI) 22 r1.2.1), (5, .bx 25 [lN, lI 0, lN, lN]), (6, .bx 27 [lF qI p0.1.1, lI p0.1.2.1, lF qI p0.1.2.2.1, lF qT p0.1.2.2.2, lF qI p0.2.1.1, lI p0.2.1.2.1, lF qI p0.2.1.2.2.1, lF qT p0.2.1.2.2.2, lF qI p0.2.2])], 8⟩ ⟨O.faP y8E Z R R, O.ld nag22 Z R (.B R) R R, O.faP y4D Z R R, O.ld nag3 Z R (.B R) R R, O.ca0 (y3N er26) cf45 R R Z R R R, O.kn (O.mv Z R R) hc27, O.lg (l' := [lF qI p0.1.1, lI p0.1.2.1, lF qI p0.1.2.2.1, lF qT p0.1.2.2.2, lF qI p0.2.1.1, lI p0.2.1.2.1, lF qI p0.2.1.2.2.1, lF qT p0.2.1.2.2.2, lF qI p0.2.2]) ag27 (Gu.mk R R) R (.B R) R R R, O.mv (Gu.mk R R) R R, O.faP y3C (Gu.mk R R) R R, O.ld nag3 (Gu.mk R R) R (.B R) R R, O.ir sl34 (Gu.mk R R) R R R ex28 R, O.ld nag22 (Gu.mk R R) R (.R R ex28 lv22) R R, O.mv (Gu.mk R R) R R, O.ca0 (y4W er29) cf49 R R (Gu.mk R R) R R R, O.faP y4D (Gu.mk R R) R R, O.ld nag3 (Gu.mk R R) R (.B R) R R, O.bi (Gu.mk R R) R R R R, O.pkF Z R R R R, trivial⟩ (by kernel_rfl) R ?_
     exact (Jj24 _ hm).sub [(0, 7), (1, 0), (2, 1), (3, 2), (4, 3), (5, 4), (6, 5), (7, 6)] R
 ·refine .cF R hc ?_
  exact .exit (.seqX (.seqX ((K18 _ (ho16 _ (oi hm).symm)).sub [(0, 1), (1, 2), (2, 3), (3, 5)] R)))
def y3q (p0 : AutT) (st21 : Int × List Int) : Option ((Int × List Int) ⊕ (List Int)) :=
 if decide (st21.1 < p0.2.1) then
  (idx st21.2 (W (st21.1 + 1))).bind fun x24 =>
  (idx st21.2 st21.1).bind fun x25 =>
  (idx st21.2 (W (st21.1 + 1))).bind fun x26 =>
  (upd st21.2 (W (st21.1 + 1)) (W (x24 + x25))).bind fun x27 =>
  some (.inl (W (st21.1 + 1), x27))
 else
  some (.inr st21.2)
def y3r (p0 : AutT) (st10 : Int × List Int) : Option ((Int × List Int) ⊕ (List Int)) :=
 if decide (st10.1 < (p0.2.2.2.length : Int)) then
  (idx p0.2.2.2 st10.1).bind fun x28 =>
  (idx st10.2 (W (x28.1 + 1))).bind fun x29 =>
  (idx st10.2 (W (x28.1 + 1))).bind fun x30 =>
  (upd st10.2 (W (x28.1 + 1)) (W (x29 + 1))).bind fun x31 =>
  some (.inl (W (st10.1 + 1), x31))
 else
  some (.inr st10.2)
def y4j (p0 : AutT) : Option (AutT × List Int) :=
 (mkL (W (p0.2.1 + 1)) (0 : Int)).bind fun x1 =>
 (iter (y3r p0) (0, x1)).bind fun o10 =>
 (iter (y3q p0) (0, o10)).bind fun o21 =>
 some (p0, o21)
theorem y8G {p0 : AutT} {r : (AutT × List Int)} (hm : y4j p0 = some r) :
  Fw Tryz.prog 98 ⟨0, []⟩ [.a [lF qI p0.1, lI p0.2.1, lF qI p0.2.2.1, lF qT p0.2.2.2]] [] (.g [lF qI r.1.1, lI r.1.2.1, lF qI r.1.2.2.1, lF qT r.1.2.2.2, lH 0]) [ROW qI 3 r.2] := by
 unfold y4j at hm
 refine Fw.mk' Tryz.func98 R Tryz.ntmps98 R R (fun C => ?_) R R
 refine .seq (.reg (.op (O.box 0 R Z R R R) R (.op (O.al 1 R zz165 R Z R) R (.nil (.seqN (.seq ?_))))))
 refine .sub (τ := ⟨[(2, .q 1 0), (1, .q 0 0)], [(1, .bx 165 [lN, lI 0, lN, lN, lN]), (0, .bx 25 [lF qI p0.1, lI p0.2.1, lF qI p0.2.2.1, lF qT p0.2.2.2])], 2⟩) ?_ [] R
 refine bS hm fun x1 ex1 hm => ?_
 refine .draw [[], [], [1], [1, 2], [1, 2, 3], [0, 1, 2, 3, 4], [], [0, 1, 2, 3, 4, 5, 6]] [_, _, _, _, _, _, _, _] ⟨[(3, .q 3 0), (2, .q 1 0), (1, .q 0 0)], [(3, .bx 165 [lF qI p0.1, lI p0.2.1, lF qI p0.2.2.1, lF qT p0.2.2.2, lH 2]), (2, ROW qI 3 x1), (1, .bx 165 [lN, lI 0, lN, lN, lN]), (0, .bx 25 [lF qI p0.1, lI p0.2.1, lF qI p0.2.2.1, lF qT p0.2.2.2])], 4⟩ ⟨O.lg (l' := [lF qI p0.1, lI p0.2.1, lF qI p0.2.2.1, lF qT p0.2.2.2]) ag25 Z R (.B R) R R R, O.faP yW Z R R, O.ld nag3 Z R (.B R) R R, O.bi Z R R R R, O.mk (z := (0 : Int)) 2 Tryz.underlying22 zr3 R R Z R R ex1 R, O.bu (l := [lF qI p0.1, lI p0.2.1, lF qI p0.2.2.1, lF qT p0.2.2.2, lH 2]) pl165 R Z R R R, O.al 3 R zz165 R Z R, O.st ag165.sz Z R R R R R, trivial⟩ (by kernel_rfl) R ?_
 refine .seqN (.seq (.seq (.reg (.op (O.faP yz Z R R) R (.op (O.ld nag23 Z R (.B R) R R) R (.op (O.len sl23 Z R R) R (.mv R (.nil (.seqN (.block (bS hm fun o10 eo10 hm => ?_)))))))))))
 refine .cut1 (z := .exit 0) o10 (fun (o10 : List Int) => ⟨[(3, .q 0 0), (2, .q 2 0), (1, .q 3 0)], [(0, .bx 165 [lF qI p0.1, lI p0.2.1, lF qI p0.2.2.1, lF qT p0.2.2.2, lH 1]), (1, ROW qI 3 o10), (2, .bx 165 [lN, lI 0, lN, lN, lN]), (3, .bx 25 [lF qI p0.1, lI p0.2.1, lF qI p0.2.2.1, lF qT p0.2.2.2])], 4⟩) ?_ fun K12 => ?_
 ·skip
  refine .blkE (.seqN (.seq (.seq (.reg (.op (O.faP yW Z R R) R (.op (O.ld nag3 Z R (.B R) R R) R (.mv R (.nil (.seqN (.block (bS hm fun o21 eo21 hm => ?_)))))))))))
  refine .cut1 (z := .exit 2) o21 (fun (o21 : List Int) => ⟨[(3, .q 0 0), (2, .q 2 0)], [(0, .bx 165 [lF qI p0.1, lI p0.2.1, lF qI p0.2.2.1, lF qT p0.2.2.2, lH 1]), (1, ROW qI 3 o21), (2, .bx 165 [lN, lI 0, lN, lN, lN])], 3⟩) ?_ fun K23 => ?_
  ·skip
   refine .blkE (.seqN (.seq (.reg (.op (O.lg (l' := [lF qI p0.1, lI p0.2.1, lF qI p0.2.2.1, lF qT p0.2.2.2, lH 1]) ag165 Z R (.B R) R R R) R (.op (O.st ag165.sz Z R R R R R) R (.nil (.seqN (.ret ?_))))))))
   obtain rfl := oi hm
   exact WX.rt [1] (.inl R) Tryz.results98 (.cell R R ag165 R .nil) R (fun _ _ _ h => h) ⟨⟨_, R, fun _ _ _ _ h => h⟩, trivial⟩
  refine .iter (fun (st21 : Int × List Int) => ⟨[(32, .i st21.1), (31, .i p0.2.1), (3, .q 0 0), (2, .q 2 0)], [(0, .bx 165 [lF qI p0.1, lI p0.2.1, lF qI p0.2.2.1, lF qT p0.2.2.2, lH 1]), (1, ROW qI 3 st21.2), (2, .bx 165 [lN, lI 0, lN, lN, lN])], 3⟩) eo21 [] R ?_
  intro st21 res21 hm ih21 ho21
  unfold y3q at hm
  refine .seq (.reg (.bi R (.nil (.seqN (.seq ?_)))))
  rcases ifS hm with ⟨hc, hm⟩ | ⟨hc, hm⟩
  ·refine .cT R hc ?_
   refine .skip (.seqN (.seq (.block (.seq (.reg (.mv R (.sa R (.nil (.seqN ?_)))))))))
   refine .sub (τ := ⟨[(6, .i st21.1), (32, .i st21.1), (31, .i p0.2.1), (3, .q 0 0), (2, .q 2 0)], [(0, .bx 165 [lF qI p0.1, lI p0.2.1, lF qI p0.2.2.1, lF qT p0.2.2.2, lH 1]), (1, ROW qI 3 st21.2), (2, .bx 165 [lN, lI 0, lN, lN, lN])], 3⟩) ?_ [] R
   refine bS hm fun x24 ex24 hm => bS hm fun x25 ex25 hm => bS hm fun x26 ex26 hm => bS hm fun x27 ex27 hm => ?_
   refine .drg 3 [(3, []), (3, [oT]), (3, []), (3, [oF, oF, oT]), (3, [oT, oT, oT, oT]), (3, [oT, oT, oT, oT, oT]), (3, []), (3, [oF, oF, oF, oF, oF, oF, oT]), (3, []), (3, [oF, oF, oF, oF, oF, oF, oT, oT, oT]), (3, [oF, oF, oF, oF, oF, oF, oT, oT, oT, oT]), (3, [oT, oT, oT, oT, oT, oT, oT, oT, oT, oT, oT]), (3, [oT, oT, oT, oT, oT, oT, oT, oT, oT, oT, oT, oT]), (3, [oT, oT, oT, oT, oT, oT, oT, oT, oT, oT, oT, oT, oT])] [_, _, _, _, _, _, _, _, _, _, _, _, _, _] ⟨[(32, .i st21.1), (31, .i p0.2.1), (3, .q 0 0), (2, .q 2 0)], [(0, .bx 165 [lF qI p0.1, lI p0.2.1, lF qI p0.2.2.1, lF qT p0.2.2.2, lH 1]), (1, ROW qI 3 x27), (2, .bx 165 [lN, lI 0, lN, lN, lN])], 3⟩ ⟨O.faP ya0 Z R R, O.ld nag22 Z R (.B R) R R, O.mv Z R R, O.bi Z R R R R, O.ir sl22 Z R R R ex24 R, O.ld nag3 Z R (.R R ex24 lv3) R R, O.faP ya0 Z R R, O.ld nag22 Z R (.B R) R R, O.mv Z R R, O.ir sl22 Z R R R ex25 R, O.ld nag3 Z R (.R R ex25 lv3) R R, O.bi Z R R R R, O.ir sl22 Z R R R ex26 R, O.su (z := W (x24 + x25)) nag3.sz Z R R ex26 ex27 R R R lv3 R .k, trivial⟩ (by kernel_rfl) R ?_
   exact .blkN (.seqN (.reg (.bi R (.mv R (.nil ((ih21 _ (oi hm).symm).sub [] R))))))
  ·refine .cF R hc ?_
   exact .exit (.seqX (.seqX ((K23 _ (ho21 _ (oi hm).symm)).sub [] R)))
 refine .iter (fun (st10 : Int × List Int) => ⟨[(16, .i st10.1), (15, .i (p0.2.2.2.length : Int)), (14, .f qT p0.2.2.2), (3, .q 0 0), (2, .q 2 0), (1, .q 3 0)], [(0, .bx 165 [lF qI p0.1, lI p0.2.1, lF qI p0.2.2.1, lF qT p0.2.2.2, lH 1]), (1, ROW qI 3 st10.2), (2, .bx 165 [lN, lI 0, lN, lN, lN]), (3, .bx 25 [lF qI p0.1, lI p0.2.1, lF qI p0.2.2.1, lF qT p0.2.2.2])], 4⟩) eo10 [(0, 3), (1, 2), (2, 1), (3, 0)] R ?_
 intro st10 res10 hm ih10 ho10
 unfold y3r at hm
 refine .seq (.reg (.bi R (.nil (.seqN (.seq ?_)))))
 rcases ifS hm with ⟨hc, hm⟩ | ⟨hc, hm⟩
 ·refine .cT R hc ?_
  exact .skip (.seqN (.seq (.block (.seq (.reg (bS hm fun x28 ex28 hm => .op (O.ix sl23 Z R R ex28 R) R (.op (O.lg (l' := [lI x28.1, lI x28.2.1, lI x28.2.2]) ag97 Z R (.E lv97) R R R) R (.op (O.al 4 R zz97 R Z R) R (.op (O.st ag97.sz Z R R R R R) R (.nil (.seqN (.reg (.op (O.faP ya0 Z R R) R (.op (O.ld nag22 Z R (.B R) R R) R (.op (O.faP y3C Z R R) R (.op (O.ld nag3 Z R (.B R) R R) R (.bi R (bS hm fun x29 ex29 hm => .op (O.ir sl22 Z R R R ex29 R) R (.op (O.ld nag3 Z R (.R R ex29 lv3) R R) R (.bi R (bS hm fun x30 ex30 hm => .op (O.ir sl22 Z R R R ex30 R) R (bS hm fun x31 ex31 hm => .op (O.su (z := W (x29 + 1)) nag3.sz Z R R ex30 ex31 R R R lv3 R .k) R (.nil (.blkN (.seqN (.reg (.bi R (.mv R (.nil ((ih10 _ (oi hm).symm).sub [] R))))))))))))))))))))))))))))))
 ·refine .cF R hc ?_
  exact .exit (.seqX (.seqX ((K12 _ (ho10 _ (oi hm).symm)).sub [] R)))
def y1S (st12 : Int × List Int) (l15 : List Int) : Option ((Int × List Int) ⊕ (List Int)) :=
 some (.inl (W (st12.1 + 1), l15))
def y1T (r3 : List Int) (st12 : Int × List Int) : Option ((Int × List Int) ⊕ (List Int)) :=
 if decide (st12.1 < (r3.length : Int)) then
  (idx r3 st12.1).bind fun x17 =>
  if decide (x17 ≥ 0) then
   (app st12.2 ([st12.1] : List Int)).bind fun x18 =>
   y1S st12 x18
  else
   y1S st12 st12.2
 else
  some (.inr st12.2)
def y3s (p0 : AutT) : Option (List Int × Int) :=
 (yH p0).bind fun r1 =>
 if (r1 != 0) then
  some (([] : List Int), r1)
 else
  (y4j p0).bind fun r2 =>
  (y1P r2 p0.2.2.1).bind fun r3 =>
  (iter (y1T r3) (0, ([] : List Int))).bind fun o12 =>
  some (o12, 0)
theorem y7J {p0 : AutT} {r : List Int × Int} (hm : y3s p0 = some r) :
  Fw Tryz.prog 95 ⟨0, []⟩ [.a [lF qI p0.1, lI p0.2.1, lF qI p0.2.2.1, lF qT p0.2.2.2]] [] (.tp [.h 0, .i r.2]) [ROW qI 3 r.1] := by
 unfold y3s at hm
 refine Fw.mk' Tryz.func95 R Tryz.ntmps95 R R (fun C => ?_) R R
 refine .seq (.reg (.op (O.box 0 R Z R R R) R (.sa R (.sa R (.nil (.seqN (.seq (.seq (.reg (.op (O.lg (l' := [lF qI p0.1, lI p0.2.1, lF qI p0.2.2.1, lF qT p0.2.2.2]) ag25 Z R (.B R) R R R) R (bS hm fun r1 er1 hm => .op (O.ca0 (y2F er1) cf51 R R Z R R R) R (.sa R (.nil (.seqN (.seq (.reg (.mv R (.bi R (.nil (.seqN ?_))))))))))))))))))))
 rcases ifS hm with ⟨hc, hm⟩ | ⟨hc, hm⟩
 ·refine .cT R hc ?_
  refine .seq (.reg (.mv R (.sa R (.sa R (.nil (.seqN (.ret (.seqR (.nlg qI 3 2 0 R R ?_)))))))))
  obtain rfl := oi hm
  exact WX.rt [1] (.inl R) Tryz.results95 (.tmp R (.tmp R .nil)) R (fun _ _ _ h => h) ⟨⟨_, R, fun _ _ _ _ h => h⟩, trivial⟩
 ·refine .cF R hc ?_
  refine .skip (.seqN (.seq (.reg (.sa R (.nil (.seqN (.seq (.seq ?_))))))))
  refine .sub (τ := ⟨[(5, .o (lN)), (1, .q 0 0)], [(0, .bx 25 [lF qI p0.1, lI p0.2.1, lF qI p0.2.2.1, lF qT p0.2.2.2])], 1⟩) ?_ [] R
  refine bS hm fun r2 er2 hm => bS hm fun r3 er3 hm => ?_
  refine .drw [(1, []), (1, [oT]), (1, []), (1, [oF, oF, oT]), (1, [oT, oT, oT, oT]), (1, [oT, oT, oT, oT, oT]), (1, [])] [_, _, _, _, _, _, _] ⟨[(19, .i 0), (18, .i (r3.length : Int)), (17, .f qI r3), (5, .o (lN))], [], 1⟩ ⟨O.lg (l' := [lF qI p0.1, lI p0.2.1, lF qI p0.2.2.1, lF qT p0.2.2.2]) ag25 Z R (.B R) R R R, O.ca0 (r := .g [lF qI r2.1.1, lI r2.1.2.1, lF qI r2.1.2.2.1, lF qT r2.1.2.2.2, lF qI r2.2]) (Fw.fz (y8G er2)) cf98 R R Z R R R, O.faP y2N Z R R, O.ld nag22 Z R (.B R) R R, O.ca0 (y6G er3) cf142 R R Z R R R, O.len sl22 Z R R, O.mv Z R R, trivial⟩ (by kernel_rfl) R ?_
  refine .seqN (.block (bS hm fun o12 eo12 hm => ?_))
  refine .cut1 (z := .exit 0) o12 (fun (o12 : List Int) => ⟨[(5, .h 0)], [(0, ROW qI 3 o12)], 1⟩) ?_ fun K14 => ?_
  ·skip
   refine .blkE (.seqN (.seq (.reg (.mv R (.sa R (.sa R (.nil (.seqN (.ret ?_)))))))))
   obtain rfl := oi hm
   exact WX.rt [0] (.inl R) Tryz.results95 (.tmp R (.tmp R .nil)) R (fun _ _ _ h => h) ⟨⟨_, R, fun _ _ _ _ h => h⟩, trivial⟩
  refine .nlg qI 3 5 0 R R (.iter (fun (st12 : Int × List Int) => ⟨[(19, .i st12.1), (18, .i (r3.length : Int)), (17, .f qI r3), (5, .h 0)], [(0, ROW qI 3 st12.2)], 1⟩) eo12 [(0, 1)] R ?_)
  intro st12 res12 hm ih12 ho12
  unfold y1T at hm
  refine .seq (.reg (.bi R (.nil (.seqN (.seq ?_)))))
  rcases ifS hm with ⟨hc, hm⟩ | ⟨hc, hm⟩
  ·refine .cT R hc ?_
   refine .skip (.seqN ?_)
   refine .join1 (fun (l15 : List Int) => y1S st12 l15 = some res12) (fun l15 => ⟨[(5, .h 0), (19, .i st12.1), (18, .i (r3.length : Int)), (17, .f qI r3)], [(0, ROW qI 3 l15)], 1⟩) ?_ ?_
   ·intro l15 hm
    unfold y1S at hm
    exact .reg (.bi R (.mv R (.nil ((ih12 _ (oi hm).symm).sub [] R))))
   ·intro Jj16
    refine .block (.seq (.reg (.mv R (bS hm fun x17 ex17 hm => .op (O.ix sl22 Z R R ex17 R) R (.op (O.ld nag3 Z R (.E lv3) R R) R (.sa R (.sa R (.nil (.seqN (.seq (.reg (.mv R (.bi R (.nil (.seqN ?_)))))))))))))))
    rcases ifS hm with ⟨hc, hm⟩ | ⟨hc, hm⟩
    ·refine .cT R hc ?_
     exact .reg (.mv R (.mv R (.op (O.bsF (r := qI) (zs := ([st12.1] : List Int)) bs22 R R Z R R R (.c .k .n) R R R) R (bS hm fun x18 ex18 hm => .op (O.ap 1 Tryz.underlying22 el3 R R Z R R (.fr R) ex18 R) R (.sa R (.nil (.blkN ((Jj16 _ hm).sub [(0, 1)] R))))))))
    ·refine .cF R hc ?_
     exact .skip (.blkN ((Jj16 _ hm).sub [] R))
  ·refine .cF R hc ?_
   exact .exit (.seqX (.seqX ((K14 _ (ho12 _ (oi hm).symm)).sub [] R)))
def yX (st10 : Int × List Int) (l13 : List Int) : Option ((Int × List Int) ⊕ (List Int)) :=
 some (.inl (W (st10.1 + 1), l13))
def y1O (p0 : AutT) (r1 : List Int × Int) (st10 : Int × List Int) : Option ((Int × List Int) ⊕ (List Int)) :=
 if decide (st10.1 < p0.2.1) then
  (y1W r1.1 st10.1).bind fun r15 =>
  if (!r15) then
   (app st10.2 ([st10.1] : List Int)).bind fun x16 =>
   yX st10 x16
  else
   yX st10 st10.2
 else
  some (.inr st10.2)
def y2A (p0 : AutT) : Option (List Int) :=
 (y3s p0).bind fun r1 =>
 (iter (y1O p0 r1) (0, ([] : List Int))).bind fun o10 =>
 some o10
theorem y6t {p0 : AutT} {r : List Int} (hm : y2A p0 = some r) :
  Fw Tryz.prog 46 ⟨0, []⟩ [.a [lF qI p0.1, lI p0.2.1, lF qI p0.2.2.1, lF qT p0.2.2.2]] [] (.h 0) [ROW qI 3 r] := by
 unfold y2A at hm
 refine Fw.mk' Tryz.func46 R Tryz.ntmps46 R R (fun C => ?_) R R
 refine .seq (.reg (.op (O.box 0 R Z R R R) R (.sa R (.nil (.seqN (.seq (.reg (.op (O.lg (l' := [lF qI p0.1, lI p0.2.1, lF qI p0.2.2.1, lF qT p0.2.2.2]) ag25 Z R (.B R) R R R) R (bS hm fun r1 er1 hm => .op (O.ca (r' := .tp [.h 1, .i r1.2]) [1] [(0, ROW qI 3 r1.1)] (some 2) (y7J er1) cf95 R R Z R R R R ⟨⟨_, R, fun _ _ _ _ h => h⟩, trivial⟩ (fun _ _ _ h => h) R) R (.mv R (.op (O.ex Z R R R) R (.op (O.ex Z R R R) R (.sa R (.sa R (.nil (.seqN (.seq (.reg (.sa R (.nil (.seqN (.seq (.seq (.reg (.sa R (.nil (.seqN (.block (bS hm fun o10 eo10 hm => ?_)))))))))))))))))))))))))))))
 refine .cut1 (z := .exit 0) o10 (fun (o10 : List Int) => ⟨[(5, .h 0)], [(0, ROW qI 3 o10)], 1⟩) ?_ fun K12 => ?_
 ·skip
  refine .blkE (.seqN (.seq (.reg (.mv R (.sa R (.nil (.seqN (.ret ?_))))))))
  obtain rfl := oi hm
  exact WX.rt [0] (.inl R) Tryz.results46 (.tmp R .nil) R (fun _ _ _ h => h) ⟨⟨_, R, fun _ _ _ _ h => h⟩, trivial⟩
 refine .nlg qI 3 5 0 R R (.iter (fun (st10 : Int × List Int) => ⟨[(6, .i st10.1), (5, .h 0), (3, .h 1), (1, .q 2 0)], [(0, ROW qI 3 st10.2), (1, ROW qI 3 r1.1), (2, .bx 25 [lF qI p0.1, lI p0.2.1, lF qI p0.2.2.1, lF qT p0.2.2.2])], 3⟩) eo10 [(0, 2), (2, 0)] R ?_)
 intro st10 res10 hm ih10 ho10
 unfold y1O at hm
 refine .seq (.seq (.reg (.mv R (.op (O.faP yW Z R R) R (.op (O.ld nag3 Z R (.B R) R R) R (.bi R (.nil (.seqN ?_))))))))
 rcases ifS hm with ⟨hc, hm⟩ | ⟨hc, hm⟩
 ·refine .cT R hc ?_
  refine .skip (.seqN ?_)
  refine .join1 (fun (l13 : List Int) => yX st10 l13 = some res10) (fun l13 => ⟨[(5, .h 0), (6, .i st10.1), (3, .h 1), (1, .q 2 0)], [(0, ROW qI 3 l13), (1, ROW qI 3 r1.1), (2, .bx 25 [lF qI p0.1, lI p0.2.1, lF qI p0.2.2.1, lF qT p0.2.2.2])], 3⟩) ?_ ?_
  ·intro l13 hm
   unfold yX at hm
   exact .reg (.mv R (.bi R (.sa R (.nil ((ih10 _ (oi hm).symm).sub [] R)))))
  ·intro Jj14
   refine .block (.seq (.reg (.mv R (.mv R (bS hm fun r15 er15 hm => .op (O.caZ (y3N er15) cf45 R R Z R ⟨⟨R, .hr R, trivial⟩, ⟨R, LnL.rf⟩, trivial⟩ (fun _ _ _ _ _ h => h) R) R (.op (O.not Z R R) R (.nil (.seqN ?_))))))))
   rcases ifS hm with ⟨hc, hm⟩ | ⟨hc, hm⟩
   ·refine .cT R hc ?_
    exact .reg (.mv R (.mv R (.op (O.bsF (r := qI) (zs := ([st10.1] : List Int)) bs22 R R Z R R R (.c .k .n) R R R) R (bS hm fun x16 ex16 hm => .op (O.ap 3 Tryz.underlying22 el3 R R Z R R (.fr R) ex16 R) R (.sa R (.nil (.blkN ((Jj14 _ hm).sub [(0, 3)] R))))))))
   ·refine .cF R hc ?_
    exact .skip (.blkN ((Jj14 _ hm).sub [] R))
 ·refine .cF R hc ?_
  exact .exit (.seqX (.seqX ((K12 _ (ho10 _ (oi hm).symm)).sub [] R)))
def y1U (p0 : List (Int × Int × Int)) (p1 : List (Int × Int × Int)) (st5 : Int) : Option (Int ⊕ (Unit ⊕ Unit)) :=
 if decide (st5 < (p0.length : Int)) then
  (idx p0 st5).bind fun x10 =>
  (idx p1 st5).bind fun x11 =>
  if (!(x10.1 == x11.1 && (x10.2.1 == x11.2.1 && (x10.2.2 == x11.2.2 && true)))) then
   some (.inr (.inr (())))
  else
   some (.inl (W (st5 + 1)))
 else
  some (.inr (.inl ()))
def y3t (p0 : List (Int × Int × Int)) (p1 : List (Int × Int × Int)) : Option Bool :=
 if ((p0.length : Int) != (p1.length : Int)) then
  some false
 else
  (iter (y1U p0 p1) 0).bind fun o5 =>
  match o5 with
  | .inl u6 =>
   some true
  | .inr (u8) =>
   some false
theorem y7K {p0 : List (Int × Int × Int)} {p1 : List (Int × Int × Int)} {r : Bool} (hm : y3t p0 p1 = some r) :
  Fw Tryz.prog 75 ⟨0, []⟩ [.f qT p0, .f qT p1] [] (.b r) [] := by
 unfold y3t at hm
 refine Fw.mk' Tryz.func75 R Tryz.ntmps75 R R (fun C => ?_) R R
 refine .seq (.reg (.sa R (.nil (.seqN (.seq (.seq (.reg (.mv R (.op (O.len sl23 Z R R) R (.mv R (.op (O.len sl23 Z R R) R (.bi R (.nil (.seqN ?_))))))))))))))
 rcases ifS hm with ⟨hc, hm⟩ | ⟨hc, hm⟩
 ·refine .cT R hc ?_
  refine .seq (.reg (.sa R (.nil (.seqN (.ret (.seqR ?_))))))
  obtain rfl := oi hm
  exact WX.rt [] (.inl R) Tryz.results75 (.tmp R .nil) R (fun _ _ _ h => h) trivial
 ·refine .cF R hc ?_
  refine .skip (.seqN (.seq (.seq (.reg (.mv R (.op (O.len sl23 Z R R) R (.mv R (.nil (.seqN (.block (bS hm fun o5 eo5 hm => ?_)))))))))))
  refine .cutU (z := .exit 0) (fun u6 => .inl u6 = o5) (fun (u6 : Unit) => ⟨[], [], 0⟩) ?_ fun K7 => ?_
  ·rintro u6 rfl
   dsimp only at hm
   refine .blkE (.seqN (.seq (.reg (.sa R (.nil (.seqN (.ret ?_)))))))
   obtain rfl := oi hm
   exact WX.rt [] (.inl R) Tryz.results75 (.tmp R .nil) R (fun _ _ _ h => h) trivial
  refine .cutU (z := .ret) (fun u8 => .inr (u8) = o5) (fun (u8 : Unit) => ⟨[(4, .b false)], [], 0⟩) ?_ fun K9 => ?_
  ·rintro u8 rfl
   dsimp only at hm
   refine .blkR (.seqR ?_)
   obtain rfl := oi hm
   exact WX.rt [] (.inl R) Tryz.results75 (.tmp R .nil) R (fun _ _ _ h => h) trivial
  refine .iter (fun (st5 : Int) => ⟨[(13, .i st5), (12, .i (p0.length : Int)), (0, .f qT p0), (1, .f qT p1)], [], 0⟩) eo5 [] R ?_
  intro st5 res5 hm ih5 ho5
  unfold y1U at hm
  refine .seq (.reg (.bi R (.nil (.seqN (.seq ?_)))))
  rcases ifS hm with ⟨hc, hm⟩ | ⟨hc, hm⟩
  ·refine .cT R hc ?_
   refine .skip (.seqN (.seq (.block (.seq (.reg (.mv R (.sa R (.nil (.seqN (.seq ?_))))))))))
   refine .sub (τ := ⟨[(5, .i st5), (13, .i st5), (12, .i (p0.length : Int)), (0, .f qT p0), (1, .f qT p1)], [], 0⟩) ?_ [] R
   refine bS hm fun x10 ex10 hm => bS hm fun x11 ex11 hm => ?_
   refine .drw [(0, []), (0, []), (0, [oT, oT]), (0, [oT, oT, oT]), (0, []), (0, []), (0, [oF, oF, oF, oF, oT, oT]), (0, [oF, oF, oF, oF, oT, oT, oT]), (0, [oT, oT, oT, oT, oT, oT, oT, oT])] [_, _, _, _, _, _, _, _, _] ⟨[(24, .b (!(x10.1 == x11.1 && (x10.2.1 == x11.2.1 && (x10.2.2 == x11.2.2 && true))))), (13, .i st5), (12, .i (p0.length : Int)), (0, .f qT p0), (1, .f qT p1)], [], 0⟩ ⟨O.mv Z R R, O.mv Z R R, O.ix sl23 Z R R ex10 R, O.lg (l' := [lI x10.1, lI x10.2.1, lI x10.2.2]) ag97 Z R (.E lv97) R R R, O.mv Z R R, O.mv Z R R, O.ix sl23 Z R R ex11 R, O.lg (l' := [lI x11.1, lI x11.2.1, lI x11.2.2]) ag97 Z R (.E lv97) R R R, O.nes (us := [.int .i64 x10.1, .int .i64 x10.2.1, .int .i64 x10.2.2]) (vs := [.int .i64 x11.1, .int .i64 x11.2.1, .int .i64 x11.2.2]) (b := (x10.1 == x11.1 && (x10.2.1 == x11.2.1 && (x10.2.2 == x11.2.2 && true)))) (Eqs.mk Tryz.underlying97 (by kernel_rfl) fun w => (y6z rfl nag3.agg nag3.sz rfl rfl (run_equalIn_int _ _ _ _ _ _ _ Tryz.underlying3) (y6z rfl nag3.agg nag3.sz rfl rfl (run_equalIn_int _ _ _ _ _ _ _ Tryz.underlying3) (y6z rfl nag3.agg nag3.sz rfl rfl (run_equalIn_int _ _ _ _ _ _ _ Tryz.underlying3) rfl)))) (by kernel_rfl) Z R R R R, trivial⟩ (by kernel_rfl) R ?_
   refine .seqN ?_
   rcases ifS hm with ⟨hc, hm⟩ | ⟨hc, hm⟩
   ·refine .cT R hc ?_
    exact .seq (.reg (.sa R (.nil (.seqN (.ret (.blkR (.seqR (.seqR ((K9 _ (ho5 _ (oi hm).symm)).sub [] R)))))))))
   ·refine .cF R hc ?_
    exact .skip (.blkN (.seqN (.reg (.bi R (.mv R (.nil ((ih5 _ (oi hm).symm).sub [] R)))))))
  ·refine .cF R hc ?_
   exact .exit (.seqX (.seqX ((K7 _ (ho5 _ (oi hm).symm)).sub [] R)))
def y3Y (p0 : AutT) (p1 : AutT) : Option Bool :=
 (if (p0.2.1 == p1.2.1) then
  (y2k p0.1 p1.1).bind fun r12 =>
  some r12
 else
  some false).bind fun b1 =>
 (if b1 then
  (y2k p0.2.2.1 p1.2.2.1).bind fun r11 =>
  some r11
 else
  some false).bind fun b4 =>
 (if b4 then
  (y3t p0.2.2.2 p1.2.2.2).bind fun r10 =>
  some r10
 else
  some false).bind fun b7 =>
 some b7
theorem y8t {p0 : AutT} {p1 : AutT} {r : Bool} (hm : y3Y p0 p1 = some r) :
  Fw Tryz.prog 28 ⟨0, []⟩ [.a [lF qI p0.1, lI p0.2.1, lF qI p0.2.2.1, lF qT p0.2.2.2], .a [lF qI p1.1, lI p1.2.1, lF qI p1.2.2.1, lF qT p1.2.2.2]] [] (.b r) [] := by
 unfold y3Y at hm
 refine Fw.mk' Tryz.func28 R Tryz.ntmps28 R R (fun C => ?_) R R
 refine .seq (.reg (.op (O.box 0 R Z R R R) R (.op (O.box 1 R Z R R R) R (.sa R (.nil (.seqN (.seq (.reg (.op (O.faP yW Z R R) R (.op (O.ld nag3 Z R (.B R) R R) R (.op (O.faP yW Z R R) R (.op (O.ld nag3 Z R (.B R) R R) R (.bi R (.mv R (bS hm fun b1 eb1 hm => ?_)))))))))))))))
 refine .cut 6 (fun (v2 : Bool) => b1 = v2) (fun v2 => ⟨[(16, .b v2), (3, .q 1 0), (2, .q 0 0)], [(1, .bx 25 [lF qI p1.1, lI p1.2.1, lF qI p1.2.2.1, lF qT p1.2.2.2]), (0, .bx 25 [lF qI p0.1, lI p0.2.1, lF qI p0.2.2.1, lF qT p0.2.2.2])], 2⟩) ?_ ?_
 ·rintro _ rfl
  refine .mv R (bS hm fun b4 eb4 hm => ?_)
  refine .cut 6 (fun (v5 : Bool) => b4 = v5) (fun v5 => ⟨[(23, .b v5), (3, .q 1 0), (2, .q 0 0)], [(1, .bx 25 [lF qI p1.1, lI p1.2.1, lF qI p1.2.2.1, lF qT p1.2.2.2]), (0, .bx 25 [lF qI p0.1, lI p0.2.1, lF qI p0.2.2.1, lF qT p0.2.2.2])], 2⟩) ?_ ?_
  ·rintro _ rfl
   refine .mv R (bS hm fun b7 eb7 hm => ?_)
   refine .cut 6 (fun (v8 : Bool) => b7 = v8) (fun v8 => ⟨[(30, .b v8)], [], 2⟩) ?_ ?_
   ·rintro _ rfl
    refine .sa R (.nil (.seqN (.ret ?_)))
    obtain rfl := oi hm
    exact WX.rt [] (.inl R) Tryz.results28 (.tmp R .nil) R (fun _ _ _ h => h) trivial
   ·intro J9
    rcases ifS eb7 with ⟨hc, hm⟩ | ⟨hc, hm⟩
    ·refine .know (d := 24) R hc ?_
     exact .op (O.faP yz (Gu.mk R R) R R) R (.op (O.ld nag23 (Gu.mk R R) R (.B R) R R) R (.op (O.faP yz (Gu.mk R R) R R) R (.op (O.ld nag23 (Gu.mk R R) R (.B R) R R) R (bS hm fun r10 er10 hm => .op (O.ca0 (y7K er10) cf75 R R (Gu.mk R R) R R R) R (.op (O.pkT Z R R R R) R ((J9 r10 (oi hm).symm).sub [] R))))))
    ·refine .know (d := 24) R hc ?_
     exact .sk R (.sk R (.sk R (.sk R (.sk R (.op (O.pkF Z R R R R) R ((J9 false (oi hm).symm).sub [] R))))))
  ·intro J6
   rcases ifS eb4 with ⟨hc, hm⟩ | ⟨hc, hm⟩
   ·refine .know (d := 17) R hc ?_
    exact .op (O.faP y2N (Gu.mk R R) R R) R (.op (O.ld nag22 (Gu.mk R R) R (.B R) R R) R (.op (O.faP y2N (Gu.mk R R) R R) R (.op (O.ld nag22 (Gu.mk R R) R (.B R) R R) R (bS hm fun r11 er11 hm => .op (O.ca0 (y4J er11) cf74 R R (Gu.mk R R) R R R) R (.op (O.pkT Z R R R R) R ((J6 r11 (oi hm).symm).sub [] R))))))
   ·refine .know (d := 17) R hc ?_
    exact .sk R (.sk R (.sk R (.sk R (.sk R (.op (O.pkF Z R R R R) R ((J6 false (oi hm).symm).sub [] R))))))
 ·intro J3
  rcases ifS eb1 with ⟨hc, hm⟩ | ⟨hc, hm⟩
  ·refine .know (d := 10) R hc ?_
   exact .op (O.faP y1D (Gu.mk R R) R R) R (.op (O.ld nag22 (Gu.mk R R) R (.B R) R R) R (.op (O.faP y1D (Gu.mk R R) R R) R (.op (O.ld nag22 (Gu.mk R R) R (.B R) R R) R (bS hm fun r12 er12 hm => .op (O.ca0 (y4J er12) cf74 R R (Gu.mk R R) R R R) R (.op (O.pkT Z R R R R) R ((J3 r12 (oi hm).symm).sub [] R))))))
  ·refine .know (d := 10) R hc ?_
   exact .sk R (.sk R (.sk R (.sk R (.sk R (.op (O.pkF Z R R R R) R ((J3 false (oi hm).symm).sub [] R))))))
def y3G (q0 : Int) (p0 : Int × Int × Int) : Option Bool :=
 some (p0.2.1 == q0)
theorem y8b {q0 : Int} {p0 : Int × Int × Int} {r : Bool} (hm : y3G q0 p0 = some r) :
  Fw Tryz.prog 163 ⟨0, []⟩ [.a [lI p0.1, lI p0.2.1, lI p0.2.2], .o (lQ 3 [lI q0] 0)] [] (.b r) [] := by
 unfold y3G at hm
 refine Fw.mk' Tryz.func163 R Tryz.ntmps163 R R (fun C => ?_) R R
 refine .seq (.reg (.op (O.box 0 R Z R R R) R (.sa R (.nil (.seqN (.seq (.reg (.op (O.faP y4D Z R R) R (.op (O.ld nag3 Z R (.B R) R R) R (.op (O.ld nag3 Z R .Q R R) R (.bi R (.sa R (.nil (.seqN (.ret ?_)))))))))))))))
 obtain rfl := oi hm
 exact WX.rt [] (.inl R) Tryz.results163 (.tmp R .nil) R (fun _ _ _ h => h) trivial
def y4k (p0 : AutT) (p1 : Int) (p2 : Int) : Option Int :=
 (y3i p0 p1).bind fun r1 =>
 (y1G r1 (y3G p2)).bind fun r2 =>
 if decide (r2 < 0) then
  some (-1)
 else
  (idx r1 r2).bind fun x3 =>
  some x3.2.2
theorem y8H {p0 : AutT} {p1 : Int} {p2 : Int} {r : Int} (hm : y4k p0 p1 p2 = some r) :
  Fw Tryz.prog 132 ⟨0, []⟩ [.a [lF qI p0.1, lI p0.2.1, lF qI p0.2.2.1, lF qT p0.2.2.2], .i p1, .i p2] [] (.i r) [] := by
 unfold y4k at hm
 refine Fw.mk' Tryz.func132 R Tryz.ntmps132 R R (fun C => ?_) R R
 refine .seq (.reg (.op (O.box 0 R Z R R R) R (.op (O.box 1 R Z R R R) R (.sa R (.nil (.seqN (.seq (.reg (.op (O.lg (l' := [lF qI p0.1, lI p0.2.1, lF qI p0.2.2.1, lF qT p0.2.2.2]) ag25 Z R (.B R) R R R) R (.mv R (bS hm fun r1 er1 hm => .op (O.ca0 (y6p er1) cf82 R R Z R R R) R (.sa R (.nil (.seqN (.seq (.reg (.mv R (.fz 1 [5] [] R R fB R R (.op (O.mf (args := (fun (x : (Int × Int × Int)) => [.a [lI x.1, lI x.2.1, lI x.2.2]])) (res := (fun (r : Bool) => .b r)) (m := (y3G p2)) cf163 (fun x r h => y8b h) (fun _ => R) R Z R R) R (bS hm fun r2 er2 hm => .op (O.ca0 (y4O er2) cf110 R R Z R R R) R (.sa R (.nil (.seqN (.seq (.seq (.reg (.mv R (.bi R (.nil (.seqN ?_))))))))))))))))))))))))))))))
 rcases ifS hm with ⟨hc, hm⟩ | ⟨hc, hm⟩
 ·refine .cT R hc ?_
  refine .seq (.reg (.sa R (.nil (.seqN (.ret (.seqR ?_))))))
  obtain rfl := oi hm
  exact WX.rt [] (.inl R) Tryz.results132 (.tmp R .nil) R (fun _ _ _ h => h) trivial
 ·refine .cF R hc ?_
  refine .skip (.seqN (.seq (.reg (.mv R (.mv R (bS hm fun x3 ex3 hm => .op (O.ix sl23 Z R R ex3 R) R (.op (O.faE y4E Z R R) R (.op (O.ld nag3 Z R (.E lv97) R R) R (.sa R (.nil (.seqN (.ret ?_))))))))))))
  obtain rfl := oi hm
  exact WX.rt [] (.inl R) Tryz.results132 (.tmp R .nil) R (fun _ _ _ h => h) trivial
def y2V (p0 : AutT) (p2 : List Int) (st7 : Int × Int) : Option ((Int × Int) ⊕ (Int ⊕ (Int × Int))) :=
 if decide (st7.1 < (p2.length : Int)) then
  (idx p2 st7.1).bind fun x15 =>
  (y4k p0 st7.2 x15).bind fun r16 =>
  if decide (r16 < 0) then
   some (.inr (.inr (st7)))
  else
   some (.inl (W (st7.1 + 1), r16))
 else
  some (.inr (.inl st7.2))
def y2W (p0 : AutT) (p1 : Int) (p2 : List Int) : Option (Int × Int) :=
 (iter (y2V p0 p2) (0, p1)).bind fun o7 =>
 match o7 with
 | .inl u11 =>
  some (u11, (p2.length : Int))
 | .inr (u13) =>
  some (u13.2, u13.1)
theorem y5I {p0 : AutT} {p1 : Int} {p2 : List Int} {r : Int × Int} (hm : y2W p0 p1 p2 = some r) :
  Fw Tryz.prog 88 ⟨0, []⟩ [.a [lF qI p0.1, lI p0.2.1, lF qI p0.2.2.1, lF qT p0.2.2.2], .i p1, .f qI p2] [] (.tp [.i r.1, .i r.2]) [] := by
 unfold y2W at hm
 refine Fw.mk' Tryz.func88 R Tryz.ntmps88 R R (fun C => ?_) R R
 refine .seq (.reg (.op (O.box 0 R Z R R R) R (.sa R (.sa R (.nil (.seqN (.seq (.seq (.reg (.mv R (.op (O.len sl22 Z R R) R (.mv R (.nil (.seqN (.block (bS hm fun o7 eo7 hm => ?_))))))))))))))))
 refine .cutU (z := .exit 0) (fun u11 => .inl u11 = o7) (fun (u11 : Int) => ⟨[(1, .i u11), (2, .f qI p2)], [], 0⟩) ?_ fun K12 => ?_
 ·rintro u11 rfl
  dsimp only at hm
  refine .blkE (.seqN (.seq (.reg (.mv R (.mv R (.op (O.len sl22 Z R R) R (.sa R (.sa R (.nil (.seqN (.ret ?_)))))))))))
  obtain rfl := oi hm
  exact WX.rt [] (.inl R) Tryz.results88 (.tmp R (.tmp R .nil)) R (fun _ _ _ h => h) trivial
 refine .cutU (z := .ret) (fun u13 => .inr (u13) = o7) (fun (u13 : Int × Int) => ⟨[(7, .i u13.1), (6, .i u13.2)], [], 0⟩) ?_ fun K14 => ?_
 ·rintro u13 rfl
  dsimp only at hm
  refine .blkR (.seqR ?_)
  obtain rfl := oi hm
  exact WX.rt [] (.inl R) Tryz.results88 (.tmp R (.tmp R .nil)) R (fun _ _ _ h => h) trivial
 refine .iter (fun (st7 : Int × Int) => ⟨[(13, .i st7.1), (12, .i (p2.length : Int)), (11, .f qI p2), (3, .q 0 0), (1, .i st7.2), (2, .f qI p2)], [(0, .bx 25 [lF qI p0.1, lI p0.2.1, lF qI p0.2.2.1, lF qT p0.2.2.2])], 1⟩) eo7 [] R ?_
 intro st7 res7 hm ih7 ho7
 unfold y2V at hm
 refine .seq (.reg (.bi R (.nil (.seqN (.seq ?_)))))
 rcases ifS hm with ⟨hc, hm⟩ | ⟨hc, hm⟩
 ·refine .cT R hc ?_
  refine .skip (.seqN (.seq (.block (.seq (.reg (.mv R (bS hm fun x15 ex15 hm => .op (O.ix sl22 Z R R ex15 R) R (.op (O.ld nag3 Z R (.E lv3) R R) R (.sa R (.sa R (.nil (.seqN (.seq (.reg (.op (O.lg (l' := [lF qI p0.1, lI p0.2.1, lF qI p0.2.2.1, lF qT p0.2.2.2]) ag25 Z R (.B R) R R R) R (.mv R (.mv R (bS hm fun r16 er16 hm => .op (O.ca0 (y8H er16) cf132 R R Z R R R) R (.sa R (.nil (.seqN (.seq (.seq (.reg (.mv R (.bi R (.nil (.seqN ?_))))))))))))))))))))))))))))
  rcases ifS hm with ⟨hc, hm⟩ | ⟨hc, hm⟩
  ·refine .cT R hc ?_
   exact .seq (.reg (.mv R (.mv R (.sa R (.sa R (.nil (.seqN (.ret (.seqR (.blkR (.seqR (.seqR ((K14 _ (ho7 _ (oi hm).symm)).sub [] R)))))))))))))
  ·refine .cF R hc ?_
   exact .skip (.seqN (.reg (.mv R (.sa R (.nil (.blkN (.seqN (.reg (.bi R (.mv R (.nil ((ih7 _ (oi hm).symm).sub [] R))))))))))))
 ·refine .cF R hc ?_
  exact .exit (.seqX (.seqX ((K12 _ (ho7 _ (oi hm).symm)).sub [] R)))
def y4r (p0 : AutT) (p1 : List Int) : Option (Int × Bool) :=
 if (p0.2.1 == 0) then
  some (0, false)
 else
  (y2W p0 0 p1).bind fun r1 =>
  some (r1.1, (r1.2 == (p1.length : Int)))
theorem y7L {p0 : AutT} {p1 : List Int} {r : Int × Bool} (hm : y4r p0 p1 = some r) :
  Fw Tryz.prog 90 ⟨0, []⟩ [.a [lF qI p0.1, lI p0.2.1, lF qI p0.2.2.1, lF qT p0.2.2.2], .f qI p1] [] (.tp [.i r.1, .b r.2]) [] := by
 unfold y4r at hm
 refine Fw.mk' Tryz.func90 R Tryz.ntmps90 R R (fun C => ?_) R R
 refine .seq (.reg (.op (O.box 0 R Z R R R) R (.sa R (.sa R (.nil (.seqN (.seq (.seq (.reg (.op (O.faP yW Z R R) R (.op (O.ld nag3 Z R (.B R) R R) R (.bi R (.nil (.seqN ?_))))))))))))))
 rcases ifS hm with ⟨hc, hm⟩ | ⟨hc, hm⟩
 ·refine .cT R hc ?_
  refine .seq (.reg (.sa R (.sa R (.nil (.seqN (.ret (.seqR ?_)))))))
  obtain rfl := oi hm
  exact WX.rt [] (.inl R) Tryz.results90 (.tmp R (.tmp R .nil)) R (fun _ _ _ h => h) trivial
 ·refine .cF R hc ?_
  refine .skip (.seqN (.seq (.reg (.op (O.lg (l' := [lF qI p0.1, lI p0.2.1, lF qI p0.2.2.1, lF qT p0.2.2.2]) ag25 Z R (.B R) R R R) R (.mv R (bS hm fun r1 er1 hm => .op (O.ca0 (y5I er1) cf88 R R Z R R R) R (.mv R (.op (O.ex Z R R R) R (.op (O.ex Z R R R) R (.sa R (.sa R (.nil (.seqN (.seq (.reg (.mv R (.mv R (.mv R (.op (O.len sl22 Z R R) R (.bi R (.sa R (.sa R (.nil (.seqN (.ret ?_)))))))))))))))))))))))))
  obtain rfl := oi hm
  exact WX.rt [] (.inl R) Tryz.results90 (.tmp R (.tmp R .nil)) R (fun _ _ _ h => h) trivial
def y2f (p0 : AutT) (p1 : List Int) : Option (Bool × Int) :=
 (yH p0).bind fun r1 =>
 if (r1 != 0) then
  some (false, r1)
 else
  (y4r p0 p1).bind fun r2 =>
  some (r2.2, 0)
theorem y6V {p0 : AutT} {p1 : List Int} {r : Bool × Int} (hm : y2f p0 p1 = some r) :
  Fw Tryz.prog 39 ⟨0, []⟩ [.a [lF qI p0.1, lI p0.2.1, lF qI p0.2.2.1, lF qT p0.2.2.2], .f qI p1] [] (.tp [.b r.1, .i r.2]) [] := by
 unfold y2f at hm
 refine Fw.mk' Tryz.func39 R Tryz.ntmps39 R R (fun C => ?_) R R
 refine .seq (.reg (.op (O.box 0 R Z R R R) R (.sa R (.sa R (.nil (.seqN (.seq (.seq (.reg (.op (O.lg (l' := [lF qI p0.1, lI p0.2.1, lF qI p0.2.2.1, lF qT p0.2.2.2]) ag25 Z R (.B R) R R R) R (bS hm fun r1 er1 hm => .op (O.ca0 (y2F er1) cf51 R R Z R R R) R (.sa R (.nil (.seqN (.seq (.reg (.mv R (.bi R (.nil (.seqN ?_))))))))))))))))))))
 rcases ifS hm with ⟨hc, hm⟩ | ⟨hc, hm⟩
 ·refine .cT R hc ?_
  refine .seq (.reg (.mv R (.sa R (.sa R (.nil (.seqN (.ret (.seqR ?_))))))))
  obtain rfl := oi hm
  exact WX.rt [] (.inl R) Tryz.results39 (.tmp R (.tmp R .nil)) R (fun _ _ _ h => h) trivial
 ·refine .cF R hc ?_
  refine .skip (.seqN (.seq (.reg (.op (O.lg (l' := [lF qI p0.1, lI p0.2.1, lF qI p0.2.2.1, lF qT p0.2.2.2]) ag25 Z R (.B R) R R R) R (.mv R (bS hm fun r2 er2 hm => .op (O.ca0 (y7L er2) cf90 R R Z R R R) R (.mv R (.op (O.ex Z R R R) R (.op (O.ex Z R R R) R (.sa R (.sa R (.nil (.seqN (.seq (.reg (.mv R (.sa R (.sa R (.nil (.seqN (.ret ?_)))))))))))))))))))))
  obtain rfl := oi hm
  exact WX.rt [] (.inl R) Tryz.results39 (.tmp R (.tmp R .nil)) R (fun _ _ _ h => h) trivial
def y3A (p0 : AutT) (p1 : Int) : Option Int :=
 (yH p0).bind fun r1 =>
 if (r1 != 0) then
  some r1
 else
  if ((decide (p1 < 0)) || (decide (p1 ≥ p0.2.1))) then
   some 2
  else
   some 0
theorem y6O {p0 : AutT} {p1 : Int} {r : Int} (hm : y3A p0 p1 = some r) :
  Fw Tryz.prog 85 ⟨0, []⟩ [.a [lF qI p0.1, lI p0.2.1, lF qI p0.2.2.1, lF qT p0.2.2.2], .i p1] [] (.i r) [] := by
 unfold y3A at hm
 refine Fw.mk' Tryz.func85 R Tryz.ntmps85 R R (fun C => ?_) R R
 refine .seq (.reg (.op (O.box 0 R Z R R R) R (.sa R (.nil (.seqN (.seq (.seq (.reg (.op (O.lg (l' := [lF qI p0.1, lI p0.2.1, lF qI p0.2.2.1, lF qT p0.2.2.2]) ag25 Z R (.B R) R R R) R (bS hm fun r1 er1 hm => .op (O.ca0 (y2F er1) cf51 R R Z R R R) R (.sa R (.nil (.seqN (.seq (.reg (.mv R (.bi R (.nil (.seqN ?_)))))))))))))))))))
 rcases ifS hm with ⟨hc, hm⟩ | ⟨hc, hm⟩
 ·refine .cT R hc ?_
  refine .seq (.reg (.mv R (.sa R (.nil (.seqN (.ret (.seqR ?_)))))))
  obtain rfl := oi hm
  exact WX.rt [] (.inl R) Tryz.results85 (.tmp R .nil) R (fun _ _ _ h => h) trivial
 ·refine .cF R hc ?_
  refine .skip (.seqN (.seq (.seq (.reg (.mv R (.bi R (.mv R ?_)))))))
  refine .cut 5 (fun (v2 : Bool) => ((decide (p1 < 0)) || (decide (p1 ≥ p0.2.1))) = v2) (fun v2 => ⟨[(18, .b v2)], [], 1⟩) ?_ ?_
  ·rintro _ rfl
   refine .nil (.seqN ?_)
   rcases ifS hm with ⟨hc, hm⟩ | ⟨hc, hm⟩
   ·refine .cT R hc ?_
    refine .seq (.reg (.sa R (.nil (.seqN (.ret (.seqR ?_))))))
    obtain rfl := oi hm
    exact WX.rt [] (.inl R) Tryz.results85 (.tmp R .nil) R (fun _ _ _ h => h) trivial
   ·refine .cF R hc ?_
    refine .skip (.seqN (.seq (.reg (.sa R (.nil (.seqN (.ret ?_)))))))
    obtain rfl := oi hm
    exact WX.rt [] (.inl R) Tryz.results85 (.tmp R .nil) R (fun _ _ _ h => h) trivial
  ·intro J3
   rcases Bool.eq_false_or_eq_true (decide (p1 < 0)) with hc | hc
   ·refine .know (d := 13) R hc ?_
    exact .sk R (.sk R (.sk R (.sk R (.op (O.pkT Z R R R R) R ((J3 true (orT hc).symm).sub [] R)))))
   ·refine .know (d := 13) R hc ?_
    exact .op (O.mv (Gu.mk R R) R R) R (.op (O.faP yW (Gu.mk R R) R R) R (.op (O.ld nag3 (Gu.mk R R) R (.B R) R R) R (.op (O.bi (Gu.mk R R) R R R R) R (.op (O.pkF Z R R R R) R ((J3 (decide (p1 ≥ p0.2.1)) (orF hc).symm).sub [] R)))))
def y3k (q0 : AutT) (p0 : Int) : Option Bool :=
 (yA q0.1 p0).bind fun r1 =>
 some (!r1)
theorem y8u {q0 : AutT} {p0 : Int} {r : Bool} (hm : y3k q0 p0 = some r) :
  Fw Tryz.prog 87 ⟨0, []⟩ [.i p0, .o (lQ 25 [lF qI q0.1, lI q0.2.1, lF qI q0.2.2.1, lF qT q0.2.2.2] 0)] [] (.b r) [] := by
 unfold y3k at hm
 refine Fw.mk' Tryz.func87 R Tryz.ntmps87 R R (fun C => ?_) R R
 refine .seq (.reg (.sa R (.nil (.seqN (.seq (.reg (.op (O.faQ y1D Z R R) R (.op (O.ld nag22 Z R .Q R R) R (.mv R (bS hm fun r1 er1 hm => .op (O.ca0 (y3m er1) cf84 R R Z R R R) R (.op (O.not Z R R) R (.sa R (.nil (.seqN (.ret ?_)))))))))))))))
 obtain rfl := oi hm
 exact WX.rt [] (.inl R) Tryz.results87 (.tmp R .nil) R (fun _ _ _ h => h) trivial
def y3b (p0 : List Int) (p1 : Int → Option Bool) : Option Bool :=
 (y1Q p0 p1).bind fun r1 =>
 some (decide (r1 ≥ 0))
theorem y6f {p0 : List Int} {p1 : Int → Option Bool} {r : Bool} (hm : y3b p0 p1 = some r) :
  Fw Tryz.prog 86 ⟨0, []⟩ [.f qI p0, .o (lW Tryz.prog (fun (x : Int) => [.i x]) (fun (r : Bool) => .b r) p1)] [] (.b r) [] := by
 unfold y3b at hm
 refine Fw.mk' Tryz.func86 R Tryz.ntmps86 R R (fun C => ?_) R R
 refine .seq (.reg (.sa R (.nil (.seqN (.seq (.reg (.mv R (.mv R (bS hm fun r1 er1 hm => .op (O.ca0 (y4U er1) cf114 R R Z R R R) R (.bi R (.sa R (.nil (.seqN (.ret ?_))))))))))))))
 obtain rfl := oi hm
 exact WX.rt [] (.inl R) Tryz.results86 (.tmp R .nil) R (fun _ _ _ h => h) trivial
def y3P (p0 : AutT) (p1 : Int) (p2 : List Int) : Option (Int × Int × Int) :=
 (y3A p0 p1).bind fun r1 =>
 if (r1 != 0) then
  some (0, 0, r1)
 else
  (y3b p2 (y3k p0)).bind fun r2 =>
  if r2 then
   some (0, 0, 9)
  else
   (y2W p0 p1 p2).bind fun r3 =>
   some (r3.1, r3.2, 0)
theorem y8R {p0 : AutT} {p1 : Int} {p2 : List Int} {r : Int × Int × Int} (hm : y3P p0 p1 p2 = some r) :
  Fw Tryz.prog 37 ⟨0, []⟩ [.a [lF qI p0.1, lI p0.2.1, lF qI p0.2.2.1, lF qT p0.2.2.2], .i p1, .f qI p2] [] (.tp [.i r.1, .i r.2.1, .i r.2.2]) [] := by
 unfold y3P at hm
 refine Fw.mk' Tryz.func37 R Tryz.ntmps37 R R (fun C => ?_) R R
 refine .seq (.reg (.op (O.box 0 R Z R R R) R (.sa R (.sa R (.sa R (.nil (.seqN (.seq (.seq (.reg (.op (O.lg (l' := [lF qI p0.1, lI p0.2.1, lF qI p0.2.2.1, lF qT p0.2.2.2]) ag25 Z R (.B R) R R R) R (.mv R (bS hm fun r1 er1 hm => .op (O.ca0 (y6O er1) cf85 R R Z R R R) R (.sa R (.nil (.seqN (.seq (.reg (.mv R (.bi R (.nil (.seqN ?_))))))))))))))))))))))
 rcases ifS hm with ⟨hc, hm⟩ | ⟨hc, hm⟩
 ·refine .cT R hc ?_
  refine .seq (.reg (.mv R (.sa R (.sa R (.sa R (.nil (.seqN (.ret (.seqR ?_)))))))))
  obtain rfl := oi hm
  exact WX.rt [] (.inl R) Tryz.results37 (.tmp R (.tmp R (.tmp R .nil))) R (fun _ _ _ h => h) trivial
 ·refine .cF R hc ?_
  refine .skip (.seqN (.seq (.seq (.reg (.mv R (.fz 0 [3] [] R R fB R R (.op (O.mf (args := (fun (x : Int) => [.i x])) (res := (fun (r : Bool) => .b r)) (m := (y3k p0)) cf87 (fun x r h => y8u h) (fun _ => R) R Z R R) R (bS hm fun r2 er2 hm => .op (O.ca0 (y6f er2) cf86 R R Z R R R) R (.nil (.seqN ?_))))))))))
  rcases ifS hm with ⟨hc, hm⟩ | ⟨hc, hm⟩
  ·refine .cT R hc ?_
   refine .seq (.reg (.sa R (.sa R (.sa R (.nil (.seqN (.ret (.seqR ?_))))))))
   obtain rfl := oi hm
   exact WX.rt [] (.inl R) Tryz.results37 (.tmp R (.tmp R (.tmp R .nil))) R (fun _ _ _ h => h) trivial
  ·refine .cF R hc ?_
   refine .skip (.seqN (.seq (.reg (.op (O.lg (l' := [lF qI p0.1, lI p0.2.1, lF qI p0.2.2.1, lF qT p0.2.2.2]) ag25 Z R .Q R R R) R (.mv R (.mv R (bS hm fun r3 er3 hm => .op (O.ca0 (y5I er3) cf88 R R Z R R R) R (.mv R (.op (O.ex Z R R R) R (.op (O.ex Z R R R) R (.sa R (.sa R (.nil (.seqN (.seq (.reg (.mv R (.mv R (.sa R (.sa R (.sa R (.nil (.seqN (.ret ?_))))))))))))))))))))))))
   obtain rfl := oi hm
   exact WX.rt [] (.inl R) Tryz.results37 (.tmp R (.tmp R (.tmp R .nil))) R (fun _ _ _ h => h) trivial
def yB (p2 : List Int) (st46 : Int × List Int) : Option ((Int × List Int) ⊕ (List Int)) :=
 if ((decide (st46.1 < (p2.length : Int))) && (decide (st46.1 < 5))) then
  (idx p2 st46.1).bind fun x65 =>
  (app st46.2 ([W (x65.tmod 5)] : List Int)).bind fun x66 =>
  some (.inl (W (st46.1 + 1), x66))
 else
  some (.inr st46.2)
def yC (p2 : List Int) (r5 : (AutT × AutT × List Int)) (o20 : List Int) : Option Bool :=
 (iter (yB p2) (0, ([] : List Int))).bind fun o46 =>
 (y5r r5 o20 o46).bind fun r49 =>
 (yi ([r5.1, r5.2.1] : List AutT)).bind fun r50 =>
 (y2f r50.1 o46).bind fun r51 =>
 if (!r51.1) then
  some (((r49.1 == 0) && (!r49.2.1)) && (r49.2.2 == 10))
 else
  (y3P r50.1 0 o46).bind fun r56 =>
  (idx r50.2.1 r56.1).bind fun x57 =>
  (y1b r5 x57 o20).bind fun r58 =>
  some (((r49.2.2 == 0) && (r49.2.1 == (decide (r58 ≥ 0)))) && (r49.1 == (if r58 < 0 then 0 else r58)))
def yD (r25 : AutT) (st72 : Int × List Int) : Option ((Int × List Int) ⊕ (List Int)) :=
 if decide (st72.1 < r25.2.1) then
  (app st72.2 ([st72.1] : List Int)).bind fun x80 =>
  some (.inl (W (st72.1 + 1), x80))
 else
  some (.inr st72.2)
def yE (st20 : Int × List Int) (l88 : List Int) : Option ((Int × List Int) ⊕ (List Int)) :=
 some (.inl (W (st20.1 + 1), l88))
def yF (p1 : List Int) (r6 : List Int) (st20 : Int × List Int) : Option ((Int × List Int) ⊕ (List Int)) :=
 if ((decide (st20.1 < (p1.length : Int))) && (decide ((r6.length : Int) > 0))) then
  (idx p1 st20.1).bind fun x90 =>
  (nz (r6.length : Int)).bind fun _ =>
  (idx r6 ((W x90).tmod (r6.length : Int))).bind fun x92 =>
  (y1W st20.2 x92).bind fun r93 =>
  if (!r93) then
   (app st20.2 ([x92] : List Int)).bind fun x94 =>
   yE st20 x94
  else
   yE st20 st20.2
 else
  some (.inr st20.2)
def y2C (p0 : (Int × y1M) × (Int × y1M) × Int) (p1 : List Int) (p2 : List Int) : Option Bool :=
 (y2Q).bind fun r1 =>
 if ((!r1) || (decide ((p1.length : Int) > 8))) then
  (y2Q).bind fun r4 =>
  some r4
 else
  (y3g p0 false).bind fun r5 =>
  (y2L r5.1.1 r5.2.2).bind fun r6 =>
  (iter (yF p1 r6) (0, ([] : List Int))).bind fun o20 =>
  (y3V r5 o20).bind fun r23 =>
  (y2t r5 o20).bind fun r24 =>
  (y1N r5 o20).bind fun r25 =>
  (y2A r25).bind fun r26 =>
  (if ((r23.2 != 0) || (r24.2.2 != 0)) then
   some true
  else
   (y3Y r23.1 r25).bind fun r85 =>
   some (!r85)).bind fun b29 =>
  (if (b29 || (r24.2.1 != ((r26.length : Int) == 0))) then
   some true
  else
   (if r24.2.1 then
    (y4b r24.1).bind fun r84 =>
    some (!r84)
   else
    some false).bind fun b81 =>
   some b81).bind fun b34 =>
  if b34 then
   some false
  else
   if (!r24.2.1) then
    (iter (yD r25) (0, ([] : List Int))).bind fun o72 =>
    (y4C r25 0 r26 o72).bind fun r75 =>
    (if (r75.2.2 != 0) then
     some true
    else
     (y2u r24.1 (3, r75.1, ([] : List Int))).bind fun r79 =>
     some (!r79)).bind fun b76 =>
    if b76 then
     some false
    else
     yC p2 r5 o20
   else
    yC p2 r5 o20
theorem y5J {p0 : (Int × y1M) × (Int × y1M) × Int} {p1 : List Int} {p2 : List Int} {r : Bool} (hm : y2C p0 p1 p2 = some r) :
  Fw Tryz.prog 10 ⟨0, []⟩ [.a (lx59 p0), .f (rK .u8) p1, .f (rK .u8) p2] [] (.b r) [] := by
 unfold y2C at hm
 refine Fw.mk' Tryz.func10 R Tryz.ntmps10 R R (fun C => ?_) R R
 refine .seq (.reg (.op (O.box 0 R Z R R R) R (.sa R (.nil (.seqN (.seq (.seq (.reg (bS hm fun r1 er1 hm => .op (O.ca0 (y5d er1) cf11 R R Z R R R) R (.op (O.not Z R R) R (.mv R ?_)))))))))))
 refine .cut 4 (fun (v2 : Bool) => ((!r1) || (decide ((p1.length : Int) > 8))) = v2) (fun v2 => ⟨[(44, .b v2), (3, .q 0 0), (1, .f (rK .u8) p1), (2, .f (rK .u8) p2)], [(0, .bx 59 (lx59 p0))], 1⟩) ?_ ?_
 ·rintro _ rfl
  refine .nil (.seqN ?_)
  rcases ifS hm with ⟨hc, hm⟩ | ⟨hc, hm⟩
  ·refine .cT R hc ?_
   refine .seq (.reg (bS hm fun r4 er4 hm => .op (O.ca0 (y5d er4) cf11 R R Z R R R) R (.sa R (.nil (.seqN (.ret (.seqR ?_)))))))
   obtain rfl := oi hm
   exact WX.rt [] (.inl R) Tryz.results10 (.tmp R .nil) R (fun _ _ _ h => h) trivial
  ·refine .cF R hc ?_
   refine .skip (.seqN (.seq (.reg (.op (O.lg (l' := (lx59 p0)) ag59 Z R (.B R) R R R) R (bS hm fun r5 er5 hm => .op (O.ca (r' := .g [lF qI r5.1.1, lI r5.1.2.1, lH 1, lH 2, lH 3, lI r5.2.1.2.1, lH 4, lH 5, lH 6]) [1, 2, 3, 4, 5, 6] [(0, ROW qI 3 r5.1.2.2.1), (1, ROW qT 97 r5.1.2.2.2), (2, ROW qI 3 r5.2.1.1), (3, ROW qI 3 r5.2.1.2.2.1), (4, ROW qT 97 r5.2.1.2.2.2), (5, ROW qI 3 r5.2.2)] (some 7) (y7j er5) cf25 R R Z R R R R ⟨⟨_, R, fun _ _ _ _ h => h⟩, ⟨_, R, fun _ _ _ _ h => h⟩, ⟨_, R, fun _ _ _ _ h => h⟩, ⟨_, R, fun _ _ _ _ h => h⟩, ⟨_, R, fun _ _ _ _ h => h⟩, ⟨_, R, fun _ _ _ _ h => h⟩, trivial⟩ (fun _ _ _ h => h) R) R (.op (O.al 7 R zz27 R Z R) R (.op (O.st ag27.sz Z R R R R R) R (.nil (.seqN (.seq (.reg (.op (O.faP y5i Z R R) R (.op (O.faP y1D Z R R) R (.op (O.ld nag22 Z R (.B R) R R) R (.op (O.faP y8E Z R R) R (.op (O.ld nag22 Z R (.B R) R R) R (.fz 6 [52] [7] R R fR R R (bS hm fun r6 er6 hm => .op (O.ca (r' := .h 8) [8] [(0, ROW qI 3 r6)] (some 9) (y4R er6) cf26 R R Z R R R R ⟨⟨_, R, fun _ _ _ _ h => h⟩, trivial⟩ (fun _ _ _ h => h) R) R (.sa R (.nil (.seqN (.seq (.reg (.sa R (.nil (.seqN (.seq (.seq (.reg (.sa R (.nil (.seqN (.block (bS hm fun o20 eo20 hm => ?_))))))))))))))))))))))))))))))))))
   refine .cut1 (z := .exit 0) o20 (fun (o20 : List Int) => ⟨[(9, .h 0), (7, .q 1 0), (2, .f (rK .u8) p2)], [(0, ROW qI 3 o20), (1, .bx 27 [lF qI r5.1.1, lI r5.1.2.1, lH 2, lH 3, lH 4, lI r5.2.1.2.1, lH 5, lH 6, lF qI r5.2.2]), (2, ROW qI 3 r5.1.2.2.1), (3, ROW qT 97 r5.1.2.2.2), (4, ROW qI 3 r5.2.1.1), (5, ROW qI 3 r5.2.1.2.2.1), (6, ROW qT 97 r5.2.1.2.2.2)], 7⟩) ?_ fun K22 => ?_
   ·skip
    refine .blkE (.seqN (.seq (.reg (.op (O.lg (l' := [lF qI r5.1.1, lI r5.1.2.1, lH 2, lH 3, lH 4, lI r5.2.1.2.1, lH 5, lH 6, lF qI r5.2.2]) ag27 Z R (.B R) R R R) R (.mv R (.fz 2 [85] [1] R R fR R R (.fz 3 [85] [1] R R fR R R (.fz 4 [85] [1] R R fR R R (.fz 5 [85] [1] R R fR R R (.fz 6 [85] [1] R R fR R R (.fz 0 [86, 9] [] R R fR R R (bS hm fun r23 er23 hm => .op (O.ca0 (y8q er23) cf19 R R Z R R R) R (.mv R (.op (O.ex Z R R R) R (.op (O.ex Z R R R) R (.op (O.al 7 R zz25 R Z R) R (.op (O.st ag25.sz Z R R R R R) R (.sa R (.nil (.seqN (.seq (.reg (.op (O.lg (l' := [lF qI r5.1.1, lI r5.1.2.1, lF qI r5.1.2.2.1, lF qT r5.1.2.2.2, lF qI r5.2.1.1, lI r5.2.1.2.1, lF qI r5.2.1.2.2.1, lF qT r5.2.1.2.2.2, lF qI r5.2.2]) ag27 Z R (.B R) R R R) R (.mv R (bS hm fun r24 er24 hm => .op (O.ca (r' := .tp [.a [lI r24.1.1, lH 8, lH 9], .b r24.2.1, .i r24.2.2]) [8, 9] [(0, ROW qI 3 r24.1.2.1), (1, ROW qI 3 r24.1.2.2)] (some 10) (y5t er24) cf18 R R Z R R R R ⟨⟨_, R, fun _ _ _ _ h => h⟩, ⟨_, R, fun _ _ _ _ h => h⟩, trivial⟩ (fun _ _ _ h => h) R) R (.mv R (.op (O.ex Z R R R) R (.op (O.ex Z R R R) R (.op (O.ex Z R R R) R (.op (O.al 10 R zz38 R Z R) R (.op (O.st ag38.sz Z R R R R R) R (.sa R (.sa R (.nil (.seqN (.seq (.reg ?_)))))))))))))))))))))))))))))))))))))
    refine .op (O.lg (l' := [lF qI r5.1.1, lI r5.1.2.1, lF qI r5.1.2.2.1, lF qT r5.1.2.2.2, lF qI r5.2.1.1, lI r5.2.1.2.1, lF qI r5.2.1.2.2.1, lF qT r5.2.1.2.2.2, lF qI r5.2.2]) ag27 Z R (.B R) R R R) R (.mv R (bS hm fun r25 er25 hm => .op (O.ca (r' := .g [lH 11, lI r25.2.1, lH 12, lH 13]) [11, 12, 13] [(0, ROW qI 3 r25.1), (1, ROW qI 3 r25.2.2.1), (2, ROW qT 97 r25.2.2.2)] (some 14) (y5P er25) cf44 R R Z R R R R ⟨⟨_, R, fun _ _ _ _ h => h⟩, ⟨_, R, fun _ _ _ _ h => h⟩, ⟨_, R, fun _ _ _ _ h => h⟩, trivial⟩ (fun _ _ _ h => h) R) R (.op (O.al 14 R zz25 R Z R) R (.op (O.st ag25.sz Z R R R R R) R (.nil (.seqN (.seq (.reg (.op (O.lg (l' := [lH 11, lI r25.2.1, lH 12, lH 13]) ag25 Z R (.B R) R R R) R (.fz 11 [100] [14] R R fR R R (.fz 12 [100] [14] R R fR R R (.fz 13 [100] [14] R R fR R R (bS hm fun r26 er26 hm => .op (O.ca (r' := .h 15) [15] [(0, ROW qI 3 r26)] (some 16) (y6t er26) cf46 R R Z R R R R ⟨⟨_, R, fun _ _ _ _ h => h⟩, trivial⟩ (fun _ _ _ h => h) R) R (.sa R (.nil (.seqN (.seq (.seq (.reg (.mv R (.bi R (.mv R ?_))))))))))))))))))))))
    refine .cut 3 (fun (v27 : Bool) => ((r23.2 != 0) || (r24.2.2 != 0)) = v27) (fun v27 => ⟨[(107, .b v27), (18, .h 15), (17, .q 14 0), (15, .b r24.2.1), (14, .q 10 0), (12, .q 7 0), (9, .f qI o20), (7, .q 1 0), (2, .f (rK .u8) p2)], [(15, ROW qI 3 r26), (14, .bx 25 [lF qI r25.1, lI r25.2.1, lF qI r25.2.2.1, lF qT r25.2.2.2]), (10, .bx 38 [lI r24.1.1, lH 8, lH 9]), (8, ROW qI 3 r24.1.2.1), (9, ROW qI 3 r24.1.2.2), (7, .bx 25 [lF qI r23.1.1, lI r23.1.2.1, lF qI r23.1.2.2.1, lF qT r23.1.2.2.2]), (1, .bx 27 [lF qI r5.1.1, lI r5.1.2.1, lF qI r5.1.2.2.1, lF qT r5.1.2.2.2, lF qI r5.2.1.1, lI r5.2.1.2.1, lF qI r5.2.1.2.2.1, lF qT r5.2.1.2.2.2, lF qI r5.2.2])], 16⟩) ?_ ?_
    ·rintro _ rfl
     refine .mv R (bS hm fun b29 eb29 hm => ?_)
     refine .cut 5 (fun (v30 : Bool) => b29 = v30) (fun v30 => ⟨[(113, .b v30), (18, .h 15), (17, .q 14 0), (15, .b r24.2.1), (14, .q 10 0), (9, .f qI o20), (7, .q 1 0), (2, .f (rK .u8) p2)], [(15, ROW qI 3 r26), (14, .bx 25 [lF qI r25.1, lI r25.2.1, lF qI r25.2.2.1, lF qT r25.2.2.2]), (10, .bx 38 [lI r24.1.1, lH 8, lH 9]), (8, ROW qI 3 r24.1.2.1), (9, ROW qI 3 r24.1.2.2), (1, .bx 27 [lF qI r5.1.1, lI r5.1.2.1, lF qI r5.1.2.2.1, lF qT r5.1.2.2.2, lF qI r5.2.1.1, lI r5.2.1.2.1, lF qI r5.2.1.2.2.1, lF qT r5.2.1.2.2.2, lF qI r5.2.2])], 16⟩) ?_ ?_
     ·rintro _ rfl
      refine .mv R ?_
      refine .cut 6 (fun (v32 : Bool) => (b29 || (r24.2.1 != ((r26.length : Int) == 0))) = v32) (fun v32 => ⟨[(120, .b v32), (18, .h 15), (17, .q 14 0), (15, .b r24.2.1), (14, .q 10 0), (9, .f qI o20), (7, .q 1 0), (2, .f (rK .u8) p2)], [(15, ROW qI 3 r26), (14, .bx 25 [lF qI r25.1, lI r25.2.1, lF qI r25.2.2.1, lF qT r25.2.2.2]), (10, .bx 38 [lI r24.1.1, lH 8, lH 9]), (8, ROW qI 3 r24.1.2.1), (9, ROW qI 3 r24.1.2.2), (1, .bx 27 [lF qI r5.1.1, lI r5.1.2.1, lF qI r5.1.2.2.1, lF qT r5.1.2.2.2, lF qI r5.2.1.1, lI r5.2.1.2.1, lF qI r5.2.1.2.2.1, lF qT r5.2.1.2.2.2, lF qI r5.2.2])], 16⟩) ?_ ?_
      ·rintro _ rfl
       refine .mv R (bS hm fun b34 eb34 hm => ?_)
       refine .cut 7 (fun (v35 : Bool) => b34 = v35) (fun v35 => ⟨[(128, .b v35), (18, .h 15), (17, .q 14 0), (15, .b r24.2.1), (14, .q 10 0), (9, .f qI o20), (7, .q 1 0), (2, .f (rK .u8) p2)], [(15, ROW qI 3 r26), (14, .bx 25 [lF qI r25.1, lI r25.2.1, lF qI r25.2.2.1, lF qT r25.2.2.2]), (10, .bx 38 [lI r24.1.1, lH 8, lH 9]), (8, ROW qI 3 r24.1.2.1), (9, ROW qI 3 r24.1.2.2), (1, .bx 27 [lF qI r5.1.1, lI r5.1.2.1, lF qI r5.1.2.2.1, lF qT r5.1.2.2.2, lF qI r5.2.1.1, lI r5.2.1.2.1, lF qI r5.2.1.2.2.1, lF qT r5.2.1.2.2.2, lF qI r5.2.2])], 16⟩) ?_ ?_
       ·rintro _ rfl
        refine .nil (.seqN ?_)
        rcases ifS hm with ⟨hc, hm⟩ | ⟨hc, hm⟩
        ·refine .cT R hc ?_
         refine .seq (.reg (.sa R (.nil (.seqN (.ret (.seqR ?_))))))
         obtain rfl := oi hm
         exact WX.rt [] (.inl R) Tryz.results10 (.tmp R .nil) R (fun _ _ _ h => h) trivial
        ·refine .cF R hc ?_
         refine .skip (.seqN ?_)
         refine .join0 (yC p2 r5 o20 = some r) (⟨[(9, .f qI o20), (7, .q 0 0), (2, .f (rK .u8) p2)], [(0, .bx 27 [lF qI r5.1.1, lI r5.1.2.1, lF qI r5.1.2.2.1, lF qT r5.1.2.2.2, lF qI r5.2.1.1, lI r5.2.1.2.1, lF qI r5.2.1.2.2.1, lF qT r5.2.1.2.2.2, lF qI r5.2.2])], 1⟩) ?_ ?_
         ·intro hm
          unfold yC at hm
          refine .seq (.reg (.sa R (.nil (.seqN (.seq (.seq (.reg (.sa R (.nil (.seqN (.block (bS hm fun o46 eo46 hm => ?_))))))))))))
          refine .cut1 (z := .exit 4) o46 (fun (o46 : List Int) => ⟨[(24, .h 0), (9, .f qI o20), (7, .q 1 0)], [(0, ROW qI 3 o46), (1, .bx 27 [lF qI r5.1.1, lI r5.1.2.1, lF qI r5.1.2.2.1, lF qT r5.1.2.2.2, lF qI r5.2.1.1, lI r5.2.1.2.1, lF qI r5.2.1.2.2.1, lF qT r5.2.1.2.2.2, lF qI r5.2.2])], 2⟩) ?_ fun K48 => ?_
          ·skip
           refine .blkE (.seqN (.seq (.reg (.op (O.lg (l' := [lF qI r5.1.1, lI r5.1.2.1, lF qI r5.1.2.2.1, lF qT r5.1.2.2.2, lF qI r5.2.1.1, lI r5.2.1.2.1, lF qI r5.2.1.2.2.1, lF qT r5.2.1.2.2.2, lF qI r5.2.2]) ag27 Z R (.B R) R R R) R (.mv R (.mv R (bS hm fun r49 er49 hm => .op (O.caZ (y9z er49) cf20 R R Z R ⟨⟨R, LnL.rf⟩, ⟨R, LnL.rf⟩, ⟨R, .hr R, trivial⟩, trivial⟩ (fun _ _ _ _ _ h => h) R) R (.mv R (.op (O.ex Z R R R) R (.op (O.ex Z R R R) R (.op (O.ex Z R R R) R (.sa R (.sa R (.sa R (.nil (.seqN (.seq (.reg (.op (O.faP y5i Z R R) R (.op (O.lg (l' := [lF qI r5.1.1, lI r5.1.2.1, lF qI r5.1.2.2.1, lF qT r5.1.2.2.2]) ag25 Z R (.B R) R R R) R (.op (O.faP y6I Z R R) R (.op (O.lg (l' := [lF qI r5.2.1.1, lI r5.2.1.2.1, lF qI r5.2.1.2.2.1, lF qT r5.2.1.2.2.2]) ag25 Z R (.B R) R R R) R (.op (O.bsF (r := rE25) (zs := ([r5.1, r5.2.1] : List AutT)) bs73 R R Z R R R (.c (.p .l (.p .k (.p .l .l))) (.c (.p .l (.p .k (.p .l .l))) .n)) R R R) R (bS hm fun r50 er50 hm => .op (O.ca (r' := .tp [.a [lF qI r50.1.1, lI r50.1.2.1, lH 2, lH 3], .h 4, .i r50.2.2]) [2, 3, 4] [(0, ROW qI 3 r50.1.2.2.1), (1, ROW qT 97 r50.1.2.2.2), (2, ROW (rL qI) 22 r50.2.1)] (some 5) (y3n er50) cf34 R R Z R R R R ⟨⟨_, R, fun _ _ _ _ h => h⟩, ⟨_, R, fun _ _ _ _ h => h⟩, ⟨_, R, fun _ _ _ _ h => h⟩, trivial⟩ (fun _ _ _ h => h) R) R (.mv R (.op (O.ex Z R R R) R (.op (O.ex Z R R R) R (.op (O.ex Z R R R) R (.op (O.al 5 R zz25 R Z R) R (.op (O.st ag25.sz Z R R R R R) R (.sa R (.sa R (.nil (.seqN (.seq (.seq (.reg ?_)))))))))))))))))))))))))))))))))))))
           refine .op (O.lg (l' := [lF qI r50.1.1, lI r50.1.2.1, lH 2, lH 3]) ag25 Z R (.B R) R R R) R (.mv R (bS hm fun r51 er51 hm => .op (O.caZ (y6V er51) cf39 R R Z R ⟨⟨R, .rf, .rf, .hr R, .hr R, trivial⟩, ⟨R, .hr R, trivial⟩, trivial⟩ (fun _ _ _ _ _ h => h) R) R (.mv R (.op (O.ex Z R R R) R (.op (O.ex Z R R R) R (.sa R (.sa R (.nil (.seqN (.seq (.reg (.mv R (.op (O.not Z R R) R (.nil (.seqN ?_)))))))))))))))
           rcases ifS hm with ⟨hc, hm⟩ | ⟨hc, hm⟩
           ·refine .cT R hc ?_
            refine .seq (.reg (.mv R (.bi R (.mv R ?_))))
            refine .cut 3 (fun (v52 : Bool) => ((r49.1 == 0) && (!r49.2.1)) = v52) (fun v52 => ⟨[(208, .b v52), (28, .i r49.2.2)], [], 6⟩) ?_ ?_
            ·rintro _ rfl
             refine .mv R ?_
             refine .cut 3 (fun (v54 : Bool) => (((r49.1 == 0) && (!r49.2.1)) && (r49.2.2 == 10)) = v54) (fun v54 => ⟨[(212, .b v54)], [], 6⟩) ?_ ?_
             ·rintro _ rfl
              refine .sa R (.nil (.seqN (.ret (.seqR ?_))))
              obtain rfl := oi hm
              exact WX.rt [] (.inl R) Tryz.results10 (.tmp R .nil) R (fun _ _ _ h => h) trivial
             ·intro J55
              rcases Bool.eq_false_or_eq_true ((r49.1 == 0) && (!r49.2.1)) with hc | hc
              ·refine .know (d := 209) R hc ?_
               exact .op (O.mv (Gu.mk R R) R R) R (.op (O.bi (Gu.mk R R) R R R R) R (.op (O.pkT Z R R R R) R ((J55 (r49.2.2 == 10) (andT hc).symm).sub [] R)))
              ·refine .know (d := 209) R hc ?_
               exact .sk R (.sk R (.op (O.pkF Z R R R R) R ((J55 false (andF hc).symm).sub [] R)))
            ·intro J53
             rcases Bool.eq_false_or_eq_true (r49.1 == 0) with hc | hc
             ·refine .know (d := 205) R hc ?_
              exact .op (O.mv (Gu.mk R R) R R) R (.op (O.not (Gu.mk R R) R R) R (.op (O.pkT Z R R R R) R ((J53 (!r49.2.1) (andT hc).symm).sub [] R)))
             ·refine .know (d := 205) R hc ?_
              exact .sk R (.sk R (.op (O.pkF Z R R R R) R ((J53 false (andF hc).symm).sub [] R)))
           ·refine .cF R hc ?_
            refine .skip (.seqN (.seq (.reg (.op (O.lg (l' := [lF qI r50.1.1, lI r50.1.2.1, lH 2, lH 3]) ag25 Z R (.B R) R R R) R (.mv R (bS hm fun r56 er56 hm => .op (O.caZ (y8R er56) cf37 R R Z R ⟨⟨R, .rf, .rf, .hr R, .hr R, trivial⟩, ⟨R, LnL.rf⟩, ⟨R, .hr R, trivial⟩, trivial⟩ (fun _ _ _ _ _ h => h) R) R (.mv R (.op (O.ex Z R R R) R (.op (O.ex Z R R R) R (.op (O.ex Z R R R) R (.sa R (.sa R (.sa R (.nil (.seqN (.seq ?_))))))))))))))))
            refine .sub (τ := ⟨[(34, .i r56.1), (30, .h 4), (28, .i r49.2.2), (27, .b r49.2.1), (26, .i r49.1), (9, .f qI o20), (7, .q 1 0)], [(4, ROW (rL qI) 22 r50.2.1), (1, .bx 27 [lF qI r5.1.1, lI r5.1.2.1, lF qI r5.1.2.2.1, lF qT r5.1.2.2.2, lF qI r5.2.1.1, lI r5.2.1.2.1, lF qI r5.2.1.2.2.1, lF qT r5.2.1.2.2.2, lF qI r5.2.2])], 6⟩) ?_ [] R
            refine bS hm fun x57 ex57 hm => bS hm fun r58 er58 hm => ?_
            refine .drw [(6, []), (6, []), (6, []), (6, [oF, oT, oT]), (6, [oF, oT, oT, oT]), (6, []), (6, [oT, oT, oT, oT, oT, oT]), (6, [oT, oT, oT, oT, oT, oT, oT])] [_, _, _, _, _, _, _, _] ⟨[(37, .i r58), (28, .i r49.2.2), (27, .b r49.2.1), (26, .i r49.1)], [], 6⟩ ⟨O.lg (l' := [lF qI r5.1.1, lI r5.1.2.1, lF qI r5.1.2.2.1, lF qT r5.1.2.2.2, lF qI r5.2.1.1, lI r5.2.1.2.1, lF qI r5.2.1.2.2.1, lF qT r5.2.1.2.2.2, lF qI r5.2.2]) ag27 Z R (.B R) R R R, O.mv Z R R, O.mv Z R R, O.ir sl34 Z R R R ex57 R, O.ld nag22 Z R (.R R ex57 lv22) R R, O.mv Z R R, O.ca0 (y4W er58) cf49 R R Z R R R, O.as Z R R, trivial⟩ (by kernel_rfl) R ?_
            refine .seqN (.seq (.reg (.mv R (.bi R (.mv R ?_)))))
            refine .cut 5 (fun (v59 : Bool) => ((r49.2.2 == 0) && (r49.2.1 == (decide (r58 ≥ 0)))) = v59) (fun v59 => ⟨[(234, .b v59), (37, .i r58), (26, .i r49.1)], [], 6⟩) ?_ ?_
            ·rintro _ rfl
             refine .mv R ?_
             refine .cut 5 (fun (v61 : Bool) => (((r49.2.2 == 0) && (r49.2.1 == (decide (r58 ≥ 0)))) && (r49.1 == (if r58 < 0 then 0 else r58))) = v61) (fun v61 => ⟨[(240, .b v61)], [], 6⟩) ?_ ?_
             ·rintro _ rfl
              refine .sa R (.nil (.seqN (.ret ?_)))
              obtain rfl := oi hm
              exact WX.rt [] (.inl R) Tryz.results10 (.tmp R .nil) R (fun _ _ _ h => h) trivial
             ·intro J62
              rcases Bool.eq_false_or_eq_true ((r49.2.2 == 0) && (r49.2.1 == (decide (r58 ≥ 0)))) with hc | hc
              ·refine .know (d := 235) R hc ?_
               exact .op (O.mv (Gu.mk R R) R R) R (.op (O.mv (Gu.mk R R) R R) R (.op (O.max (Gu.mk R R) R R R) R (.op (O.bi (Gu.mk R R) R R R R) R (.op (O.pkT Z R R R R) R ((J62 (r49.1 == (if r58 < 0 then 0 else r58)) (andT hc).symm).sub [] R)))))
              ·refine .know (d := 235) R hc ?_
               exact .sk R (.sk R (.sk R (.sk R (.op (O.pkF Z R R R R) R ((J62 false (andF hc).symm).sub [] R)))))
            ·intro J60
             rcases Bool.eq_false_or_eq_true (r49.2.2 == 0) with hc | hc
             ·refine .know (d := 229) R hc ?_
              exact .op (O.mv (Gu.mk R R) R R) R (.op (O.mv (Gu.mk R R) R R) R (.op (O.bi (Gu.mk R R) R R R R) R (.op (O.beq Tryz.underlying4 (Gu.mk R R) R R R) R (.op (O.pkT Z R R R R) R ((J60 (r49.2.1 == (decide (r58 ≥ 0))) (andT hc).symm).sub [] R)))))
             ·refine .know (d := 229) R hc ?_
              exact .sk R (.sk R (.sk R (.sk R (.op (O.pkF Z R R R R) R ((J60 false (andF hc).symm).sub [] R)))))
          refine .nlg qI 3 24 0 R R (.iter (fun (st46 : Int × List Int) => ⟨[(25, .i st46.1), (24, .h 0), (9, .f qI o20), (7, .q 1 0), (2, .f (rK .u8) p2)], [(0, ROW qI 3 st46.2), (1, .bx 27 [lF qI r5.1.1, lI r5.1.2.1, lF qI r5.1.2.2.1, lF qT r5.1.2.2.2, lF qI r5.2.1.1, lI r5.2.1.2.1, lF qI r5.2.1.2.2.1, lF qT r5.2.1.2.2.2, lF qI r5.2.2])], 2⟩) eo46 [(0, 1), (1, 0)] R ?_)
          intro st46 res46 hm ih46 ho46
          unfold yB at hm
          refine .seq (.seq (.reg (.mv R (.mv R (.op (O.len sl89 Z R R) R (.bi R (.mv R ?_)))))))
          refine .cut 3 (fun (v63 : Bool) => ((decide (st46.1 < (p2.length : Int))) && (decide (st46.1 < 5))) = v63) (fun v63 => ⟨[(165, .b v63), (25, .i st46.1), (24, .h 0), (9, .f qI o20), (7, .q 1 0), (2, .f (rK .u8) p2)], [(0, ROW qI 3 st46.2), (1, .bx 27 [lF qI r5.1.1, lI r5.1.2.1, lF qI r5.1.2.2.1, lF qT r5.1.2.2.2, lF qI r5.2.1.1, lI r5.2.1.2.1, lF qI r5.2.1.2.2.1, lF qT r5.2.1.2.2.2, lF qI r5.2.2])], 2⟩) ?_ ?_
          ·rintro _ rfl
           refine .nil (.seqN ?_)
           rcases ifS hm with ⟨hc, hm⟩ | ⟨hc, hm⟩
           ·refine .cT R hc ?_
            exact .skip (.seqN (.seq (.block (.reg (.mv R (.mv R (.mv R (bS hm fun x65 ex65 hm => .op (O.ix sl89 Z R R ex65 R) R (.op (O.ld nag5 Z R (.E lv5) R R) R (.op (O.rem Z R R (by decide) R) R (.op (O.cv Tryz.underlying5 Tryz.underlying3 Z R R) R (.op (O.bsF (r := qI) (zs := ([W (x65.tmod 5)] : List Int)) bs22 R R Z R R R (.c .k .n) R R R) R (bS hm fun x66 ex66 hm => .op (O.ap 2 Tryz.underlying22 el3 R R Z R R (.fr R) ex66 R) R (.sa R (.nil (.blkN (.seqN (.reg (.mv R (.bi R (.sa R (.nil ((ih46 _ (oi hm).symm).sub [(0, 2)] R)))))))))))))))))))))))
           ·refine .cF R hc ?_
            exact .exit (.seqX (.seqX ((K48 _ (ho46 _ (oi hm).symm)).sub [] R)))
          ·intro J64
           rcases Bool.eq_false_or_eq_true (decide (st46.1 < (p2.length : Int))) with hc | hc
           ·refine .know (d := 162) R hc ?_
            exact .op (O.mv (Gu.mk R R) R R) R (.op (O.bi (Gu.mk R R) R R R R) R (.op (O.pkT Z R R R R) R ((J64 (decide (st46.1 < 5)) (andT hc).symm).sub [] R)))
           ·refine .know (d := 162) R hc ?_
            exact .sk R (.sk R (.op (O.pkF Z R R R R) R ((J64 false (andF hc).symm).sub [] R)))
         ·intro Jj37
          refine .seq (.reg (.mv R (.op (O.not Z R R) R (.nil (.seqN ?_)))))
          rcases ifS hm with ⟨hc, hm⟩ | ⟨hc, hm⟩
          ·refine .cT R hc ?_
           refine .seq (.reg (.sa R (.nil (.seqN (.seq (.seq (.reg (.sa R (.nil (.seqN (.block (bS hm fun o72 eo72 hm => ?_))))))))))))
           refine .cut1 (z := .exit 2) o72 (fun (o72 : List Int) => ⟨[(19, .h 0), (18, .h 1), (17, .q 2 0), (14, .q 3 0), (9, .f qI o20), (7, .q 6 0), (2, .f (rK .u8) p2)], [(0, ROW qI 3 o72), (1, ROW qI 3 r26), (2, .bx 25 [lF qI r25.1, lI r25.2.1, lF qI r25.2.2.1, lF qT r25.2.2.2]), (3, .bx 38 [lI r24.1.1, lH 4, lH 5]), (4, ROW qI 3 r24.1.2.1), (5, ROW qI 3 r24.1.2.2), (6, .bx 27 [lF qI r5.1.1, lI r5.1.2.1, lF qI r5.1.2.2.1, lF qT r5.1.2.2.2, lF qI r5.2.1.1, lI r5.2.1.2.1, lF qI r5.2.1.2.2.1, lF qT r5.2.1.2.2.2, lF qI r5.2.2])], 7⟩) ?_ fun K74 => ?_
           ·skip
            refine .blkE (.seqN (.seq (.reg (.op (O.lg (l' := [lF qI r25.1, lI r25.2.1, lF qI r25.2.2.1, lF qT r25.2.2.2]) ag25 Z R (.B R) R R R) R (.mv R (.mv R (.fz 1 [143] [] R R fR R R (.fz 0 [144] [] R R fR R R (bS hm fun r75 er75 hm => .op (O.ca0 (y9U er75) cf47 R R Z R R R) R (.mv R (.op (O.ex Z R R R) R (.op (O.ex Z R R R) R (.op (O.ex Z R R R) R (.sa R (.sa R (.sa R (.nil (.seqN (.seq (.reg (.mv R (.bi R (.mv R (bS hm fun b76 eb76 hm => ?_))))))))))))))))))))))))
            refine .cut 6 (fun (v77 : Bool) => b76 = v77) (fun v77 => ⟨[(157, .b v77), (9, .f qI o20), (7, .q 6 0), (2, .f (rK .u8) p2)], [(6, .bx 27 [lF qI r5.1.1, lI r5.1.2.1, lF qI r5.1.2.2.1, lF qT r5.1.2.2.2, lF qI r5.2.1.1, lI r5.2.1.2.1, lF qI r5.2.1.2.2.1, lF qT r5.2.1.2.2.2, lF qI r5.2.2])], 7⟩) ?_ ?_
            ·rintro _ rfl
             refine .nil (.seqN ?_)
             rcases ifS hm with ⟨hc, hm⟩ | ⟨hc, hm⟩
             ·refine .cT R hc ?_
              refine .seq (.reg (.sa R (.nil (.seqN (.ret (.seqR ?_))))))
              obtain rfl := oi hm
              exact WX.rt [] (.inl R) Tryz.results10 (.tmp R .nil) R (fun _ _ _ h => h) trivial
             ·refine .cF R hc ?_
              exact .skip ((Jj37 hm).sub [(0, 6)] R)
            ·intro J78
             rcases ifS eb76 with ⟨hc, hm⟩ | ⟨hc, hm⟩
             ·refine .know (d := 151) R hc ?_
              exact .sk R (.sk R (.sk R (.sk R (.sk R (.op (O.pkT Z R R R R) R ((J78 true (oi hm).symm).sub [] R))))))
             ·refine .know (d := 151) R hc ?_
              exact .op (O.lg (l' := [lI r24.1.1, lH 4, lH 5]) ag38 (Gu.mk R R) R (.B R) R R R) R (.op (O.mv (Gu.mk R R) R R) R (.op (O.bu (l := [lI 3, lF qI r75.1, lN]) pl38 R (Gu.mk R R) R R R) R (bS hm fun r79 er79 hm => .op (O.caZ (y5m er79) cf48 R R (Gu.mk R R) R ⟨⟨R, .rf, .hr R, .hr R, trivial⟩, ⟨R, .rf, .rf, (.cv .rf (.nf (r := qI))), trivial⟩, trivial⟩ (fun _ _ _ _ _ h => h) R) R (.op (O.not (Gu.mk R R) R R) R (.op (O.pkF Z R R R R) R ((J78 (!r79) (oi hm).symm).sub [] R))))))
           refine .nlg qI 3 19 0 R R (.iter (fun (st72 : Int × List Int) => ⟨[(20, .i st72.1), (19, .h 0), (18, .h 1), (17, .q 2 0), (14, .q 3 0), (9, .f qI o20), (7, .q 6 0), (2, .f (rK .u8) p2)], [(0, ROW qI 3 st72.2), (1, ROW qI 3 r26), (2, .bx 25 [lF qI r25.1, lI r25.2.1, lF qI r25.2.2.1, lF qT r25.2.2.2]), (3, .bx 38 [lI r24.1.1, lH 4, lH 5]), (4, ROW qI 3 r24.1.2.1), (5, ROW qI 3 r24.1.2.2), (6, .bx 27 [lF qI r5.1.1, lI r5.1.2.1, lF qI r5.1.2.2.1, lF qT r5.1.2.2.2, lF qI r5.2.1.1, lI r5.2.1.2.1, lF qI r5.2.1.2.2.1, lF qT r5.2.1.2.2.2, lF qI r5.2.2])], 7⟩) eo72 [(0, 16), (1, 15), (2, 14), (3, 10), (4, 8), (5, 9), (6, 1)] R ?_)
           intro st72 res72 hm ih72 ho72
           unfold yD at hm
           refine .seq (.seq (.reg (.mv R (.op (O.faP yW Z R R) R (.op (O.ld nag3 Z R (.B R) R R) R (.bi R (.nil (.seqN ?_))))))))
           rcases ifS hm with ⟨hc, hm⟩ | ⟨hc, hm⟩
           ·refine .cT R hc ?_
            exact .skip (.seqN (.seq (.block (.reg (.mv R (.mv R (.op (O.bsF (r := qI) (zs := ([st72.1] : List Int)) bs22 R R Z R R R (.c .k .n) R R R) R (bS hm fun x80 ex80 hm => .op (O.ap 7 Tryz.underlying22 el3 R R Z R R (.fr R) ex80 R) R (.sa R (.nil (.blkN (.seqN (.reg (.mv R (.bi R (.sa R (.nil ((ih72 _ (oi hm).symm).sub [(0, 7)] R))))))))))))))))))
           ·refine .cF R hc ?_
            exact .exit (.seqX (.seqX ((K74 _ (ho72 _ (oi hm).symm)).sub [] R)))
          ·refine .cF R hc ?_
           exact .skip ((Jj37 hm).sub [(0, 1)] R)
       ·intro J36
        rcases ifS eb34 with ⟨hc, hm⟩ | ⟨hc, hm⟩
        ·refine .know (d := 121) R hc ?_
         exact .sk R (.sk R (.op (O.skipU R R R) R (.op (O.skipU R R R) R (.op (O.skipU R R R) R (.sk R (.op (O.pkT Z R R R R) R ((J36 true (oi hm).symm).sub [] R)))))))
        ·refine .know (d := 121) R hc ?_
         refine .op (O.mv (Gu.mk R R) R R) R (.op (O.mv (Gu.mk R R) R R) R (bS hm fun b81 eb81 hm => ?_))
         refine .cut 4 (fun (v82 : Bool) => b81 = v82) (fun v82 => ⟨[(127, .b v82), (121, .b false), (18, .h 15), (17, .q 14 0), (15, .b r24.2.1), (14, .q 10 0), (9, .f qI o20), (7, .q 1 0), (2, .f (rK .u8) p2)], [(15, ROW qI 3 r26), (14, .bx 25 [lF qI r25.1, lI r25.2.1, lF qI r25.2.2.1, lF qT r25.2.2.2]), (10, .bx 38 [lI r24.1.1, lH 8, lH 9]), (8, ROW qI 3 r24.1.2.1), (9, ROW qI 3 r24.1.2.2), (1, .bx 27 [lF qI r5.1.1, lI r5.1.2.1, lF qI r5.1.2.2.1, lF qT r5.1.2.2.2, lF qI r5.2.1.1, lI r5.2.1.2.1, lF qI r5.2.1.2.2.1, lF qT r5.2.1.2.2.2, lF qI r5.2.2])], 16⟩) ?_ ?_
         ·rintro _ rfl
          exact .op (O.pkF Z R R R R) R ((J36 b81 (oi hm).symm).sub [] R)
         ·intro J83
          rcases ifS eb81 with ⟨hc, hm⟩ | ⟨hc, hm⟩
          ·refine .know (d := 123) R hc ?_
           exact .op (O.lg (l' := [lI r24.1.1, lH 8, lH 9]) ag38 (Gu.mk R R) R (.B R) R R R) R (bS hm fun r84 er84 hm => .op (O.caZ (y7h er84) cf23 R R (Gu.mk R R) R ⟨⟨R, .rf, .hr R, .hr R, trivial⟩, trivial⟩ (fun _ _ _ _ _ h => h) R) R (.op (O.not (Gu.mk R R) R R) R (.op (O.pkT (Gu.mk R R) R R R R) R ((J83 (!r84) (oi hm).symm).sub [] R))))
          ·refine .know (d := 123) R hc ?_
           exact .sk R (.sk R (.sk R (.op (O.pkF (Gu.mk R R) R R R R) R ((J83 false (oi hm).symm).sub [] R))))
      ·intro J33
       rcases Bool.eq_false_or_eq_true b29 with hc | hc
       ·refine .know (d := 114) R hc ?_
        exact .sk R (.sk R (.sk R (.sk R (.sk R (.op (O.pkT Z R R R R) R ((J33 true (orT hc).symm).sub [] R))))))
       ·refine .know (d := 114) R hc ?_
        exact .op (O.mv (Gu.mk R R) R R) R (.op (O.mv (Gu.mk R R) R R) R (.op (O.lenH sl22 (Gu.mk R R) R R R) R (.op (O.bi (Gu.mk R R) R R R R) R (.op (O.bne Tryz.underlying4 (Gu.mk R R) R R R) R (.op (O.pkF Z R R R R) R ((J33 (r24.2.1 != ((r26.length : Int) == 0)) (orF hc).symm).sub [] R))))))
     ·intro J31
      rcases ifS eb29 with ⟨hc, hm⟩ | ⟨hc, hm⟩
      ·refine .know (d := 108) R hc ?_
       exact .sk R (.sk R (.sk R (.sk R (.op (O.pkT Z R R R R) R ((J31 true (oi hm).symm).sub [] R)))))
      ·refine .know (d := 108) R hc ?_
       exact .op (O.lg (l' := [lF qI r23.1.1, lI r23.1.2.1, lF qI r23.1.2.2.1, lF qT r23.1.2.2.2]) ag25 (Gu.mk R R) R (.B R) R R R) R (.op (O.lg (l' := [lF qI r25.1, lI r25.2.1, lF qI r25.2.2.1, lF qT r25.2.2.2]) ag25 (Gu.mk R R) R (.B R) R R R) R (bS hm fun r85 er85 hm => .op (O.ca0 (y8t er85) cf28 R R (Gu.mk R R) R R R) R (.op (O.not (Gu.mk R R) R R) R (.op (O.pkF Z R R R R) R ((J31 (!r85) (oi hm).symm).sub [] R)))))
    ·intro J28
     rcases Bool.eq_false_or_eq_true (r23.2 != 0) with hc | hc
     ·refine .know (d := 104) R hc ?_
      exact .sk R (.sk R (.op (O.pkT Z R R R R) R ((J28 true (orT hc).symm).sub [] R)))
     ·refine .know (d := 104) R hc ?_
      exact .op (O.mv (Gu.mk R R) R R) R (.op (O.bi (Gu.mk R R) R R R R) R (.op (O.pkF Z R R R R) R ((J28 (r24.2.2 != 0) (orF hc).symm).sub [] R)))
   refine .nlg qI 3 9 0 R R (.iter (fun (st20 : Int × List Int) => ⟨[(10, .i st20.1), (9, .h 0), (8, .h 1), (7, .q 2 0), (1, .f (rK .u8) p1), (2, .f (rK .u8) p2)], [(0, ROW qI 3 st20.2), (1, ROW qI 3 r6), (2, .bx 27 [lF qI r5.1.1, lI r5.1.2.1, lH 3, lH 4, lH 5, lI r5.2.1.2.1, lH 6, lH 7, lF qI r5.2.2]), (3, ROW qI 3 r5.1.2.2.1), (4, ROW qT 97 r5.1.2.2.2), (5, ROW qI 3 r5.2.1.1), (6, ROW qI 3 r5.2.1.2.2.1), (7, ROW qT 97 r5.2.1.2.2.2)], 8⟩) eo20 [(0, 9), (1, 8), (2, 7), (3, 1), (4, 2), (5, 3), (6, 4), (7, 5)] R ?_)
   intro st20 res20 hm ih20 ho20
   unfold yF at hm
   refine .seq (.seq (.reg (.mv R (.mv R (.op (O.len sl89 Z R R) R (.bi R (.mv R ?_)))))))
   refine .cut 4 (fun (v86 : Bool) => ((decide (st20.1 < (p1.length : Int))) && (decide ((r6.length : Int) > 0))) = v86) (fun v86 => ⟨[(62, .b v86), (10, .i st20.1), (9, .h 0), (8, .h 1), (7, .q 2 0), (1, .f (rK .u8) p1), (2, .f (rK .u8) p2)], [(0, ROW qI 3 st20.2), (1, ROW qI 3 r6), (2, .bx 27 [lF qI r5.1.1, lI r5.1.2.1, lH 3, lH 4, lH 5, lI r5.2.1.2.1, lH 6, lH 7, lF qI r5.2.2]), (3, ROW qI 3 r5.1.2.2.1), (4, ROW qT 97 r5.1.2.2.2), (5, ROW qI 3 r5.2.1.1), (6, ROW qI 3 r5.2.1.2.2.1), (7, ROW qT 97 r5.2.1.2.2.2)], 8⟩) ?_ ?_
   ·rintro _ rfl
    refine .nil (.seqN ?_)
    rcases ifS hm with ⟨hc, hm⟩ | ⟨hc, hm⟩
    ·refine .cT R hc ?_
     refine .skip (.seqN ?_)
     refine .join1 (fun (l88 : List Int) => yE st20 l88 = some res20) (fun l88 => ⟨[(9, .h 0), (10, .i st20.1), (8, .h 1), (7, .q 2 0), (1, .f (rK .u8) p1), (2, .f (rK .u8) p2)], [(0, ROW qI 3 l88), (1, ROW qI 3 r6), (2, .bx 27 [lF qI r5.1.1, lI r5.1.2.1, lH 3, lH 4, lH 5, lI r5.2.1.2.1, lH 6, lH 7, lF qI r5.2.2]), (3, ROW qI 3 r5.1.2.2.1), (4, ROW qT 97 r5.1.2.2.2), (5, ROW qI 3 r5.2.1.1), (6, ROW qI 3 r5.2.1.2.2.1), (7, ROW qT 97 r5.2.1.2.2.2)], 8⟩) ?_ ?_
     ·intro l88 hm
      unfold yE at hm
      exact .reg (.mv R (.bi R (.sa R (.nil ((ih20 _ (oi hm).symm).sub [] R)))))
     ·intro Jj89
      refine .block (.seq (.reg (.mv R (.mv R (.mv R (bS hm fun x90 ex90 hm => .op (O.ix sl89 Z R R ex90 R) R (.op (O.ld nag5 Z R (.E lv5) R R) R (.op (O.cv Tryz.underlying5 Tryz.underlying3 Z R R) R (.mv R (.op (O.lenH sl22 Z R R R) R (bS hm fun _ z91 hm => .op (O.rem Z R R (ybs z91) R) R (bS hm fun x92 ex92 hm => .op (O.ir sl22 Z R R R ex92 R) R (.op (O.ld nag3 Z R (.R R ex92 lv3) R R) R (.sa R (.nil (.seqN (.seq (.reg (.mv R (.mv R (bS hm fun r93 er93 hm => .op (O.caZ (y3N er93) cf45 R R Z R ⟨⟨R, .hr R, trivial⟩, ⟨R, LnL.rf⟩, trivial⟩ (fun _ _ _ _ _ h => h) R) R (.op (O.not Z R R) R (.nil (.seqN ?_))))))))))))))))))))))))
      rcases ifS hm with ⟨hc, hm⟩ | ⟨hc, hm⟩
      ·refine .cT R hc ?_
       exact .reg (.mv R (.mv R (.op (O.bsF (r := qI) (zs := ([x92] : List Int)) bs22 R R Z R R R (.c .k .n) R R R) R (bS hm fun x94 ex94 hm => .op (O.ap 8 Tryz.underlying22 el3 R R Z R R (.fr R) ex94 R) R (.sa R (.nil (.blkN ((Jj89 _ hm).sub [(0, 8)] R))))))))
      ·refine .cF R hc ?_
       exact .skip (.blkN ((Jj89 _ hm).sub [] R))
    ·refine .cF R hc ?_
     exact .exit (.seqX (.seqX ((K22 _ (ho20 _ (oi hm).symm)).sub [(1, 2), (2, 3), (3, 4), (4, 5), (5, 6), (6, 7)] R)))
   ·intro J87
    rcases Bool.eq_false_or_eq_true (decide (st20.1 < (p1.length : Int))) with hc | hc
    ·refine .know (d := 58) R hc ?_
     exact .op (O.mv (Gu.mk R R) R R) R (.op (O.lenH sl22 (Gu.mk R R) R R R) R (.op (O.bi (Gu.mk R R) R R R R) R (.op (O.pkT Z R R R R) R ((J87 (decide ((r6.length : Int) > 0)) (andT hc).symm).sub [] R))))
    ·refine .know (d := 58) R hc ?_
     exact .sk R (.sk R (.sk R (.op (O.pkF Z R R R R) R ((J87 false (andF hc).symm).sub [] R))))
 ·intro J3
  rcases Bool.eq_false_or_eq_true (!r1) with hc | hc
  ·refine .know (d := 40) R hc ?_
   exact .sk R (.sk R (.sk R (.op (O.pkT Z R R R R) R ((J3 true (orT hc).symm).sub [] R))))
  ·refine .know (d := 40) R hc ?_
   exact .op (O.mv (Gu.mk R R) R R) R (.op (O.len sl89 (Gu.mk R R) R R) R (.op (O.bi (Gu.mk R R) R R R R) R (.op (O.pkF Z R R R R) R ((J3 (decide ((p1.length : Int) > 8)) (orF hc).symm).sub [] R))))
end
end Go.Proofs.YtidakgbibobbdaaGreatDoor
namespace Go.Proofs.YtidakgbibobbdaaGreatDoor
def wval (u : List Int) : Int := u.foldl (fun acc e => 33 * acc + e + 1) 0
theorem y2n (u : List Int) (e : Int) : wval (u ++ [e]) = 33 * wval u + e + 1 := by simp [wval, List.foldl_append]
def Evs (u : List Int) : Prop := ∀ e ∈ u, 0 ≤ e ∧ e < 32
theorem Evs.nil : Evs [] := fun e h => by cases h
theorem Evs.snoc {u : List Int} {e : Int} (h : Evs u) (h0 : 0 ≤ e) (h1 : e < 32) : Evs (u ++ [e]) := by
 intro x hx
 rcases List.mem_append.1 hx with h2 | h2
 ·exact h x h2
 ·rw [List.mem_singleton.1 h2]; exact ⟨h0, h1⟩
theorem Evs.of_snoc {u : List Int} {e : Int} (h : Evs (u ++ [e])) : Evs u ∧ 0 ≤ e ∧ e < 32 :=
 ⟨fun x hx => h x (List.mem_append_left _ hx), h e (by simp)⟩
theorem y6P {α : Type} {P : List α → Prop} (h0 : P []) (h1 : ∀ u e, P u → P (u ++ [e])) (u : List α) : P u := by
 have h2 : ∀ n (u : List α), u.length = n → P u := by
  intro n
  induction n with
  | zero => intro u hu; rw [List.eq_nil_of_length_eq_zero hu]; exact h0
  | succ n ih =>
   intro u hu
   rcases List.eq_nil_or_concat u with rfl | ⟨l, b, rfl⟩
   ·cases hu
   ·have hl : l.length = n := by simpa using hu
    simpa using h1 l b (ih l hl)
 exact h2 _ u rfl
theorem y5p (u : List Int) : Evs u → 0 ≤ wval u := by
 refine y6P (P := fun u => Evs u → 0 ≤ wval u) (fun _ => Int.le_refl 0) (fun u e ih h => ?_) u
 have h1 := h.of_snoc
 have := ih h1.1
 rw [y2n]; omega
theorem ydF (u : List Int) : ∀ v, Evs u → Evs v → wval u = wval v → u = v := by
 refine y6P (P := fun u => ∀ v, Evs u → Evs v → wval u = wval v → u = v) ?_ ?_ u
 ·intro v _ hv he
  rcases List.eq_nil_or_concat v with rfl | ⟨l, b, rfl⟩
  ·rfl
  ·rw [List.concat_eq_append] at hv he
   have h1 := hv.of_snoc
   have h2 := y5p l h1.1
   rw [y2n] at he
   have h3 : wval [] = 0 := rfl
   omega
 ·intro u e ih v hu hv he
  have g1 := hu.of_snoc
  have g2 := y5p u g1.1
  rw [y2n] at he
  rcases List.eq_nil_or_concat v with rfl | ⟨l, b, rfl⟩
  ·have h3 : wval [] = 0 := rfl
   omega
  ·rw [List.concat_eq_append] at hv he ⊢
   have h1 := hv.of_snoc
   rw [y2n] at he
   have e1 : wval u = wval l := by omega
   have e2 : e = b := by omega
   rw [ih l g1.1 h1.1 e1, e2]
def Leads (es : List Ed) (perm : Ed → Bool) (s : Int) : List Int → Int → Prop
 | [], t => s = t
 | e :: u, t => ∃ x ∈ es, x.f = s ∧ x.e = e ∧ perm x = true ∧ Leads es perm x.t u t
theorem Leads.snoc {es : List Ed} {perm : Ed → Bool} : ∀ {u : List Int} {s t : Int}, Leads es perm s u t → ∀ {x : Ed}, x ∈ es → x.f = t → perm x = true → Leads es perm s (u ++ [x.e]) x.t
 | [], s, t, h, x, hx, hf, hp => ⟨x, hx, by rw [hf]; exact h.symm, rfl, hp, rfl⟩
 | e :: u, s, t, ⟨y, hy, h1, h2, h3, h4⟩, x, hx, hf, hp => ⟨y, hy, h1, h2, h3, h4.snoc hx hf hp⟩
theorem Leads.of_snoc {es : List Ed} {perm : Ed → Bool} {e : Int} : ∀ {u : List Int} {s t : Int}, Leads es perm s (u ++ [e]) t → ∃ x ∈ es, Leads es perm s u x.f ∧ x.e = e ∧ x.t = t ∧ perm x = true
 | [], s, t, ⟨y, hy, h1, h2, h3, h4⟩ => ⟨y, hy, h1.symm, h2, h4, h3⟩
 | a :: u, s, t, ⟨y, hy, h1, h2, h3, h4⟩ => by
  obtain ⟨x, hx, g1, g2, g3, g4⟩ := Leads.of_snoc (u := u) h4
  exact ⟨x, hx, ⟨y, hy, h1, h2, h3, g1⟩, g2, g3, g4⟩
def EvEs (es : List Ed) : Prop := ∀ x ∈ es, 0 ≤ x.e ∧ x.e < 32
theorem Leads.evs {es : List Ed} {perm : Ed → Bool} (he : EvEs es) : ∀ {u : List Int} {s t : Int}, Leads es perm s u t → Evs u
 | [], _, _, _ => Evs.nil
 | e :: u, s, t, ⟨y, hy, h1, h2, h3, h4⟩ => by
  intro z hz
  rcases List.mem_cons.1 hz with rfl | hz
  ·rw [← h2]; exact he y hy
  ·exact Leads.evs he h4 z hz
structure Found (es : List Ed) (perm : Ed → Bool) (s : Int) (L : List (List Int × Int)) (b : Int) : Prop where
 lead : ∀ r ∈ L, Leads es perm s r.1 r.2
 sorted : ∀ j k : Nat, j < k → ∀ r r' : List Int × Int, L[j]? = some r → L[k]? = some r' → wval r.1 < wval r'.1
 bd : ∀ r ∈ L, wval r.1 ≤ b
def y4l (es : List Ed) (perm : Ed → Bool) (L : List (List Int × Int)) (m i : Nat) : Prop :=
 ∀ j : Nat, j < i → ∀ r : List Int × Int, L[j]? = some r → ∀ x ∈ es, x.f = r.2 → perm x = true → ∃ k : Nat, m ≤ k ∧ ∃ r' : List Int × Int, L[k]? = some r' ∧ r'.2 = x.t ∧ wval r'.1 ≤ 33 * wval r.1 + x.e + 1
section
variable {es : List Ed} {perm : Ed → Bool} {s : Int} {L : List (List Int × Int)} {b : Int} {m i : Nat}
theorem Found.push (h : Found es perm s L b) {w : List Int} {t : Int} (hl : Leads es perm s w t) (hb : b < wval w) : Found es perm s (L ++ [(w, t)]) (wval w) := by
 refine ⟨fun r hr => ?_, fun j k hjk r r' hj hk => ?_, fun r hr => ?_⟩
 ·rcases List.mem_append.1 hr with h1 | h1
  ·exact h.lead r h1
  ·rw [List.mem_singleton.1 h1]; exact hl
 ·by_cases hk2 : k < L.length
  ·rw [List.getElem?_append_left hk2] at hk
   rw [List.getElem?_append_left (by omega)] at hj
   exact h.sorted j k hjk r r' hj hk
  ·rw [List.getElem?_append_right (by omega)] at hk
   have h3 : k - L.length = 0 := by
    by_cases h4 : k - L.length = 0
    ·exact h4
    ·rw [List.getElem?_eq_none (by simp; omega)] at hk; cases hk
   rw [h3] at hk
   simp only [List.getElem?_cons_zero, Option.some.injEq] at hk
   subst hk
   rw [List.getElem?_append_left (by omega)] at hj
   have := h.bd r (List.mem_of_getElem? hj)
   dsimp only; omega
 ·rcases List.mem_append.1 hr with h1 | h1
  ·have := h.bd r h1; omega
  ·rw [List.mem_singleton.1 h1]; exact Int.le_refl _
theorem Found.mono (h : Found es perm s L b) {j k : Nat} (hjk : j ≤ k) {r r' : List Int × Int} (hj : L[j]? = some r) (hk : L[k]? = some r') : wval r.1 ≤ wval r'.1 := by
 by_cases e : j = k
 ·subst e; rw [hj] at hk; cases hk; exact Int.le_refl _
 ·exact Int.le_of_lt (h.sorted j k (by omega) r r' hj hk)
theorem y4l.append (h : y4l es perm L m i) (hi : i ≤ L.length) (M : List (List Int × Int)) : y4l es perm (L ++ M) m i := by
 intro j hj r hr x hx hf hp
 rw [List.getElem?_append_left (by omega)] at hr
 obtain ⟨k, hk, r', hr', h1, h2⟩ := h j hj r hr x hx hf hp
 refine ⟨k, hk, r', ?_, h1, h2⟩
 rw [List.getElem?_append_left (by have := (List.getElem?_eq_some_iff.1 hr').1; omega)]
 exact hr'
theorem y4l.place (he : EvEs es) (hF : Found es perm s L b) (hC : y4l es perm L m i) (h0 : L[0]? = some ([], s)) (u : List Int) :
  ∀ t, Leads es perm s u t → (∃ (k : Nat) (r : List Int × Int), (u = [] ∨ m ≤ k) ∧ L[k]? = some r ∧ r.2 = t ∧ wval r.1 ≤ wval u) ∨ (∃ r : List Int × Int, L[i]? = some r ∧ wval r.1 < wval u) ∨ L.length ≤ i := by
 induction u using y6P with
 | h0 =>
  intro t ht
  refine .inl ⟨0, _, .inl rfl, h0, ht, Int.le_refl _⟩
 | h1 u e ih =>
  intro t ht
  by_cases hil : L.length ≤ i
  ·exact .inr (.inr hil)
  obtain ⟨x, hx, g1, rfl, rfl, g4⟩ := ht.of_snoc
  have hxe := he x hx
  have hi : L[i]? = some L[i] := yGe (by omega)
  have hu := y5p u (g1.evs he)
  rcases ih x.f g1 with ⟨k, r, hk0, hk, hr, hle⟩ | ⟨r, hk, hle⟩ | h3
  ·by_cases hki : k < i
   ·obtain ⟨k', hk', r', h1, h2, h3⟩ := hC k hki r hk x hx hr.symm g4
    refine .inl ⟨k', r', .inr hk', h1, h2, ?_⟩
    rw [y2n]; omega
   ·refine .inr (.inl ⟨_, hi, ?_⟩)
    have := hF.mono (show i ≤ k by omega) hi hk
    rw [y2n]; omega
  ·refine .inr (.inl ⟨r, hk, ?_⟩)
   rw [y2n]; omega
  ·exact .inr (.inr h3)
theorem y4l.all (_he : EvEs es) (hC : y4l es perm L m L.length) (h0 : L[0]? = some ([], s)) (u : List Int) :
  ∀ t, Leads es perm s u t → ∃ (k : Nat) (r : List Int × Int), (u = [] ∨ m ≤ k) ∧ L[k]? = some r ∧ r.2 = t ∧ wval r.1 ≤ wval u := by
 induction u using y6P with
 | h0 =>
  intro t ht
  exact ⟨0, _, .inl rfl, h0, ht, Int.le_refl _⟩
 | h1 u e ih =>
  intro t ht
  obtain ⟨x, hx, g1, rfl, rfl, g4⟩ := ht.of_snoc
  obtain ⟨k, r, hk0, hk, hr, hle⟩ := ih x.f g1
  obtain ⟨k', hk', r', h1, h2, h3⟩ := hC k (List.getElem?_eq_some_iff.1 hk).1 r hk x hx hr.symm g4
  refine ⟨k', r', .inr hk', h1, h2, ?_⟩
  rw [y2n]; omega
structure Least (es : List Ed) (perm : Ed → Bool) (want : Int → Bool) (s : Int) (least : Nat) (w : List Int) : Prop where
 ev : Evs w
 len : least ≤ w.length
 leads : ∃ t, Leads es perm s w t ∧ want t = true
 le : ∀ u t, Leads es perm s u t → want t = true → least ≤ u.length → wval w ≤ wval u
theorem Least.unique {want : Int → Bool} {least : Nat} {w w' : List Int} (h : Least es perm want s least w) (h' : Least es perm want s least w') : w = w' := by
 obtain ⟨t, h1, h2⟩ := h.leads
 obtain ⟨t', h1', h2'⟩ := h'.leads
 exact ydF w w' h.ev h'.ev (Int.le_antisymm (h.le _ _ h1' h2' h'.len) (h'.le _ _ h1 h2 h.len))
theorem Found.least {want : Int → Bool} (he : EvEs es) (hF : Found es perm s L b) (hC : y4l es perm L 0 i) (h0 : L[0]? = some ([], s)) {r : List Int × Int} (hi : L[i]? = some r) (hw : want r.2 = true)
  (hn : ∀ j : Nat, j < i → ∀ r : List Int × Int, L[j]? = some r → want r.2 = false) : Least es perm want s 0 r.1 := by
 have hl := hF.lead r (List.mem_of_getElem? hi)
 refine ⟨hl.evs he, Nat.zero_le _, ⟨_, hl, hw⟩, fun u t hu ht _ => ?_⟩
 rcases hC.place he hF h0 u t hu with ⟨k, r', hk0, hk, hr, hle⟩ | ⟨r', hk, hle⟩ | h3
 ·by_cases hki : k < i
  ·have := hn k hki r' hk
   rw [hr, ht] at this; cases this
  ·have := hF.mono (show i ≤ k by omega) hi hk; omega
 ·rw [hi] at hk; cases hk; omega
 ·have := (List.getElem?_eq_some_iff.1 hi).1; omega
theorem y4l.none {want : Int → Bool} (he : EvEs es) (hC : y4l es perm L 0 L.length) (h0 : L[0]? = some ([], s)) (hn : ∀ (j : Nat) (r : List Int × Int), L[j]? = some r → want r.2 = false) :
  ∀ u t, Leads es perm s u t → want t = false := by
 intro u t hu
 obtain ⟨k, r, _, hk, rfl, _⟩ := hC.all he h0 u t hu
 exact hn k r hk
end
def edLt (x y : Ed) : Prop := x.f < y.f ∨ (x.f = y.f ∧ x.e < y.e)
def y5q (es : List Ed) : Prop := es.Pairwise edLt
theorem y9A : ∀ (es : List Ed), es.Pairwise (fun x y => x.f ≤ y.f) → ∀ s : Int, es.drop (es.countP fun x => decide (x.f < s)) = es.filter fun x => !decide (x.f < s)
 | [], _, _ => rfl
 | x :: l, h, s => by
  obtain ⟨h1, h2⟩ := List.pairwise_cons.1 h
  by_cases hx : x.f < s
  ·rw [List.countP_cons_of_pos (by simpa using hx), List.drop_succ_cons, y9A l h2 s, List.filter_cons_of_neg (by simpa using hx)]
  ·have h3 : ∀ y ∈ l, ¬ y.f < s := fun y hy => by have := h1 y hy; omega
   have h4 : l.countP (fun x => decide (x.f < s)) = 0 := by
    rw [List.countP_eq_zero]; intro y hy; simpa using h3 y hy
   rw [List.countP_cons_of_neg (by simpa using hx), h4, List.drop_zero]
   symm
   rw [List.filter_eq_self]
   intro y hy
   rcases List.mem_cons.1 hy with rfl | hy
   ·simpa using hx
   ·simpa using h3 y hy
theorem y9B : ∀ (es : List Ed), es.Pairwise (fun x y => x.f ≤ y.f) → ∀ s : Int, es.take (es.countP fun x => decide (x.f < s)) = es.filter fun x => decide (x.f < s)
 | [], _, _ => rfl
 | x :: l, h, s => by
  obtain ⟨h1, h2⟩ := List.pairwise_cons.1 h
  by_cases hx : x.f < s
  ·rw [List.countP_cons_of_pos (by simpa using hx), List.take_succ_cons, y9B l h2 s, List.filter_cons_of_pos (by simpa using hx)]
  ·have h3 : ∀ y ∈ l, ¬ y.f < s := fun y hy => by have := h1 y hy; omega
   have h4 : l.countP (fun x => decide (x.f < s)) = 0 := by
    rw [List.countP_eq_zero]; intro y hy; simpa using h3 y hy
   rw [List.countP_cons_of_neg (by simpa using hx), h4, List.take_zero]
   symm
   rw [List.filter_eq_nil_iff]
   intro y hy
   rcases List.mem_cons.1 hy with rfl | hy
   ·simpa using hx
   ·simpa using h3 y hy
theorem y5q.le {es : List Ed} (h : y5q es) : es.Pairwise (fun x y => x.f ≤ y.f) := List.Pairwise.imp (fun {x y} (h : edLt x y) => by unfold edLt at h; omega) h
theorem ydG {es : List Ed} (h : y5q es) (s : Int) : subOf es s = es.filter fun x => decide (x.f = s) := by
 have h1 := y9B es h.le (s + 1)
 have h2 : (es.filter fun x => decide (x.f < s + 1)).Pairwise (fun x y => x.f ≤ y.f) := h.le.filter _
 have h3 := y9A _ h2 s
 have h4 : (es.filter fun x => decide (x.f < s + 1)).countP (fun x => decide (x.f < s)) = es.countP fun x => decide (x.f < s) := by
  rw [List.countP_filter]
  apply List.countP_congr
  intro x _
  simp only [Bool.and_eq_true, decide_eq_true_eq]
  omega
 rw [h4, ← h1, List.drop_take] at h3
 rw [subOf, edSub, fstN, fstN, h3, h1, List.filter_filter]
 apply List.filter_congr
 intro x _
 rw [Bool.eq_iff_iff]
 simp only [Bool.and_eq_true, Bool.not_eq_true', decide_eq_true_eq, decide_eq_false_iff_not]
 omega
theorem y8I {steps : List St} {y : St} (hp : ∀ j (h : j < steps.length), -1 ≤ steps[j].p ∧ steps[j].p < j) : ∀ (f k : Nat), k < steps.length → back (steps ++ [y]) f k = back steps f k
 | 0, _, _ => rfl
 | f + 1, k, hk => by
  rw [back, back, Int.toNat_natCast, List.getElem?_append_left hk, yGe hk]
  dsimp only
  split
  ·rename_i h0
   have := hp k hk
   obtain ⟨p, hpe⟩ := Int.eq_ofNat_of_zero_le h0
   rw [hpe] at this ⊢
   rw [y8I hp f p (by omega)]
  ·rfl
structure PW (es : List Ed) (perm : Ed → Bool) (from_ n i : Nat) (seen : List Bool) (steps : List St) (L : List (List Int × Int)) (b : Int) : Prop where
 pok : POk n seen steps
 len : steps.length = L.length
 st : ∀ (k : Nat) (r : List Int × Int), L[k]? = some r → ∃ x, steps[k]? = some x ∧ x.s = r.2 ∧ ∀ f, k < f → back steps f k = r.1.reverse
 seen : ∀ t : Nat, t < n → seen[t]? = some true → ∃ (k : Nat) (r : List Int × Int), L[k]? = some r ∧ r.2 = t
 found : Found es perm from_ L b
 follow : y4l es perm L 0 i
 zero : L[0]? = some ([], (from_ : Int))
 lt : i ≤ L.length
theorem PW.fold {es : List Ed} {perm : Ed → Bool} {from_ n i : Nat} (hes : ∀ x ∈ es, 0 ≤ x.t ∧ x.t < (n : Int)) (he : EvEs es) (r : List Int × Int) : ∀ (l done : List Ed) {seen : List Bool} {steps : List St} {L : List (List Int × Int)} {b : Int},
  PW es perm from_ n i seen steps L b → L[i]? = some r → es.filter (fun x => decide (x.f = r.2)) = done ++ l → l.Pairwise (fun x y => x.e < y.e) → (∀ x ∈ l, b < 33 * wval r.1 + x.e + 1) → b ≤ 33 * wval r.1 + 32 →
  (∀ x ∈ done, perm x = true → ∃ (k : Nat) (r' : List Int × Int), L[k]? = some r' ∧ r'.2 = x.t ∧ wval r'.1 ≤ 33 * wval r.1 + x.e + 1) →
  ∃ L' b', PW es perm from_ n (i + 1) (l.foldl (pStep perm i) (seen, steps)).1 (l.foldl (pStep perm i) (seen, steps)).2 L' b' ∧ b' ≤ 33 * wval r.1 + 32 ∧ ∃ M, L' = L ++ M
 | [], done, seen, steps, L, b, h, hi, hf, hs, hb, hb2, hd => by
  refine ⟨L, b, ⟨h.pok, h.len, h.st, h.seen, h.found, fun j hj r' hr x hx hxf hp => ?_, h.zero, ?_⟩, hb2, [], (List.append_nil _).symm⟩
  ·by_cases hji : j < i
   ·exact h.follow j hji r' hr x hx hxf hp
   ·obtain rfl : j = i := by omega
    rw [hi] at hr
    cases hr
    have hmem : x ∈ done := by
     have : x ∈ es.filter (fun x => decide (x.f = r.2)) := List.mem_filter.2 ⟨hx, by simpa using hxf⟩
     rw [hf, List.append_nil] at this
     exact this
    obtain ⟨k, r', h1, h2, h3⟩ := hd x hmem hp
    exact ⟨k, Nat.zero_le _, r', h1, h2, h3⟩
  ·have := (List.getElem?_eq_some_iff.1 hi).1; omega
 | x :: l, done, seen, steps, L, b, h, hi, hf, hs, hb, hb2, hd => by
  obtain ⟨hs1, hs2⟩ := List.pairwise_cons.1 hs
  have hxm : x ∈ es.filter (fun x => decide (x.f = r.2)) := by rw [hf]; simp
  obtain ⟨hxe, hxf⟩ := List.mem_filter.1 hxm
  have hxf : x.f = r.2 := by simpa using hxf
  have hxt := hes x hxe
  have hxv := he x hxe
  have hxb := hb x (List.mem_cons_self ..)
  have hf' : es.filter (fun x => decide (x.f = r.2)) = (done ++ [x]) ++ l := by rw [hf]; simp
  have hil : i < L.length := (List.getElem?_eq_some_iff.1 hi).1
  rw [List.foldl_cons]
  have hlt : x.t.toNat < seen.length := by rw [h.pok.len]; omega
  have hsv : seen[x.t.toNat]? = some seen[x.t.toNat] := yGe hlt
  by_cases hc : seen[x.t.toNat]?.getD true = false ∧ perm x = true
  ·have hst : pStep perm i (seen, steps) x = (seen.set x.t.toNat true, steps ++ [⟨x.t, i, x.e⟩]) := by unfold pStep; rw [if_pos hc]
   have hsf : seen[x.t.toNat]? = some false := by
    have := hc.1; rw [hsv] at this ⊢; simpa using this
   have hpok := h.pok.push (i := i) (by rw [h.len]; exact hil) x.t x.e hxt.1 hxt.2 hsf
   have hlead : Leads es perm from_ r.1 r.2 := h.found.lead r (List.mem_of_getElem? hi)
   have hF := h.found.push (hlead.snoc hxe hxf hc.2) (by rw [y2n]; omega)
   rw [y2n] at hF
   rw [hst]
   have hnew : PW es perm from_ n i (seen.set x.t.toNat true) (steps ++ [⟨x.t, i, x.e⟩]) (L ++ [(r.1 ++ [x.e], x.t)]) (33 * wval r.1 + x.e + 1) := by
    refine ⟨hpok, by simp [h.len], ?_, ?_, hF, h.follow.append h.lt _, ?_, ?_⟩
    ·intro k r' hr'
     by_cases hk : k < L.length
     ·rw [List.getElem?_append_left hk] at hr'
      obtain ⟨y, h1, h2, h3⟩ := h.st k r' hr'
      refine ⟨y, by rw [List.getElem?_append_left (by rw [h.len]; exact hk)]; exact h1, h2, fun f hf => ?_⟩
      rw [y8I h.pok.parent f k (by rw [h.len]; exact hk)]
      exact h3 f hf
     ·have hkl : k = L.length := by
       have := (List.getElem?_eq_some_iff.1 hr').1; simp at this; omega
      subst hkl
      rw [List.getElem?_append_right (Nat.le_refl _), Nat.sub_self] at hr'
      simp only [List.getElem?_cons_zero, Option.some.injEq] at hr'
      subst hr'
      refine ⟨⟨x.t, i, x.e⟩, by rw [List.getElem?_append_right (by rw [h.len]; exact Nat.le_refl _), h.len, Nat.sub_self]; rfl, rfl, fun f hf => ?_⟩
      obtain ⟨f', rfl⟩ : ∃ f', f = f' + 1 := ⟨f - 1, by omega⟩
      obtain ⟨y, h1, h2, h3⟩ := h.st i r hi
      rw [back, Int.toNat_natCast, List.getElem?_append_right (by rw [h.len]; exact Nat.le_refl _), h.len, Nat.sub_self]
      simp only [List.getElem?_cons_zero]
      rw [if_pos (by omega), y8I h.pok.parent f' i (by rw [h.len]; exact hil), h3 f' (by omega)]
      simp
    ·intro t ht hseen
     by_cases htx : x.t.toNat = t
     ·exact ⟨L.length, (r.1 ++ [x.e], x.t), by simp, by dsimp only; omega⟩
     ·rw [List.getElem?_set_ne htx] at hseen
      obtain ⟨k, r', h1, h2⟩ := h.seen t ht hseen
      exact ⟨k, r', by rw [List.getElem?_append_left (List.getElem?_eq_some_iff.1 h1).1]; exact h1, h2⟩
    ·rw [List.getElem?_append_left (by omega)]; exact h.zero
    ·have := h.lt; simp; omega
   obtain ⟨L', b', g1, g2, M, g3⟩ := PW.fold hes he r l (done ++ [x]) hnew (by rw [List.getElem?_append_left hil]; exact hi) hf' hs2 (fun y hy => by have := hs1 y hy; omega) (by omega) (fun y hy hp => by
    rcases List.mem_append.1 hy with hy | hy
    ·obtain ⟨k, r', h1, h2, h3⟩ := hd y hy hp
     exact ⟨k, r', by rw [List.getElem?_append_left (List.getElem?_eq_some_iff.1 h1).1]; exact h1, h2, h3⟩
    ·rw [List.mem_singleton.1 hy]
     exact ⟨L.length, (r.1 ++ [x.e], x.t), by simp, rfl, by rw [y2n]; exact Int.le_refl _⟩)
   exact ⟨L', b', g1, g2, [(r.1 ++ [x.e], x.t)] ++ M, by rw [g3, List.append_assoc]⟩
  ·have hst : pStep perm i (seen, steps) x = (seen, steps) := by unfold pStep; rw [if_neg hc]
   rw [hst]
   refine PW.fold hes he r l (done ++ [x]) h hi hf' hs2 (fun y hy => hb y (List.mem_cons_of_mem _ hy)) hb2 (fun y hy hp => ?_)
   rcases List.mem_append.1 hy with hy | hy
   ·exact hd y hy hp
   ·rw [List.mem_singleton.1 hy] at hp ⊢
    have hst : seen[x.t.toNat]? = some true := by
     rw [hsv] at hc ⊢
     simp only [Option.getD_some] at hc
     cases hb : seen[x.t.toNat] with
     | true => rfl
     | false => exact absurd ⟨hb, hp⟩ hc
    obtain ⟨k, r', h1, h2⟩ := h.seen x.t.toNat (by omega) hst
    refine ⟨k, r', h1, by omega, ?_⟩
    have := h.found.bd r' (List.mem_of_getElem? h1)
    omega
def yer (es : List Ed) (perm : Ed → Bool) (want : Int → Bool) (from_ : Nat) : Option (List St × Nat) → Prop
 | some r => ∃ w, back r.1 (r.2 + 1) r.2 = w.reverse ∧ Least es perm want from_ 0 w
 | none => ∀ u t, Leads es perm from_ u t → want t = false
theorem PW.bfs {es : List Ed} {perm : Ed → Bool} {want : Int → Bool} {from_ n : Nat} (hso : y5q es) (hes : ∀ x ∈ es, 0 ≤ x.t ∧ x.t < (n : Int)) (he : EvEs es) : ∀ (f i : Nat) {seen : List Bool} {steps : List St} {L : List (List Int × Int)} {b : Int},
  PW es perm from_ n i seen steps L b → n + 1 - i ≤ f → (∀ r, L[i]? = some r → b ≤ 33 * wval r.1) → (∀ j, j < i → ∀ r : List Int × Int, L[j]? = some r → want r.2 = false) →
  yer es perm want from_ (Go.Proofs.YtidakgbibobbdaaGreatDoor.bfs (subOf es) want perm f i seen steps)
 | 0, i, seen, steps, L, b, h, hf, _, _ => by
  have h1 := h.pok.le
  have h2 := h.len
  have h3 := h.lt
  omega
 | f + 1, i, seen, steps, L, b, h, hf, hb, hn => by
  by_cases hi : i < steps.length
  ·have hiL : i < L.length := by rw [← h.len]; exact hi
   have hr : L[i]? = some L[i] := yGe hiL
   obtain ⟨x, h1, h2, h3⟩ := h.st i L[i] hr
   rw [yGe hi] at h1
   cases h1
   cases hw : want steps[i].s with
   | true =>
    rw [yag hi hw]
    exact ⟨L[i].1, h3 (i + 1) (by omega), h.found.least he h.follow h.zero hr (by rw [← h2]; exact hw) hn⟩
   | false =>
    rw [yaV hi hw, ydG hso]
    have hpw : (es.filter fun x => decide (x.f = L[i].2)).Pairwise (fun x y => x.e < y.e) := by
     have h4 : (es.filter fun x => decide (x.f = L[i].2)).Pairwise edLt := List.Pairwise.filter _ hso
     refine List.Pairwise.imp_of_mem ?_ h4
     intro x y hx hy hxy
     have e1 := (List.mem_filter.1 hx).2
     have e2 := (List.mem_filter.1 hy).2
     simp only [decide_eq_true_eq] at e1 e2
     unfold edLt at hxy
     omega
    have hb1 := hb _ hr
    obtain ⟨L', b', g1, g2, M, rfl⟩ := PW.fold hes he L[i] (es.filter fun x => decide (x.f = L[i].2)) [] h hr (by simp) hpw (fun x hx => by have := he x (List.mem_filter.1 hx).1; omega) (by omega) (fun x hx => by cases hx)
    rw [h2]
    refine PW.bfs hso hes he f (i + 1) g1 (by omega) (fun r' hr' => ?_) (fun j hj r' hr' => ?_)
    ·have h5 := g1.found.sorted i (i + 1) (by omega) L[i] r' (by rw [List.getElem?_append_left hiL]; exact hr) hr'
     omega
    ·by_cases hji : j < i
     ·rw [List.getElem?_append_left (by omega)] at hr'
      exact hn j hji r' hr'
     ·obtain rfl : j = i := by omega
      rw [List.getElem?_append_left hiL, hr] at hr'
      cases hr'
      rw [← h2]; exact hw
  ·rw [ybC (by omega)]
   have hil : i = L.length := by have := h.lt; have := h.len; omega
   subst hil
   exact h.follow.none he h.zero (fun j r hr => hn j (List.getElem?_eq_some_iff.1 hr).1 r hr)
theorem yc5 {es : List Ed} {perm : Ed → Bool} {want : Int → Bool} {from_ n : Nat} (hso : y5q es) (hes : ∀ x ∈ es, 0 ≤ x.t ∧ x.t < (n : Int)) (he : EvEs es) (hf : from_ < n) :
  match pathF n es want perm from_ with
  | some w => Least es perm want from_ 0 w
  | none => ∀ u t, Leads es perm from_ u t → want t = false := by
 have h0 : PW es perm from_ n 0 ((List.replicate n false).set from_ true) [⟨from_, -1, -1⟩] [([], (from_ : Int))] 0 := by
  refine ⟨POk.start n from_ hf, rfl, ?_, ?_, ⟨?_, ?_, ?_⟩, fun j hj => absurd hj (by omega), rfl, Nat.zero_le _⟩
  ·intro k r hr
   cases k with
   | zero =>
    simp only [List.getElem?_cons_zero, Option.some.injEq] at hr
    subst hr
    refine ⟨_, rfl, rfl, fun f hf => ?_⟩
    obtain ⟨f', rfl⟩ : ∃ f', f = f' + 1 := ⟨f - 1, by omega⟩
    rfl
   | succ k => simp at hr
  ·intro t ht hs
   by_cases e : from_ = t
   ·subst e; exact ⟨0, _, rfl, rfl⟩
   ·rw [List.getElem?_set_ne e, List.getElem?_replicate, if_pos ht] at hs
    cases hs
  ·intro r hr
   rw [List.mem_singleton.1 hr]; rfl
  ·intro j k hjk r r' hj hk
   have := (List.getElem?_eq_some_iff.1 hk).1
   simp at this; omega
  ·intro r hr
   rw [List.mem_singleton.1 hr]; exact Int.le_refl 0
 have h1 := h0.bfs (want := want) hso hes he (n + 1) 0 (by omega) (fun r hr => by simp only [List.getElem?_cons_zero, Option.some.injEq] at hr; subst hr; exact Int.le_refl 0) (fun j hj => absurd hj (by omega))
 unfold pathF
 generalize Go.Proofs.YtidakgbibobbdaaGreatDoor.bfs (subOf es) want perm (n + 1) 0 ((List.replicate n false).set from_ true) [⟨from_, -1, -1⟩] = r at h1
 cases r with
 | none => exact h1
 | some r =>
  obtain ⟨w, h2, h3⟩ := h1
  simp only [Option.map_some, h2, List.reverse_reverse]
  exact h3
end Go.Proofs.YtidakgbibobbdaaGreatDoor
