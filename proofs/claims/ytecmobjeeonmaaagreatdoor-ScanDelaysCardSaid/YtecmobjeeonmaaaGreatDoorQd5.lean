/- Parts of the proof, without what nothing here names. -/
import Derived.Test.YtecmobjeeonmaaaGreatDoorProg
import Derived.Test.YtecmobjeeonmaaaGreatDoorQd4
set_option maxRecDepth 100000
set_option maxHeartbeats 8000000
namespace Go.Proofs.YtecmobjeeonmaaaGreatDoor
open Go Go.RowKit
noncomputable section
def y1l (st30 : Int × List Int) (st45 : Int) (b49 : Bool) : Option (Int ⊕ (List Int)) :=
 if b49 then
  (app st30.2 ([st30.1] : List Int)).bind fun x51 =>
  some (.inr x51)
 else
  some (.inl (W (st45 + 1)))
def y1V (r1 : AutT × AutT × List Int) (r2 : AutT × List (List Int) × Int) (st30 : Int × List Int) (st45 : Int) : Option (Int ⊕ (List Int)) :=
 if decide (st45 < (r1.2.2.length : Int)) then
  (idx r1.2.2 st45).bind fun x48 =>
  (idx r2.2.1 st30.1).bind fun x52 =>
  (idx x52 0).bind fun x53 =>
  (y1Y r1.1 x53 x48).bind fun r54 =>
  if decide (r54 ≥ 0) then
   (y1Y r2.1 st30.1 x48).bind fun r56 =>
   y1l st30 st45 (decide (r56 < 0))
  else
   y1l st30 st45 false
 else
  some (.inr st30.2)
def y1m (r1 : AutT × AutT × List Int) (r2 : AutT × List (List Int) × Int) (st30 : Int × List Int) : Option ((Int × List Int) ⊕ (List Int)) :=
 if decide (st30.1 < (r2.2.1.length : Int)) then
  (iter (y1V r1 r2 st30) 0).bind fun o45 =>
  some (.inl (W (st30.1 + 1), o45))
 else
  some (.inr st30.2)
def y3q (p0 : (Int × y2a) × (Int × y2a) × Int) (p1 : Bool) : Option (AutT × AutT × List Int) :=
 (y3n p0).bind fun r1 =>
 if (!p1) then
  some r1
 else
  (yk ([r1.1, r1.2.1] : List AutT)).bind fun r2 =>
  (iter (y1m r1 r2) (0, ([] : List Int))).bind fun o30 =>
  (y2c r2.1 o30 r1.2.2).bind fun r33 =>
  some (r1.1, r33.1.2.2.1, r1.2.2)
theorem y7r {p0 : (Int × y2a) × (Int × y2a) × Int} {p1 : Bool} {r : (AutT × AutT × List Int)} (hm : y3q p0 p1 = some r) :
  Fw Tryz.prog 16 ⟨0, []⟩ [.a (lx30 p0), .b p1] [] (.g [lF qI r.1.1, lI r.1.2.1, lF qI r.1.2.2.1, lF qT r.1.2.2.2, lH 0, lI r.2.1.2.1, lH 1, lH 2, lH 3]) [ROW qI 3 r.2.1.1, ROW qI 3 r.2.1.2.2.1, ROW qT 124 r.2.1.2.2.2, ROW qI 3 r.2.2] := by
 unfold y3q at hm
 refine Fw.mk' Tryz.func16 R Tryz.ntmps16 R R (fun C => ?_) R R
 refine .seq (.reg (.op (O.box 0 R Z R R R) R (.op (O.al 1 R zz37 R Z R) R (.nil (.seqN (.seq (.reg (.op (O.lg (l' := (lx30 p0)) ag30 Z R (.B R) R R R) R (bS hm fun r1 er1 hm => .op (O.ca (r' := .tp [.a [lH 2, lI r1.1.2.1, lH 3, lH 4], .a [lH 5, lI r1.2.1.2.1, lH 6, lH 7], .h 8]) [2, 3, 4, 5, 6, 7, 8] [(0, ROW qI 3 r1.1.1), (1, ROW qI 3 r1.1.2.2.1), (2, ROW qT 124 r1.1.2.2.2), (3, ROW qI 3 r1.2.1.1), (4, ROW qI 3 r1.2.1.2.2.1), (5, ROW qT 124 r1.2.1.2.2.2), (6, ROW qI 3 r1.2.2)] (some 9) (y7q er1) cf72 R R Z R R R R ⟨⟨_, R, fun _ _ _ _ h => h⟩, ⟨_, R, fun _ _ _ _ h => h⟩, ⟨_, R, fun _ _ _ _ h => h⟩, ⟨_, R, fun _ _ _ _ h => h⟩, ⟨_, R, fun _ _ _ _ h => h⟩, ⟨_, R, fun _ _ _ _ h => h⟩, ⟨_, R, fun _ _ _ _ h => h⟩, trivial⟩ (fun _ _ _ h => h) R) R (.mv R (.op (O.ex Z R R R) R (.op (O.ex Z R R R) R (.op (O.ex Z R R R) R (.op (O.al 9 R zz35 R Z R) R (.op (O.al 10 R zz35 R Z R) R (.op (O.st ag35.sz Z R R R R R) R (.op (O.st ag35.sz Z R R R R R) R (.sa R (.nil (.seqN (.seq (.reg (.op (O.lg (l' := [lH 2, lI r1.1.2.1, lH 3, lH 4]) ag35 Z R (.B R) R R R) R (.op (O.lg (l' := [lH 5, lI r1.2.1.2.1, lH 6, lH 7]) ag35 Z R (.B R) R R R) R (.mv R (.op (O.bu (l := [lH 2, lI r1.1.2.1, lH 3, lH 4, lH 5, lI r1.2.1.2.1, lH 6, lH 7, lH 8]) pl37 R Z R R R) R (.op (O.al 11 R zz37 R Z R) R (.op (O.st ag37.sz Z R R R R R) R (.nil (.seqN (.seq (.seq (.reg (.mv R (.op (O.not Z R R) R (.nil (.seqN ?_)))))))))))))))))))))))))))))))))))))
 rcases ifS hm with ⟨hc, hm⟩ | ⟨hc, hm⟩
 ·refine .cT R hc ?_
  refine .seq (.reg (.op (O.lg (l' := [lH 2, lI r1.1.2.1, lH 3, lH 4, lH 5, lI r1.2.1.2.1, lH 6, lH 7, lH 8]) ag37 Z R (.B R) R R R) R (.op (O.st ag37.sz Z R R R R R) R (.nil (.seqN (.ret (.seqR (.fz 2 [] [1, 9, 11] R R fR R R (.fz 3 [] [1, 9, 11] R R fR R R (.fz 4 [] [1, 9, 11] R R fR R R ?_))))))))))
  obtain rfl := oi hm
  exact WX.rt [5, 6, 7, 8] (.inl R) Tryz.results16 (.cell R R ag37 R .nil) R (fun _ _ _ h => h) ⟨⟨_, R, fun _ _ _ _ h => h⟩, ⟨_, R, fun _ _ _ _ h => h⟩, ⟨_, R, fun _ _ _ _ h => h⟩, ⟨_, R, fun _ _ _ _ h => h⟩, trivial⟩
 ·refine .cF R hc ?_
  refine .skip (.seqN (.seq (.reg (.op (O.lg (l' := [lH 2, lI r1.1.2.1, lH 3, lH 4]) ag35 Z R (.B R) R R R) R (.op (O.lg (l' := [lH 5, lI r1.2.1.2.1, lH 6, lH 7]) ag35 Z R (.B R) R R R) R (.fz 2 [32] [9, 11] R R fR R R (.fz 3 [32] [9, 11] R R fR R R (.fz 4 [32] [9, 11] R R fR R R (.fz 5 [33] [10, 11] R R fR R R (.fz 6 [33] [10, 11] R R fR R R (.fz 7 [33] [10, 11] R R fR R R (.op (O.bsF (r := rE35) (zs := ([r1.1, r1.2.1] : List AutT)) bs66 R R Z R R R (.c (.p .l (.p .k (.p .l .l))) (.c (.p .l (.p .k (.p .l .l))) .n)) R R R) R (bS hm fun r2 er2 hm => .op (O.ca (r' := .tp [.a [lH 12, lI r2.1.2.1, lH 13, lH 14], .h 15, .i r2.2.2]) [12, 13, 14, 15] [(0, ROW qI 3 r2.1.1), (1, ROW qI 3 r2.1.2.2.1), (2, ROW qT 124 r2.1.2.2.2), (3, ROW (rL qI) 32 r2.2.1)] (some 16) (y4B er2) cf32 R R Z R R R R ⟨⟨_, R, fun _ _ _ _ h => h⟩, ⟨_, R, fun _ _ _ _ h => h⟩, ⟨_, R, fun _ _ _ _ h => h⟩, ⟨_, R, fun _ _ _ _ h => h⟩, trivial⟩ (fun _ _ _ h => h) R) R (.mv R (.op (O.ex Z R R R) R (.op (O.ex Z R R R) R (.op (O.ex Z R R R) R (.op (O.al 16 R zz35 R Z R) R (.op (O.st ag35.sz Z R R R R R) R (.sa R (.sa R (.nil (.seqN (.seq (.reg (.sa R (.nil (.seqN (.seq (.seq (.reg (.sa R (.nil (.seqN (.block (bS hm fun o30 eo30 hm => ?_))))))))))))))))))))))))))))))))))))
  refine .cut1 (z := .exit 0) o30 (fun (o30 : List Int) => ⟨[(12, .h 0), (9, .q 1 0), (8, .q 5 0), (7, .h 6), (4, .q 7 0)], [(0, ROW qI 3 o30), (1, .bx 35 [lH 2, lI r2.1.2.1, lH 3, lH 4]), (2, ROW qI 3 r2.1.1), (3, ROW qI 3 r2.1.2.2.1), (4, ROW qT 124 r2.1.2.2.2), (5, .bx 37 [lF qI r1.1.1, lI r1.1.2.1, lF qI r1.1.2.2.1, lF qT r1.1.2.2.2, lF qI r1.2.1.1, lI r1.2.1.2.1, lF qI r1.2.1.2.2.1, lF qT r1.2.1.2.2.2, lH 6]), (6, ROW qI 3 r1.2.2), (7, .bx 37 [lN, lI 0, lN, lN, lN, lI 0, lN, lN, lN])], 8⟩) ?_ fun K32 => ?_
  ·skip
   refine .blkE (.seqN (.seq (.reg (.op (O.lg (l' := [lH 2, lI r2.1.2.1, lH 3, lH 4]) ag35 Z R (.B R) R R R) R (.mv R (.mv R (bS hm fun r33 er33 hm => .op (O.caY (r' := .tp [.a [lH 8, lH 9, lH 10, lI r33.1.2.1, lH 11, lI r33.1.2.2.1.2.1, lH 12, lH 13, lH 14], .i r33.2]) [8, 9, 10, 11, 12, 13, 14] [(0, ROW qI 3 r33.1.1.1), (1, ROW qI 3 r33.1.1.2.1), (2, ROW rE286 286 r33.1.1.2.2), (3, ROW qI 3 r33.1.2.2.1.1), (4, ROW qI 3 r33.1.2.2.1.2.2.1), (5, ROW qT 124 r33.1.2.2.1.2.2.2), (6, ROW qI 3 r33.1.2.2.2)] (some 15) (y7c er33) cf74 R R Z R R ⟨⟨R, .hr R, .rf, .hr R, .hr R, trivial⟩, ⟨R, .hr R, trivial⟩, ⟨R, .hr R, trivial⟩, trivial⟩ R ⟨.row flr3, .row flr3, .row yco, .row flr3, .row flr3, .row y4P, .row flr3, trivial⟩ (fun _ _ _ _ h => h) ⟨⟨_, R, fun _ _ _ _ h => h⟩, ⟨_, R, fun _ _ _ _ h => h⟩, ⟨_, R, fun _ _ _ _ h => h⟩, ⟨_, R, fun _ _ _ _ h => h⟩, ⟨_, R, fun _ _ _ _ h => h⟩, ⟨_, R, fun _ _ _ _ h => h⟩, ⟨_, R, fun _ _ _ _ h => h⟩, trivial⟩ (fun _ _ _ h => h) R) R (.mv R (.op (O.ex Z R R R) R (.op (O.ex Z R R R) R (.op (O.al 15 R zz131 R Z R) R (.op (O.st ag131.sz Z R R R R R) R (.sa R (.nil (.seqN (.seq (.reg (.op (O.faP ybw Z R R) R (.op (O.lg (l' := [lH 11, lI r33.1.2.2.1.2.1, lH 12, lH 13]) ag35 Z R (.B R) R R R) R (.op (O.faP y6V Z R R) R (.op (O.st ag35.sz Z R R R R R) R (.nil (.seqN (.seq (.reg (.op (O.lg (l' := [lF qI r1.1.1, lI r1.1.2.1, lF qI r1.1.2.2.1, lF qT r1.1.2.2.2, lH 11, lI r33.1.2.2.1.2.1, lH 12, lH 13, lH 6]) ag37 Z R (.B R) R R R) R (.op (O.st ag37.sz Z R R R R R) R (.nil (.seqN (.ret ?_))))))))))))))))))))))))))))))
   obtain rfl := oi hm
   exact WX.rt [11, 12, 13, 6] (.inl R) Tryz.results16 (.cell R R ag37 R .nil) R (fun _ _ _ h => h) ⟨⟨_, R, fun _ _ _ _ h => h⟩, ⟨_, R, fun _ _ _ _ h => h⟩, ⟨_, R, fun _ _ _ _ h => h⟩, ⟨_, R, fun _ _ _ _ h => h⟩, trivial⟩
  refine .nlg qI 3 12 0 R R (.iter (fun (st30 : Int × List Int) => ⟨[(13, .i st30.1), (12, .h 0), (10, .h 1), (9, .q 2 0), (8, .q 6 0), (7, .h 7), (5, .q 8 0), (4, .q 9 0)], [(0, ROW qI 3 st30.2), (1, ROW (rL qI) 32 r2.2.1), (2, .bx 35 [lH 3, lI r2.1.2.1, lH 4, lH 5]), (3, ROW qI 3 r2.1.1), (4, ROW qI 3 r2.1.2.2.1), (5, ROW qT 124 r2.1.2.2.2), (6, .bx 37 [lF qI r1.1.1, lI r1.1.2.1, lF qI r1.1.2.2.1, lF qT r1.1.2.2.2, lF qI r1.2.1.1, lI r1.2.1.2.1, lF qI r1.2.1.2.2.1, lF qT r1.2.1.2.2.2, lH 7]), (7, ROW qI 3 r1.2.2), (8, .bx 35 [lF qI r1.1.1, lI r1.1.2.1, lF qI r1.1.2.2.1, lF qT r1.1.2.2.2]), (9, .bx 37 [lN, lI 0, lN, lN, lN, lI 0, lN, lN, lN])], 10⟩) eo30 [(0, 17), (1, 15), (2, 16), (3, 12), (4, 13), (5, 14), (6, 11), (7, 8), (8, 9), (9, 1)] R ?_)
  intro st30 res30 hm ih30 ho30
  unfold y1m at hm
  refine .seq (.seq (.reg (.mv R (.mv R (.op (O.lenH sl53 Z R R R) R (.bi R (.nil (.seqN ?_))))))))
  rcases ifS hm with ⟨hc, hm⟩ | ⟨hc, hm⟩
  ·refine .cT R hc ?_
   refine .skip (.seqN (.seq (.block (.seq (.reg (.mv R (.op (O.lenH sl32 Z R R R) R (.mv R (.nil (.seqN (.block (bS hm fun o45 eo45 hm => ?_))))))))))))
   refine .cut1 (z := .exit 2) o45 (fun (o45 : List Int) => ⟨[(12, .h 0), (13, .i st30.1), (10, .h 1), (9, .q 2 0), (8, .q 6 0), (7, .h 7), (5, .q 8 0), (4, .q 9 0)], [(0, ROW qI 3 o45), (1, ROW (rL qI) 32 r2.2.1), (2, .bx 35 [lH 3, lI r2.1.2.1, lH 4, lH 5]), (3, ROW qI 3 r2.1.1), (4, ROW qI 3 r2.1.2.2.1), (5, ROW qT 124 r2.1.2.2.2), (6, .bx 37 [lF qI r1.1.1, lI r1.1.2.1, lF qI r1.1.2.2.1, lF qT r1.1.2.2.2, lF qI r1.2.1.1, lI r1.2.1.2.1, lF qI r1.2.1.2.2.1, lF qT r1.2.1.2.2.2, lH 7]), (7, ROW qI 3 r1.2.2), (8, .bx 35 [lF qI r1.1.1, lI r1.1.2.1, lF qI r1.1.2.2.1, lF qT r1.1.2.2.2]), (9, .bx 37 [lN, lI 0, lN, lN, lN, lI 0, lN, lN, lN])], 10⟩) ?_ fun K47 => ?_
   ·skip
    exact .blkE (.blkN (.seqN (.reg (.mv R (.bi R (.sa R (.nil ((ih30 _ (oi hm).symm).sub [] R))))))))
   refine .iter (fun (st45 : Int) => ⟨[(47, .i st45), (46, .i (r1.2.2.length : Int)), (45, .h 0), (13, .i st30.1), (12, .h 1), (10, .h 2), (9, .q 3 0), (8, .q 7 0), (7, .h 0), (5, .q 8 0), (4, .q 9 0)], [(0, ROW qI 3 r1.2.2), (1, ROW qI 3 st30.2), (2, ROW (rL qI) 32 r2.2.1), (3, .bx 35 [lH 4, lI r2.1.2.1, lH 5, lH 6]), (4, ROW qI 3 r2.1.1), (5, ROW qI 3 r2.1.2.2.1), (6, ROW qT 124 r2.1.2.2.2), (7, .bx 37 [lF qI r1.1.1, lI r1.1.2.1, lF qI r1.1.2.2.1, lF qT r1.1.2.2.2, lF qI r1.2.1.1, lI r1.2.1.2.1, lF qI r1.2.1.2.2.1, lF qT r1.2.1.2.2.2, lH 0]), (8, .bx 35 [lF qI r1.1.1, lI r1.1.2.1, lF qI r1.1.2.2.1, lF qT r1.1.2.2.2]), (9, .bx 37 [lN, lI 0, lN, lN, lN, lI 0, lN, lN, lN])], 10⟩) eo45 [(0, 7), (1, 0), (2, 1), (3, 2), (4, 3), (5, 4), (6, 5), (7, 6)] R ?_
   intro st45 res45 hm ih45 ho45
   unfold y1V at hm
   refine .seq (.reg (.bi R (.nil (.seqN (.seq ?_)))))
   rcases ifS hm with ⟨hc, hm⟩ | ⟨hc, hm⟩
   ·refine .cT R hc ?_
    refine .skip (.seqN (.seq (.block (.seq (.reg (bS hm fun x48 ex48 hm => .op (O.ir sl32 Z R R R ex48 R) R (.op (O.ld nag3 Z R (.R R ex48 lv3) R R) R (.sa R (.nil (.seqN ?_))))))))))
    refine .join1 (fun (b49 : Bool) => y1l st30 st45 b49 = some res45) (fun b49 => ⟨[(67, .b b49), (47, .i st45), (46, .i (r1.2.2.length : Int)), (45, .h 0), (13, .i st30.1), (12, .h 1), (10, .h 2), (9, .q 3 0), (8, .q 7 0), (7, .h 0), (5, .q 8 0), (4, .q 9 0)], [(0, ROW qI 3 r1.2.2), (1, ROW qI 3 st30.2), (2, ROW (rL qI) 32 r2.2.1), (3, .bx 35 [lH 4, lI r2.1.2.1, lH 5, lH 6]), (4, ROW qI 3 r2.1.1), (5, ROW qI 3 r2.1.2.2.1), (6, ROW qT 124 r2.1.2.2.2), (7, .bx 37 [lF qI r1.1.1, lI r1.1.2.1, lF qI r1.1.2.2.1, lF qT r1.1.2.2.2, lF qI r1.2.1.1, lI r1.2.1.2.1, lF qI r1.2.1.2.2.1, lF qT r1.2.1.2.2.2, lH 0]), (8, .bx 35 [lF qI r1.1.1, lI r1.1.2.1, lF qI r1.1.2.2.1, lF qT r1.1.2.2.2]), (9, .bx 37 [lN, lI 0, lN, lN, lN, lI 0, lN, lN, lN])], 10⟩) ?_ ?_
    ·intro b49 hm
     unfold y1l at hm
     rcases ifS hm with ⟨hc, hm⟩ | ⟨hc, hm⟩
     ·refine .cT R hc ?_
      exact .seq (.reg (.mv R (.mv R (.op (O.bsF (r := qI) (zs := ([st30.1] : List Int)) bs32 R R Z R R R (.c .k .n) R R R) R (bS hm fun x51 ex51 hm => .op (O.ap 10 Tryz.underlying32 el3 R R Z R R (.fr R) ex51 R) R (.sa R (.nil (.seqN (.exit (.blkX R (.seqX (.seqX ((K47 _ (ho45 _ (oi hm).symm)).sub [(0, 10), (1, 2), (2, 3), (3, 4), (4, 5), (5, 6), (6, 7), (7, 0)] R)))))))))))))
     ·refine .cF R hc ?_
      exact .skip (.blkN (.seqN (.reg (.bi R (.mv R (.nil ((ih45 _ (oi hm).symm).sub [] R)))))))
    ·intro Jj50
     refine .sub (τ := ⟨[(15, .i x48), (47, .i st45), (46, .i (r1.2.2.length : Int)), (45, .h 0), (13, .i st30.1), (12, .h 1), (10, .h 2), (9, .q 3 0), (8, .q 7 0), (7, .h 0), (5, .q 8 0), (4, .q 9 0)], [(0, ROW qI 3 r1.2.2), (1, ROW qI 3 st30.2), (2, ROW (rL qI) 32 r2.2.1), (3, .bx 35 [lH 4, lI r2.1.2.1, lH 5, lH 6]), (4, ROW qI 3 r2.1.1), (5, ROW qI 3 r2.1.2.2.1), (6, ROW qT 124 r2.1.2.2.2), (7, .bx 37 [lF qI r1.1.1, lI r1.1.2.1, lF qI r1.1.2.2.1, lF qT r1.1.2.2.2, lF qI r1.2.1.1, lI r1.2.1.2.1, lF qI r1.2.1.2.2.1, lF qT r1.2.1.2.2.2, lH 0]), (8, .bx 35 [lF qI r1.1.1, lI r1.1.2.1, lF qI r1.1.2.2.1, lF qT r1.1.2.2.2]), (9, .bx 37 [lN, lI 0, lN, lN, lN, lI 0, lN, lN, lN])], 10⟩) ?_ [] R
     refine bS hm fun x52 ex52 hm => bS hm fun x53 ex53 hm => bS hm fun r54 er54 hm => ?_
     rcases ifS hm with ⟨hc55, hm⟩ | ⟨hc55, hm⟩
     ·skip
      refine bS hm fun r56 er56 hm => ?_
      refine .drw [(10, []), (10, []), (10, []), (10, [oF, oT, oT]), (10, [oF, oT, oT, oT]), (10, [oF, oT, oT, oT, oT]), (10, [oF, oT, oT, oT, oT, oT]), (10, []), (10, [oT, oT, oT, oT, oT, oT, oT, oT]), (10, [oT, oT, oT, oT, oT, oT, oT, oT, oT]), (10, [oT, oT, oT, oT, oT, oT, oT, oT, oT, oT]), (10, [oT, oT, oT, oT, oT, oT, oT, oT, oT, oT, oT]), (10, [oT, oT, oT, oT, oT, oT, oT, oT, oT, oT, oT]), (10, [oT, oT, oT, oT, oT, oT, oT, oT, oT, oT, oT]), (10, [oT, oT, oT, oT, oT, oT, oT, oT, oT, oT, oT, oT, oT, oT]), (10, [oT, oT, oT, oT, oT, oT, oT, oT, oT, oT, oT, oT, oT, oT, oT]), (10, [oT, oT, oT, oT, oT, oT, oT, oT, oT, oT, oT, oT, oT, oT, oT, oT])] [_, _, _, _, _, _, _, _, _, _, _, _, _, _, _, _, _] ⟨[(67, .b (decide (r56 < 0))), (47, .i st45), (46, .i (r1.2.2.length : Int)), (45, .h 0), (13, .i st30.1), (12, .h 1), (10, .h 2), (9, .q 3 0), (8, .q 7 0), (7, .h 0), (5, .q 8 0), (4, .q 9 0)], [(0, ROW qI 3 r1.2.2), (1, ROW qI 3 st30.2), (2, ROW (rL qI) 32 r2.2.1), (3, .bx 35 [lH 4, lI r2.1.2.1, lH 5, lH 6]), (4, ROW qI 3 r2.1.1), (5, ROW qI 3 r2.1.2.2.1), (6, ROW qT 124 r2.1.2.2.2), (7, .bx 37 [lF qI r1.1.1, lI r1.1.2.1, lF qI r1.1.2.2.1, lF qT r1.1.2.2.2, lF qI r1.2.1.1, lI r1.2.1.2.1, lF qI r1.2.1.2.2.1, lF qT r1.2.1.2.2.2, lH 0]), (8, .bx 35 [lF qI r1.1.1, lI r1.1.2.1, lF qI r1.1.2.2.1, lF qT r1.1.2.2.2]), (9, .bx 37 [lN, lI 0, lN, lN, lN, lI 0, lN, lN, lN])], 10⟩ ⟨O.lg (l' := [lF qI r1.1.1, lI r1.1.2.1, lF qI r1.1.2.2.1, lF qT r1.1.2.2.2]) ag35 Z R (.B R) R R R, O.mv Z R R, O.mv Z R R, O.ir sl53 Z R R R ex52 R, O.ld nag32 Z R (.R R ex52 lv32) R R, O.ix sl32 Z R R ex53 R, O.ld nag3 Z R (.E lv3) R R, O.mv Z R R, O.ca0 (y3N er54) cf73 R R Z R R R, O.bi Z R R R R, O.kn (O.mv Z R R) hc55, O.lg (l' := [lH 4, lI r2.1.2.1, lH 5, lH 6]) ag35 (Gu.mk R R) R (.B R) R R R, O.mv (Gu.mk R R) R R, O.mv (Gu.mk R R) R R, O.caZ (y3N er56) cf73 R R (Gu.mk R R) R ⟨⟨R, .hr R, .rf, .hr R, .hr R, trivial⟩, ⟨R, LnL.rf⟩, ⟨R, LnL.rf⟩, trivial⟩ (fun _ _ _ _ _ h => h) R, O.bi (Gu.mk R R) R R R R, O.pkT Z R R R R, trivial⟩ (by kernel_rfl) R ?_
      exact (Jj50 _ hm).sub [] R
     ·skip
      refine .drw [(10, []), (10, []), (10, []), (10, [oF, oT, oT]), (10, [oF, oT, oT, oT]), (10, [oF, oT, oT, oT, oT]), (10, [oF, oT, oT, oT, oT, oT]), (10, []), (10, [oT, oT, oT, oT, oT, oT, oT, oT]), (10, [oT, oT, oT, oT, oT, oT, oT, oT, oT]), (10, [oT, oT, oT, oT, oT, oT, oT, oT, oT, oT]), (10, [oT, oT, oT, oT, oT, oT, oT, oT, oT, oT, oT]), (10, [oT, oT, oT, oT, oT, oT, oT, oT, oT, oT, oT]), (10, [oT, oT, oT, oT, oT, oT, oT, oT, oT, oT, oT]), (10, [oT, oT, oT, oT, oT, oT, oT, oT, oT, oT, oT, oT, oT, oT]), (10, [oT, oT, oT, oT, oT, oT, oT, oT, oT, oT, oT, oT, oT, oT, oT]), (10, [oT, oT, oT, oT, oT, oT, oT, oT, oT, oT, oT, oT, oT, oT, oT, oT])] [_, _, _, _, _, _, _, _, _, _, _, _, _, _, _, _, _] ⟨[(67, .b false), (47, .i st45), (46, .i (r1.2.2.length : Int)), (45, .h 0), (13, .i st30.1), (12, .h 1), (10, .h 2), (9, .q 3 0), (8, .q 7 0), (7, .h 0), (5, .q 8 0), (4, .q 9 0)], [(0, ROW qI 3 r1.2.2), (1, ROW qI 3 st30.2), (2, ROW (rL qI) 32 r2.2.1), (3, .bx 35 [lH 4, lI r2.1.2.1, lH 5, lH 6]), (4, ROW qI 3 r2.1.1), (5, ROW qI 3 r2.1.2.2.1), (6, ROW qT 124 r2.1.2.2.2), (7, .bx 37 [lF qI r1.1.1, lI r1.1.2.1, lF qI r1.1.2.2.1, lF qT r1.1.2.2.2, lF qI r1.2.1.1, lI r1.2.1.2.1, lF qI r1.2.1.2.2.1, lF qT r1.2.1.2.2.2, lH 0]), (8, .bx 35 [lF qI r1.1.1, lI r1.1.2.1, lF qI r1.1.2.2.1, lF qT r1.1.2.2.2]), (9, .bx 37 [lN, lI 0, lN, lN, lN, lI 0, lN, lN, lN])], 10⟩ ⟨O.lg (l' := [lF qI r1.1.1, lI r1.1.2.1, lF qI r1.1.2.2.1, lF qT r1.1.2.2.2]) ag35 Z R (.B R) R R R, O.mv Z R R, O.mv Z R R, O.ir sl53 Z R R R ex52 R, O.ld nag32 Z R (.R R ex52 lv32) R R, O.ix sl32 Z R R ex53 R, O.ld nag3 Z R (.E lv3) R R, O.mv Z R R, O.ca0 (y3N er54) cf73 R R Z R R R, O.bi Z R R R R, O.kn (O.mv Z R R) hc55, O.skip R R R R, O.skip R R R R, O.skip R R R R, O.skip R R R R, O.skip R R R R, O.pkF Z R R R R, trivial⟩ (by kernel_rfl) R ?_
      exact (Jj50 _ hm).sub [] R
   ·refine .cF R hc ?_
    exact .exit (.seqX (.seqX ((K47 _ (ho45 _ (oi hm).symm)).sub [(0, 1), (1, 2), (2, 3), (3, 4), (4, 5), (5, 6), (6, 7), (7, 0)] R)))
  ·refine .cF R hc ?_
   exact .exit (.seqX (.seqX ((K32 _ (ho30 _ (oi hm).symm)).sub [(1, 2), (2, 3), (3, 4), (4, 5), (5, 6), (6, 7), (7, 9)] R)))
def y4U (p0 : Int × List Int × List Int) (p1 : Int × List Int × List Int) : Option Bool :=
 (if (p0.1 == p1.1) then
  (y2O p0.2.1 p1.2.1).bind fun r8 =>
  some r8
 else
  some false).bind fun b1 =>
 (if b1 then
  (y2O p0.2.2 p1.2.2).bind fun r7 =>
  some r7
 else
  some false).bind fun b4 =>
 some b4
theorem y7s {p0 : Int × List Int × List Int} {p1 : Int × List Int × List Int} {r : Bool} (hm : y4U p0 p1 = some r) :
  Fw Tryz.prog 84 ⟨0, []⟩ [.a [lI p0.1, lF qI p0.2.1, lF qI p0.2.2], .a [lI p1.1, lF qI p1.2.1, lF qI p1.2.2]] [] (.b r) [] := by
 unfold y4U at hm
 refine Fw.mk' Tryz.func84 R Tryz.ntmps84 R R (fun C => ?_) R R
 refine .seq (.reg (.op (O.box 0 R Z R R R) R (.op (O.box 1 R Z R R R) R (.sa R (.nil (.seqN (.seq (.reg (.op (O.faP y7N Z R R) R (.op (O.ld nag3 Z R (.B R) R R) R (.op (O.faP y7N Z R R) R (.op (O.ld nag3 Z R (.B R) R R) R (.bi R (.mv R (bS hm fun b1 eb1 hm => ?_)))))))))))))))
 refine .cut 6 (fun (v2 : Bool) => b1 = v2) (fun v2 => ⟨[(16, .b v2), (3, .q 1 0), (2, .q 0 0)], [(1, .bx 44 [lI p1.1, lF qI p1.2.1, lF qI p1.2.2]), (0, .bx 44 [lI p0.1, lF qI p0.2.1, lF qI p0.2.2])], 2⟩) ?_ ?_
 ·rintro _ rfl
  refine .mv R (bS hm fun b4 eb4 hm => ?_)
  refine .cut 6 (fun (v5 : Bool) => b4 = v5) (fun v5 => ⟨[(23, .b v5)], [], 2⟩) ?_ ?_
  ·rintro _ rfl
   refine .sa R (.nil (.seqN (.ret ?_)))
   obtain rfl := oi hm
   exact WX.rt [] (.inl R) Tryz.results84 (.tmp R .nil) R (fun _ _ _ h => h) trivial
  ·intro J6
   rcases ifS eb4 with ⟨hc, hm⟩ | ⟨hc, hm⟩
   ·refine .know (d := 17) R hc ?_
    exact .op (O.faP y3k (Gu.mk R R) R R) R (.op (O.ld nag32 (Gu.mk R R) R (.B R) R R) R (.op (O.faP y3k (Gu.mk R R) R R) R (.op (O.ld nag32 (Gu.mk R R) R (.B R) R R) R (bS hm fun r7 er7 hm => .op (O.ca0 (y3G er7) cf29 R R (Gu.mk R R) R R R) R (.op (O.pkT Z R R R R) R ((J6 r7 (oi hm).symm).sub [] R))))))
   ·refine .know (d := 17) R hc ?_
    exact .sk R (.sk R (.sk R (.sk R (.sk R (.op (O.pkF Z R R R R) R ((J6 false (oi hm).symm).sub [] R))))))
 ·intro J3
  rcases ifS eb1 with ⟨hc, hm⟩ | ⟨hc, hm⟩
  ·refine .know (d := 10) R hc ?_
   exact .op (O.faP y5Z (Gu.mk R R) R R) R (.op (O.ld nag32 (Gu.mk R R) R (.B R) R R) R (.op (O.faP y5Z (Gu.mk R R) R R) R (.op (O.ld nag32 (Gu.mk R R) R (.B R) R R) R (bS hm fun r8 er8 hm => .op (O.ca0 (y3G er8) cf29 R R (Gu.mk R R) R R R) R (.op (O.pkT Z R R R R) R ((J3 r8 (oi hm).symm).sub [] R))))))
  ·refine .know (d := 10) R hc ?_
   exact .sk R (.sk R (.sk R (.sk R (.sk R (.op (O.pkF Z R R R R) R ((J3 false (oi hm).symm).sub [] R))))))
def y4n (p0 : Int × List Int × List Int) : Option Bool :=
 (y4U p0 (0, ([] : List Int), ([] : List Int))).bind fun r1 =>
 some r1
theorem y7t {p0 : Int × List Int × List Int} {r : Bool} (hm : y4n p0 = some r) :
  Fw Tryz.prog 22 ⟨0, []⟩ [.a [lI p0.1, lF qI p0.2.1, lF qI p0.2.2]] [] (.b r) [] := by
 unfold y4n at hm
 refine Fw.mk' Tryz.func22 R Tryz.ntmps22 R R (fun C => ?_) R R
 refine .seq (.reg (.op (O.box 0 R Z R R R) R (.sa R (.nil (.seqN (.seq (.reg (.op (O.lg (l' := [lI p0.1, lF qI p0.2.1, lF qI p0.2.2]) ag44 Z R (.B R) R R R) R (.op (O.bu (l := [lI 0, lN, lN]) pl44 R Z R R R) R (bS hm fun r1 er1 hm => .op (O.ca0c (y7s er1) cf84 R R Z R ⟨⟨R, .rf⟩, ⟨R, (.c .rf (.c (.nf (r := qI)) (.c (.nf (r := qI)) .n)))⟩, trivial⟩ R R) R (.sa R (.nil (.seqN (.ret ?_))))))))))))))
 obtain rfl := oi hm
 exact WX.rt [] (.inl R) Tryz.results22 (.tmp R .nil) R (fun _ _ _ h => h) trivial
def y2d (b2 : Bool) : Option Bool :=
 some b2
def y2L (p0 : (AutT × (List KeyT)) × (AutT × (List KeyT)) × (AutT × (List KeyT)) × List (List Int) × List Int × List Int) (p1 : Int) (p2 : Int) (p3 : Int) : Option Bool :=
 (yS p0.2.2.1 p1 p2).bind fun r1 =>
 if (r1 != (-1)) then
  (yS p0.2.2.1 p1 p3).bind fun r5 =>
  if (r5 != (-1)) then
   (yS p0.2.2.1 r1 p3).bind fun r7 =>
   if (r7 == (-1)) then
    (idx p0.2.2.2.1 r1).bind fun x9 =>
    (idx x9 0).bind fun x10 =>
    (yS p0.1 x10 p3).bind fun r11 =>
    y2d (r11 != (-1))
   else
    y2d false
  else
   y2d false
 else
  y2d false
theorem y5R {p0 : (AutT × (List KeyT)) × (AutT × (List KeyT)) × (AutT × (List KeyT)) × List (List Int) × List Int × List Int} {p1 : Int} {p2 : Int} {p3 : Int} {r : Bool} (hm : y2L p0 p1 p2 p3 = some r) :
  Fw Tryz.prog 90 ⟨0, []⟩ [.o (lQ 155 (lx155 p0) 0), .i p1, .i p2, .i p3] [] (.b r) [] := by
 unfold y2L at hm
 refine Fw.mk' Tryz.func90 R Tryz.ntmps90 R R (fun C => ?_) R R
 refine .seq (.reg (.sa R (.nil (.seqN (.seq (.reg (.mv R (.op (O.nc .Q Z R R) R (.op (O.faQ y3U Z R R) R (.op (O.lg (l' := [lF qI p0.2.2.1.1.1, lI p0.2.2.1.1.2.1, lF qI p0.2.2.1.1.2.2.1, lF qT p0.2.2.1.1.2.2.2, lM kvP qI p0.2.2.1.2]) ag141 Z R .Q R R R) R (.mv R (.mv R (bS hm fun r1 er1 hm => .op (O.ca0 (yP er1) cf150 R R Z R R R) R (.sa R (.nil (.seqN ?_))))))))))))))))
 refine .join1 (fun (b2 : Bool) => y2d b2 = some r) (fun b2 => ⟨[(8, .b b2)], [], 0⟩) ?_ ?_
 ·intro b2 hm
  unfold y2d at hm
  refine .ret ?_
  obtain rfl := oi hm
  exact WX.rt [] (.inl R) Tryz.results90 (.tmp R .nil) R (fun _ _ _ h => h) trivial
 ·intro Jj3
  refine .sub (τ := ⟨[(9, .i r1), (0, .o (lQ 155 (lx155 p0) 0)), (1, .i p1), (3, .i p3)], [], 0⟩) ?_ [] R
  rcases ifS hm with ⟨hc4, hm⟩ | ⟨hc4, hm⟩
  ·skip
   refine bS hm fun r5 er5 hm => ?_
   rcases ifS hm with ⟨hc6, hm⟩ | ⟨hc6, hm⟩
   ·skip
    refine bS hm fun r7 er7 hm => ?_
    rcases ifS hm with ⟨hc8, hm⟩ | ⟨hc8, hm⟩
    ·skip
     refine bS hm fun x9 ex9 hm => bS hm fun x10 ex10 hm => bS hm fun r11 er11 hm => ?_
     refine .drw [(0, []), (0, [oT]), (0, [oT, oT]), (0, [oT, oT, oT]), (0, [oT, oT, oT, oT]), (0, [oT, oT, oT, oT, oT]), (0, [oT, oT, oT, oT, oT, oT]), (0, [oT, oT, oT]), (0, [oT, oT, oT]), (0, [oT, oT, oT, oT, oT, oT, oT, oT, oT]), (0, [oT, oT, oT, oT, oT, oT, oT, oT, oT, oT]), (0, [oT, oT, oT, oT, oT, oT, oT, oT, oT, oT, oT]), (0, [oT, oT, oT, oT, oT, oT, oT, oT, oT, oT, oT, oT]), (0, [oT, oT, oT, oT, oT, oT, oT, oT, oT, oT, oT, oT, oT]), (0, [oT, oT, oT, oT, oT, oT, oT, oT, oT, oT, oT, oT, oT, oT]), (0, [oT, oT, oT, oT, oT, oT, oT, oT, oT, oT, oT, oT, oT, oT, oT]), (0, [oT, oT, oT, oT, oT, oT, oT, oT, oT, oT, oT, oT, oT, oT, oT, oT]), (0, [oT, oT, oT, oT, oT, oT, oT, oT, oT, oT, oT, oT, oT]), (0, [oT, oT, oT, oT, oT, oT, oT, oT, oT, oT, oT, oT, oT]), (0, [oT, oT, oT, oT, oT, oT, oT, oT, oT, oT, oT, oT, oT, oT, oT, oT, oT, oT, oT]), (0, [oT, oT, oT, oT, oT, oT, oT, oT, oT, oT, oT, oT, oT, oT, oT, oT, oT, oT, oT, oT]), (0, [oT, oT, oT, oT, oT, oT, oT, oT, oT, oT, oT, oT, oT, oT, oT, oT, oT, oT, oT, oT, oT]), (0, [oT, oT, oT, oT, oT, oT, oT, oT, oT, oT, oT, oT, oT, oT, oT, oT, oT, oT, oT, oT, oT, oT]), (0, [oT, oT, oT, oT, oT, oT, oT, oT, oT, oT, oT, oT, oT, oT, oT, oT, oT, oT, oT, oT, oT, oT, oT]), (0, [oT, oT, oT, oT, oT, oT, oT, oT, oT, oT, oT, oT, oT, oT, oT, oT, oT, oT, oT, oT, oT, oT, oT, oT]), (0, [oT, oT, oT, oT, oT, oT, oT, oT, oT, oT, oT, oT, oT, oT, oT, oT, oT, oT, oT, oT, oT, oT, oT, oT, oT]), (0, [oT, oT, oT, oT, oT, oT, oT, oT, oT, oT, oT, oT, oT, oT, oT, oT, oT, oT, oT, oT, oT, oT, oT, oT, oT, oT]), (0, [oT, oT, oT, oT, oT, oT, oT, oT, oT, oT, oT, oT, oT, oT, oT, oT, oT, oT, oT, oT, oT, oT, oT]), (0, [oT, oT, oT, oT, oT, oT, oT, oT, oT, oT, oT, oT, oT, oT, oT, oT, oT, oT, oT, oT, oT, oT, oT, oF, oF, oF, oF, oT]), (0, [oT, oT, oT, oT, oT, oT, oT, oT, oT, oT, oT, oT, oT, oT, oT, oT, oT, oT, oT, oT, oT, oT, oT, oF, oF, oF, oF, oT, oT]), (0, [oT, oT, oT, oT, oT, oT, oT, oT, oT, oT, oT, oT, oT, oT, oT, oT, oT, oT, oT, oT, oT, oT, oT, oF, oF, oF, oF, oT, oT, oT]), (0, [oT, oT, oT, oT, oT, oT, oT, oT, oT, oT, oT, oT, oT, oT, oT, oT, oT, oT, oT, oT, oT, oT, oT]), (0, [oT, oT, oT, oT, oT, oT, oT, oT, oT, oT, oT, oT, oT, oT, oT, oT, oT, oT, oT, oT, oT, oT, oT, oF, oF, oF, oF, oT, oT, oT, oT, oT]), (0, [oT, oT, oT, oT, oT, oT, oT, oT, oT, oT, oT, oT, oT, oT, oT, oT, oT, oT, oT, oT, oT, oT, oT, oF, oF, oF, oF, oT, oT, oT, oT, oT, oT]), (0, [oT, oT, oT, oT, oT, oT, oT, oT, oT, oT, oT, oT, oT, oT, oT, oT, oT, oT, oT, oT, oT, oT, oT, oF, oF, oF, oF, oT, oT, oT, oT, oT, oT, oT]), (0, [oT, oT, oT, oT, oT, oT, oT, oT, oT, oT, oT, oT, oT, oT, oT, oT, oT, oT, oT, oT, oT, oT, oT, oF, oF, oF, oF, oT, oT, oT, oT, oT, oT, oT, oT]), (0, [oT, oT, oT, oT, oT, oT, oT, oT, oT, oT, oT, oT, oT, oT, oT, oT, oT, oT, oT, oT, oT, oT, oT]), (0, [oT, oT, oT, oT, oT, oT, oT, oT, oT, oT, oT, oT, oT, oT, oT, oT, oT, oT, oT, oT, oT, oT, oT, oT, oT, oT, oT, oT, oT, oT, oT, oT, oT, oT, oT, oT, oT]), (0, [oT, oT, oT, oT, oT, oT, oT, oT, oT, oT, oT, oT, oT, oT, oT, oT, oT, oT, oT, oT, oT, oT, oT, oT, oT, oT, oT, oT, oT, oT, oT, oT, oT, oT, oT, oT, oT, oT]), (0, [oT, oT, oT, oT, oT, oT, oT, oT, oT, oT, oT, oT, oT, oT, oT, oT, oT, oT, oT, oT, oT, oT, oT, oT, oT, oT, oT, oT, oT, oT, oT, oT, oT, oT, oT, oT, oT, oT, oT]), (0, [oT, oT, oT, oT, oT, oT, oT, oT, oT, oT, oT, oT, oT, oT, oT, oT, oT, oT, oT, oT, oT, oT, oT, oT, oT, oT, oT, oT, oT, oT, oT, oT, oT, oT, oT, oT, oT, oT, oT, oT])] [_, _, _, _, _, _, _, _, _, _, _, _, _, _, _, _, _, _, _, _, _, _, _, _, _, _, _, _, _, _, _, _, _, _, _, _, _, _, _, _, _] ⟨[(8, .b (r11 != (-1)))], [], 0⟩ ⟨O.mv Z R R, O.bi Z R R R R, O.kn (O.mv Z R R) hc4, O.mv (Gu.mk R R) R R, O.nc .Q (Gu.mk R R) R R, O.faQ y3U (Gu.mk R R) R R, O.lg (l' := [lF qI p0.2.2.1.1.1, lI p0.2.2.1.1.2.1, lF qI p0.2.2.1.1.2.2.1, lF qT p0.2.2.1.1.2.2.2, lM kvP qI p0.2.2.1.2]) ag141 (Gu.mk R R) R .Q R R R, O.mv (Gu.mk R R) R R, O.mv (Gu.mk R R) R R, O.ca0 (yP er5) cf150 R R (Gu.mk R R) R R R, O.bi (Gu.mk R R) R R R R, O.pkT Z R R R R, O.kn (O.mv Z R R) hc6, O.mv (Gu.mk R R) R R, O.nc .Q (Gu.mk R R) R R, O.faQ y3U (Gu.mk R R) R R, O.lg (l' := [lF qI p0.2.2.1.1.1, lI p0.2.2.1.1.2.1, lF qI p0.2.2.1.1.2.2.1, lF qT p0.2.2.1.1.2.2.2, lM kvP qI p0.2.2.1.2]) ag141 (Gu.mk R R) R .Q R R R, O.mv (Gu.mk R R) R R, O.mv (Gu.mk R R) R R, O.ca0 (yP er7) cf150 R R (Gu.mk R R) R R R, O.bi (Gu.mk R R) R R R R, O.pkT Z R R R R, O.kn (O.mv Z R R) hc8, O.mv (Gu.mk R R) R R, O.nc .Q (Gu.mk R R) R R, O.faQ ya2 (Gu.mk R R) R R, O.lg (l' := [lF qI p0.1.1.1, lI p0.1.1.2.1, lF qI p0.1.1.2.2.1, lF qT p0.1.1.2.2.2, lM kvP qI p0.1.2]) ag141 (Gu.mk R R) R .Q R R R, O.mv (Gu.mk R R) R R, O.nc .Q (Gu.mk R R) R R, O.faQ y7L (Gu.mk R R) R R, O.ld nag53 (Gu.mk R R) R .Q R R, O.mv (Gu.mk R R) R R, O.ix sl53 (Gu.mk R R) R R ex9 R, O.ld nag32 (Gu.mk R R) R (.E lv32) R R, O.ix sl32 (Gu.mk R R) R R ex10 R, O.ld nag3 (Gu.mk R R) R (.E lv3) R R, O.mv (Gu.mk R R) R R, O.ca0 (yP er11) cf150 R R (Gu.mk R R) R R R, O.bi (Gu.mk R R) R R R R, O.pkT Z R R R R, O.as Z R R, trivial⟩ (by kernel_rfl) R ?_
     exact (Jj3 _ hm).sub [] R
    ·skip
     refine .drw [(0, []), (0, [oT]), (0, [oT, oT]), (0, [oT, oT, oT]), (0, [oT, oT, oT, oT]), (0, [oT, oT, oT, oT, oT]), (0, [oT, oT, oT, oT, oT, oT]), (0, [oT, oT, oT]), (0, [oT, oT, oT]), (0, [oT, oT, oT, oT, oT, oT, oT, oT, oT]), (0, [oT, oT, oT, oT, oT, oT, oT, oT, oT, oT]), (0, [oT, oT, oT, oT, oT, oT, oT, oT, oT, oT, oT]), (0, [oT, oT, oT, oT, oT, oT, oT, oT, oT, oT, oT, oT]), (0, [oT, oT, oT, oT, oT, oT, oT, oT, oT, oT, oT, oT, oT]), (0, [oT, oT, oT, oT, oT, oT, oT, oT, oT, oT, oT, oT, oT, oT]), (0, [oT, oT, oT, oT, oT, oT, oT, oT, oT, oT, oT, oT, oT, oT, oT]), (0, [oT, oT, oT, oT, oT, oT, oT, oT, oT, oT, oT, oT, oT, oT, oT, oT]), (0, [oT, oT, oT, oT, oT, oT, oT, oT, oT, oT, oT, oT, oT]), (0, [oT, oT, oT, oT, oT, oT, oT, oT, oT, oT, oT, oT, oT]), (0, [oT, oT, oT, oT, oT, oT, oT, oT, oT, oT, oT, oT, oT, oT, oT, oT, oT, oT, oT]), (0, [oT, oT, oT, oT, oT, oT, oT, oT, oT, oT, oT, oT, oT, oT, oT, oT, oT, oT, oT, oT]), (0, [oT, oT, oT, oT, oT, oT, oT, oT, oT, oT, oT, oT, oT, oT, oT, oT, oT, oT, oT, oT, oT]), (0, [oT, oT, oT, oT, oT, oT, oT, oT, oT, oT, oT, oT, oT, oT, oT, oT, oT, oT, oT, oT, oT, oT]), (0, [oT, oT, oT, oT, oT, oT, oT, oT, oT, oT, oT, oT, oT, oT, oT, oT, oT, oT, oT, oT, oT, oT, oT]), (0, [oT, oT, oT, oT, oT, oT, oT, oT, oT, oT, oT, oT, oT, oT, oT, oT, oT, oT, oT, oT, oT, oT, oT, oT]), (0, [oT, oT, oT, oT, oT, oT, oT, oT, oT, oT, oT, oT, oT, oT, oT, oT, oT, oT, oT, oT, oT, oT, oT, oT, oT]), (0, [oT, oT, oT, oT, oT, oT, oT, oT, oT, oT, oT, oT, oT, oT, oT, oT, oT, oT, oT, oT, oT, oT, oT, oT, oT, oT]), (0, [oT, oT, oT, oT, oT, oT, oT, oT, oT, oT, oT, oT, oT, oT, oT, oT, oT, oT, oT, oT, oT, oT, oT]), (0, [oT, oT, oT, oT, oT, oT, oT, oT, oT, oT, oT, oT, oT, oT, oT, oT, oT, oT, oT, oT, oT, oT, oT, oF, oF, oF, oF, oT]), (0, [oT, oT, oT, oT, oT, oT, oT, oT, oT, oT, oT, oT, oT, oT, oT, oT, oT, oT, oT, oT, oT, oT, oT, oF, oF, oF, oF, oT, oT]), (0, [oT, oT, oT, oT, oT, oT, oT, oT, oT, oT, oT, oT, oT, oT, oT, oT, oT, oT, oT, oT, oT, oT, oT, oF, oF, oF, oF, oT, oT, oT]), (0, [oT, oT, oT, oT, oT, oT, oT, oT, oT, oT, oT, oT, oT, oT, oT, oT, oT, oT, oT, oT, oT, oT, oT]), (0, [oT, oT, oT, oT, oT, oT, oT, oT, oT, oT, oT, oT, oT, oT, oT, oT, oT, oT, oT, oT, oT, oT, oT, oF, oF, oF, oF, oT, oT, oT, oT, oT]), (0, [oT, oT, oT, oT, oT, oT, oT, oT, oT, oT, oT, oT, oT, oT, oT, oT, oT, oT, oT, oT, oT, oT, oT, oF, oF, oF, oF, oT, oT, oT, oT, oT, oT]), (0, [oT, oT, oT, oT, oT, oT, oT, oT, oT, oT, oT, oT, oT, oT, oT, oT, oT, oT, oT, oT, oT, oT, oT, oF, oF, oF, oF, oT, oT, oT, oT, oT, oT, oT]), (0, [oT, oT, oT, oT, oT, oT, oT, oT, oT, oT, oT, oT, oT, oT, oT, oT, oT, oT, oT, oT, oT, oT, oT, oF, oF, oF, oF, oT, oT, oT, oT, oT, oT, oT, oT]), (0, [oT, oT, oT, oT, oT, oT, oT, oT, oT, oT, oT, oT, oT, oT, oT, oT, oT, oT, oT, oT, oT, oT, oT]), (0, [oT, oT, oT, oT, oT, oT, oT, oT, oT, oT, oT, oT, oT, oT, oT, oT, oT, oT, oT, oT, oT, oT, oT, oT, oT, oT, oT, oT, oT, oT, oT, oT, oT, oT, oT, oT, oT]), (0, [oT, oT, oT, oT, oT, oT, oT, oT, oT, oT, oT, oT, oT, oT, oT, oT, oT, oT, oT, oT, oT, oT, oT, oT, oT, oT, oT, oT, oT, oT, oT, oT, oT, oT, oT, oT, oT, oT]), (0, [oT, oT, oT, oT, oT, oT, oT, oT, oT, oT, oT, oT, oT, oT, oT, oT, oT, oT, oT, oT, oT, oT, oT, oT, oT, oT, oT, oT, oT, oT, oT, oT, oT, oT, oT, oT, oT, oT, oT]), (0, [oT, oT, oT, oT, oT, oT, oT, oT, oT, oT, oT, oT, oT, oT, oT, oT, oT, oT, oT, oT, oT, oT, oT, oT, oT, oT, oT, oT, oT, oT, oT, oT, oT, oT, oT, oT, oT, oT, oT, oT])] [_, _, _, _, _, _, _, _, _, _, _, _, _, _, _, _, _, _, _, _, _, _, _, _, _, _, _, _, _, _, _, _, _, _, _, _, _, _, _, _, _] ⟨[(8, .b false)], [], 0⟩ ⟨O.mv Z R R, O.bi Z R R R R, O.kn (O.mv Z R R) hc4, O.mv (Gu.mk R R) R R, O.nc .Q (Gu.mk R R) R R, O.faQ y3U (Gu.mk R R) R R, O.lg (l' := [lF qI p0.2.2.1.1.1, lI p0.2.2.1.1.2.1, lF qI p0.2.2.1.1.2.2.1, lF qT p0.2.2.1.1.2.2.2, lM kvP qI p0.2.2.1.2]) ag141 (Gu.mk R R) R .Q R R R, O.mv (Gu.mk R R) R R, O.mv (Gu.mk R R) R R, O.ca0 (yP er5) cf150 R R (Gu.mk R R) R R R, O.bi (Gu.mk R R) R R R R, O.pkT Z R R R R, O.kn (O.mv Z R R) hc6, O.mv (Gu.mk R R) R R, O.nc .Q (Gu.mk R R) R R, O.faQ y3U (Gu.mk R R) R R, O.lg (l' := [lF qI p0.2.2.1.1.1, lI p0.2.2.1.1.2.1, lF qI p0.2.2.1.1.2.2.1, lF qT p0.2.2.1.1.2.2.2, lM kvP qI p0.2.2.1.2]) ag141 (Gu.mk R R) R .Q R R R, O.mv (Gu.mk R R) R R, O.mv (Gu.mk R R) R R, O.ca0 (yP er7) cf150 R R (Gu.mk R R) R R R, O.bi (Gu.mk R R) R R R R, O.pkT Z R R R R, O.kn (O.mv Z R R) hc8, O.skip R R R R, O.skip R R R R, O.skip R R R R, O.skip R R R R, O.skip R R R R, O.skip R R R R, O.skip R R R R, O.skip R R R R, O.skip R R R R, O.skip R R R R, O.skip R R R R, O.skip R R R R, O.skip R R R R, O.skip R R R R, O.skip R R R R, O.skip R R R R, O.pkF Z R R R R, O.as Z R R, trivial⟩ (by kernel_rfl) R ?_
     exact (Jj3 _ hm).sub [] R
   ·skip
    refine .drw [(0, []), (0, [oT]), (0, [oT, oT]), (0, [oT, oT, oT]), (0, [oT, oT, oT, oT]), (0, [oT, oT, oT, oT, oT]), (0, [oT, oT, oT, oT, oT, oT]), (0, [oT, oT, oT]), (0, [oT, oT, oT]), (0, [oT, oT, oT, oT, oT, oT, oT, oT, oT]), (0, [oT, oT, oT, oT, oT, oT, oT, oT, oT, oT]), (0, [oT, oT, oT, oT, oT, oT, oT, oT, oT, oT, oT]), (0, [oT, oT, oT, oT, oT, oT, oT, oT, oT, oT, oT, oT]), (0, [oT, oT, oT, oT, oT, oT, oT, oT, oT, oT, oT, oT, oT]), (0, [oT, oT, oT, oT, oT, oT, oT, oT, oT, oT, oT, oT, oT, oT]), (0, [oT, oT, oT, oT, oT, oT, oT, oT, oT, oT, oT, oT, oT, oT, oT]), (0, [oT, oT, oT, oT, oT, oT, oT, oT, oT, oT, oT, oT, oT, oT, oT, oT]), (0, [oT, oT, oT, oT, oT, oT, oT, oT, oT, oT, oT, oT, oT]), (0, [oT, oT, oT, oT, oT, oT, oT, oT, oT, oT, oT, oT, oT]), (0, [oT, oT, oT, oT, oT, oT, oT, oT, oT, oT, oT, oT, oT, oT, oT, oT, oT, oT, oT]), (0, [oT, oT, oT, oT, oT, oT, oT, oT, oT, oT, oT, oT, oT, oT, oT, oT, oT, oT, oT, oT]), (0, [oT, oT, oT, oT, oT, oT, oT, oT, oT, oT, oT, oT, oT, oT, oT, oT, oT, oT, oT, oT, oT]), (0, [oT, oT, oT, oT, oT, oT, oT, oT, oT, oT, oT, oT, oT, oT, oT, oT, oT, oT, oT, oT, oT, oT]), (0, [oT, oT, oT, oT, oT, oT, oT, oT, oT, oT, oT, oT, oT, oT, oT, oT, oT, oT, oT, oT, oT, oT, oT]), (0, [oT, oT, oT, oT, oT, oT, oT, oT, oT, oT, oT, oT, oT, oT, oT, oT, oT, oT, oT, oT, oT, oT, oT, oT]), (0, [oT, oT, oT, oT, oT, oT, oT, oT, oT, oT, oT, oT, oT, oT, oT, oT, oT, oT, oT, oT, oT, oT, oT, oT, oT]), (0, [oT, oT, oT, oT, oT, oT, oT, oT, oT, oT, oT, oT, oT, oT, oT, oT, oT, oT, oT, oT, oT, oT, oT, oT, oT, oT]), (0, [oT, oT, oT, oT, oT, oT, oT, oT, oT, oT, oT, oT, oT, oT, oT, oT, oT, oT, oT, oT, oT, oT, oT]), (0, [oT, oT, oT, oT, oT, oT, oT, oT, oT, oT, oT, oT, oT, oT, oT, oT, oT, oT, oT, oT, oT, oT, oT, oF, oF, oF, oF, oT]), (0, [oT, oT, oT, oT, oT, oT, oT, oT, oT, oT, oT, oT, oT, oT, oT, oT, oT, oT, oT, oT, oT, oT, oT, oF, oF, oF, oF, oT, oT]), (0, [oT, oT, oT, oT, oT, oT, oT, oT, oT, oT, oT, oT, oT, oT, oT, oT, oT, oT, oT, oT, oT, oT, oT, oF, oF, oF, oF, oT, oT, oT]), (0, [oT, oT, oT, oT, oT, oT, oT, oT, oT, oT, oT, oT, oT, oT, oT, oT, oT, oT, oT, oT, oT, oT, oT]), (0, [oT, oT, oT, oT, oT, oT, oT, oT, oT, oT, oT, oT, oT, oT, oT, oT, oT, oT, oT, oT, oT, oT, oT, oF, oF, oF, oF, oT, oT, oT, oT, oT]), (0, [oT, oT, oT, oT, oT, oT, oT, oT, oT, oT, oT, oT, oT, oT, oT, oT, oT, oT, oT, oT, oT, oT, oT, oF, oF, oF, oF, oT, oT, oT, oT, oT, oT]), (0, [oT, oT, oT, oT, oT, oT, oT, oT, oT, oT, oT, oT, oT, oT, oT, oT, oT, oT, oT, oT, oT, oT, oT, oF, oF, oF, oF, oT, oT, oT, oT, oT, oT, oT]), (0, [oT, oT, oT, oT, oT, oT, oT, oT, oT, oT, oT, oT, oT, oT, oT, oT, oT, oT, oT, oT, oT, oT, oT, oF, oF, oF, oF, oT, oT, oT, oT, oT, oT, oT, oT]), (0, [oT, oT, oT, oT, oT, oT, oT, oT, oT, oT, oT, oT, oT, oT, oT, oT, oT, oT, oT, oT, oT, oT, oT]), (0, [oT, oT, oT, oT, oT, oT, oT, oT, oT, oT, oT, oT, oT, oT, oT, oT, oT, oT, oT, oT, oT, oT, oT, oT, oT, oT, oT, oT, oT, oT, oT, oT, oT, oT, oT, oT, oT]), (0, [oT, oT, oT, oT, oT, oT, oT, oT, oT, oT, oT, oT, oT, oT, oT, oT, oT, oT, oT, oT, oT, oT, oT, oT, oT, oT, oT, oT, oT, oT, oT, oT, oT, oT, oT, oT, oT, oT]), (0, [oT, oT, oT, oT, oT, oT, oT, oT, oT, oT, oT, oT, oT, oT, oT, oT, oT, oT, oT, oT, oT, oT, oT, oT, oT, oT, oT, oT, oT, oT, oT, oT, oT, oT, oT, oT, oT, oT, oT]), (0, [oT, oT, oT, oT, oT, oT, oT, oT, oT, oT, oT, oT, oT, oT, oT, oT, oT, oT, oT, oT, oT, oT, oT, oT, oT, oT, oT, oT, oT, oT, oT, oT, oT, oT, oT, oT, oT, oT, oT, oT])] [_, _, _, _, _, _, _, _, _, _, _, _, _, _, _, _, _, _, _, _, _, _, _, _, _, _, _, _, _, _, _, _, _, _, _, _, _, _, _, _, _] ⟨[(8, .b false)], [], 0⟩ ⟨O.mv Z R R, O.bi Z R R R R, O.kn (O.mv Z R R) hc4, O.mv (Gu.mk R R) R R, O.nc .Q (Gu.mk R R) R R, O.faQ y3U (Gu.mk R R) R R, O.lg (l' := [lF qI p0.2.2.1.1.1, lI p0.2.2.1.1.2.1, lF qI p0.2.2.1.1.2.2.1, lF qT p0.2.2.1.1.2.2.2, lM kvP qI p0.2.2.1.2]) ag141 (Gu.mk R R) R .Q R R R, O.mv (Gu.mk R R) R R, O.mv (Gu.mk R R) R R, O.ca0 (yP er5) cf150 R R (Gu.mk R R) R R R, O.bi (Gu.mk R R) R R R R, O.pkT Z R R R R, O.kn (O.mv Z R R) hc6, O.skip R R R R, O.skip R R R R, O.skip R R R R, O.skip R R R R, O.skip R R R R, O.skip R R R R, O.skip R R R R, O.skip R R R R, O.pkF Z R R R R, O.mv Z R R, O.skip R R R R, O.skip R R R R, O.skip R R R R, O.skip R R R R, O.skip R R R R, O.skip R R R R, O.skip R R R R, O.skip R R R R, O.skip R R R R, O.skip R R R R, O.skip R R R R, O.skip R R R R, O.skip R R R R, O.skip R R R R, O.skip R R R R, O.skip R R R R, O.pkF Z R R R R, O.as Z R R, trivial⟩ (by kernel_rfl) R ?_
    exact (Jj3 _ hm).sub [] R
  ·skip
   refine .drw [(0, []), (0, [oT]), (0, [oT, oT]), (0, [oT, oT, oT]), (0, [oT, oT, oT, oT]), (0, [oT, oT, oT, oT, oT]), (0, [oT, oT, oT, oT, oT, oT]), (0, [oT, oT, oT]), (0, [oT, oT, oT]), (0, [oT, oT, oT, oT, oT, oT, oT, oT, oT]), (0, [oT, oT, oT, oT, oT, oT, oT, oT, oT, oT]), (0, [oT, oT, oT, oT, oT, oT, oT, oT, oT, oT, oT]), (0, [oT, oT, oT, oT, oT, oT, oT, oT, oT, oT, oT, oT]), (0, [oT, oT, oT, oT, oT, oT, oT, oT, oT, oT, oT, oT, oT]), (0, [oT, oT, oT, oT, oT, oT, oT, oT, oT, oT, oT, oT, oT, oT]), (0, [oT, oT, oT, oT, oT, oT, oT, oT, oT, oT, oT, oT, oT, oT, oT]), (0, [oT, oT, oT, oT, oT, oT, oT, oT, oT, oT, oT, oT, oT, oT, oT, oT]), (0, [oT, oT, oT, oT, oT, oT, oT, oT, oT, oT, oT, oT, oT]), (0, [oT, oT, oT, oT, oT, oT, oT, oT, oT, oT, oT, oT, oT]), (0, [oT, oT, oT, oT, oT, oT, oT, oT, oT, oT, oT, oT, oT, oT, oT, oT, oT, oT, oT]), (0, [oT, oT, oT, oT, oT, oT, oT, oT, oT, oT, oT, oT, oT, oT, oT, oT, oT, oT, oT, oT]), (0, [oT, oT, oT, oT, oT, oT, oT, oT, oT, oT, oT, oT, oT, oT, oT, oT, oT, oT, oT, oT, oT]), (0, [oT, oT, oT, oT, oT, oT, oT, oT, oT, oT, oT, oT, oT, oT, oT, oT, oT, oT, oT, oT, oT, oT]), (0, [oT, oT, oT, oT, oT, oT, oT, oT, oT, oT, oT, oT, oT, oT, oT, oT, oT, oT, oT, oT, oT, oT, oT]), (0, [oT, oT, oT, oT, oT, oT, oT, oT, oT, oT, oT, oT, oT, oT, oT, oT, oT, oT, oT, oT, oT, oT, oT, oT]), (0, [oT, oT, oT, oT, oT, oT, oT, oT, oT, oT, oT, oT, oT, oT, oT, oT, oT, oT, oT, oT, oT, oT, oT, oT, oT]), (0, [oT, oT, oT, oT, oT, oT, oT, oT, oT, oT, oT, oT, oT, oT, oT, oT, oT, oT, oT, oT, oT, oT, oT, oT, oT, oT]), (0, [oT, oT, oT, oT, oT, oT, oT, oT, oT, oT, oT, oT, oT, oT, oT, oT, oT, oT, oT, oT, oT, oT, oT]), (0, [oT, oT, oT, oT, oT, oT, oT, oT, oT, oT, oT, oT, oT, oT, oT, oT, oT, oT, oT, oT, oT, oT, oT, oF, oF, oF, oF, oT]), (0, [oT, oT, oT, oT, oT, oT, oT, oT, oT, oT, oT, oT, oT, oT, oT, oT, oT, oT, oT, oT, oT, oT, oT, oF, oF, oF, oF, oT, oT]), (0, [oT, oT, oT, oT, oT, oT, oT, oT, oT, oT, oT, oT, oT, oT, oT, oT, oT, oT, oT, oT, oT, oT, oT, oF, oF, oF, oF, oT, oT, oT]), (0, [oT, oT, oT, oT, oT, oT, oT, oT, oT, oT, oT, oT, oT, oT, oT, oT, oT, oT, oT, oT, oT, oT, oT]), (0, [oT, oT, oT, oT, oT, oT, oT, oT, oT, oT, oT, oT, oT, oT, oT, oT, oT, oT, oT, oT, oT, oT, oT, oF, oF, oF, oF, oT, oT, oT, oT, oT]), (0, [oT, oT, oT, oT, oT, oT, oT, oT, oT, oT, oT, oT, oT, oT, oT, oT, oT, oT, oT, oT, oT, oT, oT, oF, oF, oF, oF, oT, oT, oT, oT, oT, oT]), (0, [oT, oT, oT, oT, oT, oT, oT, oT, oT, oT, oT, oT, oT, oT, oT, oT, oT, oT, oT, oT, oT, oT, oT, oF, oF, oF, oF, oT, oT, oT, oT, oT, oT, oT]), (0, [oT, oT, oT, oT, oT, oT, oT, oT, oT, oT, oT, oT, oT, oT, oT, oT, oT, oT, oT, oT, oT, oT, oT, oF, oF, oF, oF, oT, oT, oT, oT, oT, oT, oT, oT]), (0, [oT, oT, oT, oT, oT, oT, oT, oT, oT, oT, oT, oT, oT, oT, oT, oT, oT, oT, oT, oT, oT, oT, oT]), (0, [oT, oT, oT, oT, oT, oT, oT, oT, oT, oT, oT, oT, oT, oT, oT, oT, oT, oT, oT, oT, oT, oT, oT, oT, oT, oT, oT, oT, oT, oT, oT, oT, oT, oT, oT, oT, oT]), (0, [oT, oT, oT, oT, oT, oT, oT, oT, oT, oT, oT, oT, oT, oT, oT, oT, oT, oT, oT, oT, oT, oT, oT, oT, oT, oT, oT, oT, oT, oT, oT, oT, oT, oT, oT, oT, oT, oT]), (0, [oT, oT, oT, oT, oT, oT, oT, oT, oT, oT, oT, oT, oT, oT, oT, oT, oT, oT, oT, oT, oT, oT, oT, oT, oT, oT, oT, oT, oT, oT, oT, oT, oT, oT, oT, oT, oT, oT, oT]), (0, [oT, oT, oT, oT, oT, oT, oT, oT, oT, oT, oT, oT, oT, oT, oT, oT, oT, oT, oT, oT, oT, oT, oT, oT, oT, oT, oT, oT, oT, oT, oT, oT, oT, oT, oT, oT, oT, oT, oT, oT])] [_, _, _, _, _, _, _, _, _, _, _, _, _, _, _, _, _, _, _, _, _, _, _, _, _, _, _, _, _, _, _, _, _, _, _, _, _, _, _, _, _] ⟨[(8, .b false)], [], 0⟩ ⟨O.mv Z R R, O.bi Z R R R R, O.kn (O.mv Z R R) hc4, O.skip R R R R, O.skip R R R R, O.skip R R R R, O.skip R R R R, O.skip R R R R, O.skip R R R R, O.skip R R R R, O.skip R R R R, O.pkF Z R R R R, O.mv Z R R, O.skip R R R R, O.skip R R R R, O.skip R R R R, O.skip R R R R, O.skip R R R R, O.skip R R R R, O.skip R R R R, O.skip R R R R, O.pkF Z R R R R, O.mv Z R R, O.skip R R R R, O.skip R R R R, O.skip R R R R, O.skip R R R R, O.skip R R R R, O.skip R R R R, O.skip R R R R, O.skip R R R R, O.skip R R R R, O.skip R R R R, O.skip R R R R, O.skip R R R R, O.skip R R R R, O.skip R R R R, O.skip R R R R, O.skip R R R R, O.pkF Z R R R R, O.as Z R R, trivial⟩ (by kernel_rfl) R ?_
   exact (Jj3 _ hm).sub [] R
def y3I (x2 : (AutT × (List KeyT)) × (AutT × (List KeyT)) × (AutT × (List KeyT)) × List (List Int) × List Int × List Int) (st46 : Int) (x78 : Int) (st84 : Int) : Option (Int ⊕ (Unit ⊕ (List Int × List Int))) :=
 if decide (st84 < (x2.2.2.2.2.2.length : Int)) then
  (idx x2.2.2.2.2.2 st84).bind fun x91 =>
  (y2L x2 st46 x78 x91).bind fun r92 =>
  if r92 then
   (y2e x2.2.2.1 st46).bind fun r93 =>
   some (.inr (.inr ((r93, ([x78, x91] : List Int)))))
  else
   some (.inl (W (st84 + 1)))
 else
  some (.inr (.inl ()))
def y3J (x2 : (AutT × (List KeyT)) × (AutT × (List KeyT)) × (AutT × (List KeyT)) × List (List Int) × List Int × List Int) (st46 : Int) (st71 : Int) : Option (Int ⊕ (Unit ⊕ (List Int × List Int))) :=
 if decide (st71 < (x2.2.2.2.2.1.length : Int)) then
  (idx x2.2.2.2.2.1 st71).bind fun x78 =>
  (iter (y3I x2 st46 x78) 0).bind fun o84 =>
  match o84 with
  | .inl u87 =>
   some (.inl (W (st71 + 1)))
  | .inr (u89) =>
   some (.inr (.inr (u89)))
 else
  some (.inr (.inl ()))
def y4t (x2 : (AutT × (List KeyT)) × (AutT × (List KeyT)) × (AutT × (List KeyT)) × List (List Int) × List Int × List Int) (st46 : Int) : Option (Int ⊕ (Unit ⊕ (List Int × List Int))) :=
 if decide (st46 < (x2.2.2.2.1.length : Int)) then
  (iter (y3J x2 st46) 0).bind fun o71 =>
  match o71 with
  | .inl u74 =>
   some (.inl (W (st46 + 1)))
  | .inr (u76) =>
   some (.inr (.inr (u76)))
 else
  some (.inr (.inl ()))
def y4W (p0 : AutT × AutT × List Int) : Option ((Int × List Int × List Int) × Bool × Int) :=
 (y2N p0).bind fun r1 =>
 if (r1.2 != 0) then
  some ((0, ([] : List Int), ([] : List Int)), false, r1.2)
 else
  r1.1.bind fun x2 =>
  (iter (y4t x2) 0).bind fun o46 =>
  match o46 with
  | .inl u49 =>
   some ((0, ([] : List Int), ([] : List Int)), true, 0)
  | .inr (u51) =>
   some ((2, u51), false, 0)
theorem y9H {p0 : AutT × AutT × List Int} {r : (Int × List Int × List Int) × Bool × Int} (hm : y4W p0 = some r) :
  Fw Tryz.prog 30 ⟨0, []⟩ [.a [lF qI p0.1.1, lI p0.1.2.1, lF qI p0.1.2.2.1, lF qT p0.1.2.2.2, lF qI p0.2.1.1, lI p0.2.1.2.1, lF qI p0.2.1.2.2.1, lF qT p0.2.1.2.2.2, lF qI p0.2.2]] [] (.tp [.a [lI r.1.1, lH 0, lF qI r.1.2.2], .b r.2.1, .i r.2.2]) [ROW qI 3 r.1.2.1] := by
 unfold y4W at hm
 refine Fw.mk' Tryz.func30 R Tryz.ntmps30 R R (fun C => ?_) R R
 refine .seq (.reg (.op (O.box 0 R Z R R R) R (.op (O.al 1 R zz44 R Z R) R (.sa R (.sa R (.nil (.seqN (.seq (.reg (.op (O.lg (l' := [lF qI p0.1.1, lI p0.1.2.1, lF qI p0.1.2.2.1, lF qT p0.1.2.2.2, lF qI p0.2.1.1, lI p0.2.1.2.1, lF qI p0.2.1.2.2.1, lF qT p0.2.1.2.2.2, lF qI p0.2.2]) ag37 Z R (.B R) R R R) R (bS hm fun r1 er1 hm => .op (O.ca0 (y6F er1) cf85 R R Z R R R) R (.mv R (.op (O.ex Z R R R) R (.op (O.ex Z R R R) R (.sa R (.sa R (.nil (.seqN (.seq (.seq (.reg (.mv R (.bi R (.nil (.seqN ?_)))))))))))))))))))))))))
 rcases ifS hm with ⟨hc, hm⟩ | ⟨hc, hm⟩
 ·refine .cT R hc ?_
  refine .seq (.reg (.op (O.bu (l := [lI 0, lN, lN]) pl44 R Z R R R) R (.mv R (.op (O.st ag44.sz Z R R R R R) R (.sa R (.sa R (.nil (.seqN (.ret (.seqR (.nlb qI 3 1 1 R R (.cno 1 R (.c .rf (.c .rf (.c (.nf (r := qI)) .n))) R ?_))))))))))))
  obtain rfl := oi hm
  exact WX.rt [2] (.inl R) Tryz.results30 (.cell R R ag44 R (.tmp R (.tmp R .nil))) R (fun _ _ _ h => h) ⟨⟨_, R, fun _ _ _ _ h => h⟩, trivial⟩
 ·refine .cF R hc ?_
  refine .skip (.seqN (.seq (.seq (.reg (.mv R (bS hm fun x2 ex2 hm => .cnt 20 R (.c (.pd ex2 lv155) .n) R (.cnt 5 R (.c (.pd ex2 lv155) .n) R (.cnt 14 R (.c (.pd ex2 lv155) .n) R (.op (O.nc .Q Z R R) R (.op (O.faQ y7L Z R R) R (.op (O.ld nag53 Z R .Q R R) R (.op (O.len sl53 Z R R) R (.mv R (.nil (.seqN (.block (bS hm fun o46 eo46 hm => ?_)))))))))))))))))
  refine .cutU (z := .exit 0) (fun u49 => .inl u49 = o46) (fun (u49 : Unit) => ⟨[(2, .q 0 0)], [(0, .bx 44 [lI 0, lN, lN])], 1⟩) ?_ fun K50 => ?_
  ·rintro u49 rfl
   dsimp only at hm
   refine .blkE (.seqN (.seq (.reg (.op (O.bu (l := [lI 0, lN, lN]) pl44 R Z R R R) R (.op (O.st ag44.sz Z R R R R R) R (.sa R (.sa R (.nil (.seqN (.ret (.nlb qI 3 0 1 R R (.cno 0 R (.c .rf (.c .rf (.c (.nf (r := qI)) .n))) R ?_))))))))))))
   obtain rfl := oi hm
   exact WX.rt [1] (.inl R) Tryz.results30 (.cell R R ag44 R (.tmp R (.tmp R .nil))) R (fun _ _ _ h => h) ⟨⟨_, R, fun _ _ _ _ h => h⟩, trivial⟩
  refine .cutU (z := .ret) (fun u51 => .inr (u51) = o46) (fun (u51 : List Int × List Int) => ⟨[(4, .i 0), (3, .b false), (2, .q 0 0)], [(0, .bx 44 [lI 2, lH 1, lF qI u51.2]), (1, ROW qI 3 u51.1)], 2⟩) ?_ fun K52 => ?_
  ·rintro u51 rfl
   dsimp only at hm
   refine .blkR (.seqR ?_)
   obtain rfl := oi hm
   exact WX.rt [1] (.inl R) Tryz.results30 (.cell R R ag44 R (.tmp R (.tmp R .nil))) R (fun _ _ _ h => h) ⟨⟨_, R, fun _ _ _ _ h => h⟩, trivial⟩
  refine .iter (fun (st46 : Int) => ⟨[(25, .i st46), (24, .i (x2.2.2.2.1.length : Int)), (5, .o (lQ 155 (lx155 x2) 0)), (2, .q 0 0)], [(0, .bx 44 [lI 0, lN, lN])], 1⟩) eo46 [(0, 1)] R ?_
  intro st46 res46 hm ih46 ho46
  unfold y4t at hm
  refine .seq (.reg (.bi R (.nil (.seqN (.seq ?_)))))
  rcases ifS hm with ⟨hc, hm⟩ | ⟨hc, hm⟩
  ·refine .cT R hc ?_
   refine .skip (.seqN (.seq (.block (.seq (.reg (.mv R (.sa R (.nil (.seqN (.seq (.reg (.mv R (.op (O.nc .Q Z R R) R (.op (O.faQ y6n Z R R) R (.op (O.ld nag32 Z R .Q R R) R (.op (O.len sl32 Z R R) R (.mv R (.nil (.seqN (.block (bS hm fun o71 eo71 hm => ?_)))))))))))))))))))))
   refine .cutU (z := .exit 2) (fun u74 => .inl u74 = o71) (fun (u74 : Unit) => ⟨[(25, .i st46), (24, .i (x2.2.2.2.1.length : Int)), (5, .o (lQ 155 (lx155 x2) 0)), (2, .q 0 0)], [(0, .bx 44 [lI 0, lN, lN])], 1⟩) ?_ fun K75 => ?_
   ·rintro u74 rfl
    dsimp only at hm
    exact .blkE (.blkN (.seqN (.reg (.bi R (.mv R (.nil ((ih46 _ (oi hm).symm).sub [] R)))))))
   refine .cutU (z := .ret) (fun u76 => .inr (u76) = o71) (fun (u76 : List Int × List Int) => ⟨[(4, .i 0), (3, .b false), (2, .q 0 0)], [(0, .bx 44 [lI 2, lH 1, lF qI u76.2]), (1, ROW qI 3 u76.1)], 2⟩) ?_ fun K77 => ?_
   ·rintro u76 rfl
    dsimp only at hm
    exact .blkR (.blkR (.seqR (.seqR ((K52 _ (ho46 _ (oi hm).symm)).sub [] R))))
   refine .iter (fun (st71 : Int) => ⟨[(33, .i st71), (32, .i (x2.2.2.2.2.1.length : Int)), (31, .f qI x2.2.2.2.2.1), (6, .i st46), (25, .i st46), (24, .i (x2.2.2.2.1.length : Int)), (5, .o (lQ 155 (lx155 x2) 0)), (2, .q 0 0)], [(0, .bx 44 [lI 0, lN, lN])], 1⟩) eo71 [] R ?_
   intro st71 res71 hm ih71 ho71
   unfold y3J at hm
   refine .seq (.reg (.bi R (.nil (.seqN (.seq ?_)))))
   rcases ifS hm with ⟨hc, hm⟩ | ⟨hc, hm⟩
   ·refine .cT R hc ?_
    refine .skip (.seqN (.seq (.block (.seq (.reg (bS hm fun x78 ex78 hm => .op (O.ix sl32 Z R R ex78 R) R (.op (O.ld nag3 Z R (.E lv3) R R) R (.sa R (.nil (.seqN (.seq (.reg (.mv R (.op (O.nc .Q Z R R) R (.op (O.faQ ya4 Z R R) R (.op (O.ld nag32 Z R .Q R R) R (.op (O.len sl32 Z R R) R (.mv R (.nil (.seqN (.block (bS hm fun o84 eo84 hm => ?_))))))))))))))))))))))
    refine .cutU (z := .exit 4) (fun u87 => .inl u87 = o84) (fun (u87 : Unit) => ⟨[(33, .i st71), (32, .i (x2.2.2.2.2.1.length : Int)), (31, .f qI x2.2.2.2.2.1), (6, .i st46), (25, .i st46), (24, .i (x2.2.2.2.1.length : Int)), (5, .o (lQ 155 (lx155 x2) 0)), (2, .q 0 0)], [(0, .bx 44 [lI 0, lN, lN])], 1⟩) ?_ fun K88 => ?_
    ·rintro u87 rfl
     dsimp only at hm
     exact .blkE (.blkN (.seqN (.reg (.bi R (.mv R (.nil ((ih71 _ (oi hm).symm).sub [] R)))))))
    refine .cutU (z := .ret) (fun u89 => .inr (u89) = o84) (fun (u89 : List Int × List Int) => ⟨[(4, .i 0), (3, .b false), (2, .q 0 0)], [(0, .bx 44 [lI 2, lH 1, lF qI u89.2]), (1, ROW qI 3 u89.1)], 2⟩) ?_ fun K90 => ?_
    ·rintro u89 rfl
     dsimp only at hm
     exact .blkR (.blkR (.seqR (.seqR ((K77 _ (ho71 _ (oi hm).symm)).sub [] R))))
    refine .iter (fun (st84 : Int) => ⟨[(42, .i st84), (41, .i (x2.2.2.2.2.2.length : Int)), (40, .f qI x2.2.2.2.2.2), (8, .i x78), (33, .i st71), (32, .i (x2.2.2.2.2.1.length : Int)), (31, .f qI x2.2.2.2.2.1), (6, .i st46), (25, .i st46), (24, .i (x2.2.2.2.1.length : Int)), (5, .o (lQ 155 (lx155 x2) 0)), (2, .q 0 0)], [(0, .bx 44 [lI 0, lN, lN])], 1⟩) eo84 [] R ?_
    intro st84 res84 hm ih84 ho84
    unfold y3I at hm
    refine .seq (.reg (.bi R (.nil (.seqN (.seq ?_)))))
    rcases ifS hm with ⟨hc, hm⟩ | ⟨hc, hm⟩
    ·refine .cT R hc ?_
     refine .skip (.seqN (.seq (.block (.seq (.reg (bS hm fun x91 ex91 hm => .op (O.ix sl32 Z R R ex91 R) R (.op (O.ld nag3 Z R (.E lv3) R R) R (.sa R (.nil (.seqN (.seq (.reg (.mv R (.mv R (.mv R (.mv R (bS hm fun r92 er92 hm => .op (O.ca0 (y5R er92) cf90 R R Z R R R) R (.nil (.seqN ?_)))))))))))))))))))
     rcases ifS hm with ⟨hc, hm⟩ | ⟨hc, hm⟩
     ·refine .cT R hc ?_
      exact .seq (.reg (.mv R (.op (O.nc .Q Z R R) R (.op (O.faQ y3U Z R R) R (.op (O.lg (l' := [lF qI x2.2.2.1.1.1, lI x2.2.2.1.1.2.1, lF qI x2.2.2.1.1.2.2.1, lF qT x2.2.2.1.1.2.2.2, lM kvP qI x2.2.2.1.2]) ag141 Z R .Q R R R) R (.mv R (bS hm fun r93 er93 hm => .op (O.ca (r' := .h 1) [1] [(0, ROW qI 3 r93)] (some 2) (y5a er93) cf81 R R Z R R R R ⟨⟨_, R, fun _ _ _ _ h => h⟩, trivial⟩ (fun _ _ _ h => h) R) R (.mv R (.mv R (.op (O.bsF (r := qI) (zs := ([x78, x91] : List Int)) bs32 R R Z R R R (.c .k (.c .k .n)) R R R) R (.op (O.bu (l := [lI 2, lH 1, lF qI ([x78, x91] : List Int)]) pl44 R Z R R R) R (.op (O.st ag44.sz Z R R R R R) R (.sa R (.sa R (.nil (.seqN (.ret (.blkR (.seqR (.seqR ((K90 _ (ho84 _ (oi hm).symm)).sub [] R)))))))))))))))))))))
     ·refine .cF R hc ?_
      exact .skip (.blkN (.seqN (.reg (.bi R (.mv R (.nil ((ih84 _ (oi hm).symm).sub [] R)))))))
    ·refine .cF R hc ?_
     exact .exit (.seqX (.seqX ((K88 _ (ho84 _ (oi hm).symm)).sub [] R)))
   ·refine .cF R hc ?_
    exact .exit (.seqX (.seqX ((K75 _ (ho71 _ (oi hm).symm)).sub [] R)))
  ·refine .cF R hc ?_
   exact .exit (.seqX (.seqX ((K50 _ (ho46 _ (oi hm).symm)).sub [] R)))
def y2Z (p0 : AutT × (List KeyT)) (p1 : List Int) (st7 : Int × Int) : Option ((Int × Int) ⊕ (Int ⊕ Unit)) :=
 if decide (st7.1 < (p1.length : Int)) then
  (idx p1 st7.1).bind fun x13 =>
  (yS p0 st7.2 x13).bind fun r14 =>
  if (r14 == (-1)) then
   some (.inr (.inr (())))
  else
   some (.inl (W (st7.1 + 1), r14))
 else
  some (.inr (.inl st7.2))
def y2u (p0 : AutT × (List KeyT)) (p1 : List Int) : Option Int :=
 if (p0.1.2.1 == 0) then
  some (-1)
 else
  (iter (y2Z p0 p1) (0, 0)).bind fun o7 =>
  match o7 with
  | .inl u9 =>
   some u9
  | .inr (u11) =>
   some (-1)
theorem y6h {p0 : AutT × (List KeyT)} {p1 : List Int} {r : Int} (hm : y2u p0 p1 = some r) :
  Fw Tryz.prog 91 ⟨0, []⟩ [.a [lF qI p0.1.1, lI p0.1.2.1, lF qI p0.1.2.2.1, lF qT p0.1.2.2.2, lM kvP qI p0.2], .f qI p1] [] (.i r) [] := by
 unfold y2u at hm
 refine Fw.mk' Tryz.func91 R Tryz.ntmps91 R R (fun C => ?_) R R
 refine .seq (.reg (.op (O.box 0 R Z R R R) R (.sa R (.nil (.seqN (.seq (.seq (.reg (.op (O.faP y4D Z R R) R (.op (O.faP y1N Z R R) R (.op (O.ld nag3 Z R (.B R) R R) R (.bi R (.nil (.seqN ?_))))))))))))))
 rcases ifS hm with ⟨hc, hm⟩ | ⟨hc, hm⟩
 ·refine .cT R hc ?_
  refine .seq (.reg (.sa R (.nil (.seqN (.ret (.seqR ?_))))))
  obtain rfl := oi hm
  exact WX.rt [] (.inl R) Tryz.results91 (.tmp R .nil) R (fun _ _ _ h => h) trivial
 ·refine .cF R hc ?_
  refine .skip (.seqN (.seq (.reg (.sa R (.nil (.seqN (.seq (.seq (.reg (.mv R (.op (O.len sl32 Z R R) R (.mv R (.nil (.seqN (.block (bS hm fun o7 eo7 hm => ?_))))))))))))))))
  refine .cutU (z := .exit 0) (fun u9 => .inl u9 = o7) (fun (u9 : Int) => ⟨[(5, .i u9)], [], 0⟩) ?_ fun K10 => ?_
  ·rintro u9 rfl
   dsimp only at hm
   refine .blkE (.seqN (.seq (.reg (.mv R (.sa R (.nil (.seqN (.ret ?_))))))))
   obtain rfl := oi hm
   exact WX.rt [] (.inl R) Tryz.results91 (.tmp R .nil) R (fun _ _ _ h => h) trivial
  refine .cutU (z := .ret) (fun u11 => .inr (u11) = o7) (fun (u11 : Unit) => ⟨[(4, .i (-1))], [], 0⟩) ?_ fun K12 => ?_
  ·rintro u11 rfl
   dsimp only at hm
   refine .blkR (.seqR ?_)
   obtain rfl := oi hm
   exact WX.rt [] (.inl R) Tryz.results91 (.tmp R .nil) R (fun _ _ _ h => h) trivial
  refine .iter (fun (st7 : Int × Int) => ⟨[(14, .i st7.1), (13, .i (p1.length : Int)), (12, .f qI p1), (5, .i st7.2), (2, .q 0 0)], [(0, .bx 141 [lF qI p0.1.1, lI p0.1.2.1, lF qI p0.1.2.2.1, lF qT p0.1.2.2.2, lM kvP qI p0.2])], 1⟩) eo7 [] R ?_
  intro st7 res7 hm ih7 ho7
  unfold y2Z at hm
  refine .seq (.reg (.bi R (.nil (.seqN (.seq ?_)))))
  rcases ifS hm with ⟨hc, hm⟩ | ⟨hc, hm⟩
  ·refine .cT R hc ?_
   refine .skip (.seqN (.seq (.block (.seq (.reg (bS hm fun x13 ex13 hm => .op (O.ix sl32 Z R R ex13 R) R (.op (O.ld nag3 Z R (.E lv3) R R) R (.sa R (.nil (.seqN (.seq (.reg (.op (O.lg (l' := [lF qI p0.1.1, lI p0.1.2.1, lF qI p0.1.2.2.1, lF qT p0.1.2.2.2, lM kvP qI p0.2]) ag141 Z R (.B R) R R R) R (.mv R (.mv R (bS hm fun r14 er14 hm => .op (O.ca0 (yP er14) cf150 R R Z R R R) R (.sa R (.nil (.seqN (.seq (.reg (.mv R (.bi R (.nil (.seqN ?_)))))))))))))))))))))))))
   rcases ifS hm with ⟨hc, hm⟩ | ⟨hc, hm⟩
   ·refine .cT R hc ?_
    exact .seq (.reg (.sa R (.nil (.seqN (.ret (.blkR (.seqR (.seqR ((K12 _ (ho7 _ (oi hm).symm)).sub [] R)))))))))
   ·refine .cF R hc ?_
    exact .skip (.blkN (.seqN (.reg (.bi R (.mv R (.nil ((ih7 _ (oi hm).symm).sub [] R)))))))
  ·refine .cF R hc ?_
   exact .exit (.seqX (.seqX ((K10 _ (ho7 _ (oi hm).symm)).sub [] R)))
def y4z (q0 : List Int) (p0 : List Int) : Option Bool :=
 (y2U p0 q0).bind fun r1 =>
 some r1
theorem y7R {q0 : List Int} {p0 : List Int} {r : Bool} (hm : y4z q0 p0 = some r) :
  Fw Tryz.prog 155 ⟨0, []⟩ [.f qI p0, .o (lQ 32 [lF qI q0] 0)] [] (.b r) [] := by
 unfold y4z at hm
 refine Fw.mk' Tryz.func155 R Tryz.ntmps155 R R (fun C => ?_) R R
 refine .seq (.reg (.sa R (.nil (.seqN (.seq (.reg (.mv R (.op (O.ld nag32 Z R .Q R R) R (bS hm fun r1 er1 hm => .op (O.ca0 (y6g er1) cf82 R R Z R R R) R (.sa R (.nil (.seqN (.ret ?_)))))))))))))
 obtain rfl := oi hm
 exact WX.rt [] (.inl R) Tryz.results155 (.tmp R .nil) R (fun _ _ _ h => h) trivial
def y4M (p0 : List (List Int)) (p1 : (List Int) → Option Bool) (st5 : Int) : Option (Int ⊕ (Unit ⊕ Int)) :=
 if decide (st5 < (p0.length : Int)) then
  (idx p0 st5).bind fun x11 =>
  (p1 x11).bind fun r12 =>
  if r12 then
   some (.inr (.inr (st5)))
  else
   some (.inl (W (st5 + 1)))
 else
  some (.inr (.inl ()))
def y4e (p0 : List (List Int)) (p1 : (List Int) → Option Bool) : Option Int :=
 (iter (y4M p0 p1) 0).bind fun o5 =>
 match o5 with
 | .inl u7 =>
  some (-1)
 | .inr (u9) =>
  some u9
theorem y6o {p0 : List (List Int)} {p1 : (List Int) → Option Bool} {r : Int} (hm : y4e p0 p1 = some r) :
  Fw Tryz.prog 204 ⟨0, []⟩ [.f (rL qI) p0, .o (lW Tryz.prog (fun (x : List Int) => [.f qI x]) (fun (r : Bool) => .b r) p1)] [] (.i r) [] := by
 unfold y4e at hm
 refine Fw.mk' Tryz.func204 R Tryz.ntmps204 R R (fun C => ?_) R R
 refine .seq (.reg (.sa R (.nil (.seqN (.seq (.seq (.reg (.mv R (.op (O.len sl53 Z R R) R (.mv R (.nil (.seqN (.block (bS hm fun o5 eo5 hm => ?_))))))))))))))
 refine .cutU (z := .exit 0) (fun u7 => .inl u7 = o5) (fun (u7 : Unit) => ⟨[], [], 0⟩) ?_ fun K8 => ?_
 ·rintro u7 rfl
  dsimp only at hm
  refine .blkE (.seqN (.seq (.reg (.sa R (.nil (.seqN (.ret ?_)))))))
  obtain rfl := oi hm
  exact WX.rt [] (.inl R) Tryz.results204 (.tmp R .nil) R (fun _ _ _ h => h) trivial
 refine .cutU (z := .ret) (fun u9 => .inr (u9) = o5) (fun (u9 : Int) => ⟨[(4, .i u9)], [], 0⟩) ?_ fun K10 => ?_
 ·rintro u9 rfl
  dsimp only at hm
  refine .blkR (.seqR ?_)
  obtain rfl := oi hm
  exact WX.rt [] (.inl R) Tryz.results204 (.tmp R .nil) R (fun _ _ _ h => h) trivial
 refine .iter (fun (st5 : Int) => ⟨[(8, .i st5), (7, .i (p0.length : Int)), (0, .f (rL qI) p0), (1, .o (lW Tryz.prog (fun (x : List Int) => [.f qI x]) (fun (r : Bool) => .b r) p1))], [], 0⟩) eo5 [] R ?_
 intro st5 res5 hm ih5 ho5
 unfold y4M at hm
 refine .seq (.reg (.bi R (.nil (.seqN (.seq ?_)))))
 rcases ifS hm with ⟨hc, hm⟩ | ⟨hc, hm⟩
 ·refine .cT R hc ?_
  refine .skip (.seqN (.seq (.block (.seq (.reg (.mv R (.sa R (.nil (.seqN (.seq (.reg (.mv R (.mv R (.mv R (bS hm fun x11 ex11 hm => .op (O.ix sl53 Z R R ex11 R) R (.op (O.ld nag32 Z R (.E lv32) R R) R (bS hm fun r12 er12 hm => ?_)))))))))))))))))
  refine .op (O.fv (y := x11) R R R Z R er12 R R) R ?_
  refine .nil (.seqN ?_)
  rcases ifS hm with ⟨hc, hm⟩ | ⟨hc, hm⟩
  ·refine .cT R hc ?_
   exact .seq (.reg (.mv R (.sa R (.nil (.seqN (.ret (.blkR (.seqR (.seqR ((K10 _ (ho5 _ (oi hm).symm)).sub [] R))))))))))
  ·refine .cF R hc ?_
   exact .skip (.blkN (.seqN (.reg (.bi R (.mv R (.nil ((ih5 _ (oi hm).symm).sub [] R)))))))
 ·refine .cF R hc ?_
  exact .exit (.seqX (.seqX ((K8 _ (ho5 _ (oi hm).symm)).sub [] R)))
def y3A (p0 : List (List Int)) (p1 : (List Int) → Option Bool) : Option Bool :=
 (y4e p0 p1).bind fun r1 =>
 some (decide (r1 ≥ 0))
theorem y5U {p0 : List (List Int)} {p1 : (List Int) → Option Bool} {r : Bool} (hm : y3A p0 p1 = some r) :
  Fw Tryz.prog 154 ⟨0, []⟩ [.f (rL qI) p0, .o (lW Tryz.prog (fun (x : List Int) => [.f qI x]) (fun (r : Bool) => .b r) p1)] [] (.b r) [] := by
 unfold y3A at hm
 refine Fw.mk' Tryz.func154 R Tryz.ntmps154 R R (fun C => ?_) R R
 refine .seq (.reg (.sa R (.nil (.seqN (.seq (.reg (.mv R (.mv R (bS hm fun r1 er1 hm => .op (O.ca0 (y6o er1) cf204 R R Z R R R) R (.bi R (.sa R (.nil (.seqN (.ret ?_))))))))))))))
 obtain rfl := oi hm
 exact WX.rt [] (.inl R) Tryz.results154 (.tmp R .nil) R (fun _ _ _ h => h) trivial
def y5x (p0 : (AutT × (List KeyT)) × (AutT × (List KeyT)) × (AutT × (List KeyT)) × List (List Int) × List Int × List Int) (p1 : Int) (p2 : List Int) : Option Bool :=
 if ((decide ((p2.length : Int) < 2)) || (decide ((p2.length : Int) > 3))) then
  some false
 else
  (y4I p0 p1 (p2.length : Int)).bind fun r3 =>
  (y3A r3 (y4z p2)).bind fun r4 =>
  some r4
theorem y8t {p0 : (AutT × (List KeyT)) × (AutT × (List KeyT)) × (AutT × (List KeyT)) × List (List Int) × List Int × List Int} {p1 : Int} {p2 : List Int} {r : Bool} (hm : y5x p0 p1 p2 = some r) :
  Fw Tryz.prog 92 ⟨0, []⟩ [.o (lQ 155 (lx155 p0) 0), .i p1, .f qI p2] [] (.b r) [] := by
 unfold y5x at hm
 refine Fw.mk' Tryz.func92 R Tryz.ntmps92 R R (fun C => ?_) R R
 refine .seq (.reg (.op (O.box 0 R Z R R R) R (.sa R (.nil (.seqN (.seq (.seq (.reg (.op (O.ld nag32 Z R (.B R) R R) R (.op (O.len sl32 Z R R) R (.bi R (.mv R ?_))))))))))))
 refine .cut 4 (fun (v1 : Bool) => ((decide ((p2.length : Int) < 2)) || (decide ((p2.length : Int) > 3))) = v1) (fun v1 => ⟨[(14, .b v1), (5, .q 0 0), (0, .o (lQ 155 (lx155 p0) 0)), (1, .i p1)], [(0, .bx 32 [lF qI p2])], 1⟩) ?_ ?_
 ·rintro _ rfl
  refine .nil (.seqN ?_)
  rcases ifS hm with ⟨hc, hm⟩ | ⟨hc, hm⟩
  ·refine .cT R hc ?_
   refine .seq (.reg (.sa R (.nil (.seqN (.ret (.seqR ?_))))))
   obtain rfl := oi hm
   exact WX.rt [] (.inl R) Tryz.results92 (.tmp R .nil) R (fun _ _ _ h => h) trivial
  ·refine .cF R hc ?_
   refine .skip (.seqN (.seq (.reg (.mv R (.mv R (.op (O.ld nag32 Z R (.B R) R R) R (.op (O.len sl32 Z R R) R (bS hm fun r3 er3 hm => .op (O.ca (r' := .h 1) [1] [(0, ROW (rL qI) 32 r3)] (some 2) (y6b er3) cf109 R R Z R R R R ⟨⟨_, R, fun _ _ _ _ h => h⟩, trivial⟩ (fun _ _ _ h => h) R) R (.fz 0 [5] [] R R fB R R (.op (O.mf (args := (fun (x : List Int) => [.f qI x])) (res := (fun (r : Bool) => .b r)) (m := (y4z p2)) cf155 (fun x r h => y7R h) (fun _ => R) R Z R R) R (bS hm fun r4 er4 hm => .op (O.caZ (y5U er4) cf154 R R Z R ⟨⟨R, .hr R, trivial⟩, ⟨R, LnL.rf⟩, trivial⟩ (fun _ _ _ _ _ h => h) R) R (.sa R (.nil (.seqN (.ret ?_)))))))))))))))
   obtain rfl := oi hm
   exact WX.rt [] (.inl R) Tryz.results92 (.tmp R .nil) R (fun _ _ _ h => h) trivial
 ·intro J2
  rcases Bool.eq_false_or_eq_true (decide ((p2.length : Int) < 2)) with hc | hc
  ·refine .know (d := 10) R hc ?_
   exact .sk R (.sk R (.sk R (.op (O.pkT Z R R R R) R ((J2 true (orT hc).symm).sub [] R))))
  ·refine .know (d := 10) R hc ?_
   exact .op (O.ld nag32 (Gu.mk R R) R (.B R) R R) R (.op (O.len sl32 (Gu.mk R R) R R) R (.op (O.bi (Gu.mk R R) R R R R) R (.op (O.pkF Z R R R R) R ((J2 (decide ((p2.length : Int) > 3)) (orF hc).symm).sub [] R))))
def y1Z (b4 : Bool) : Option Int :=
 if (!b4) then
  some 24
 else
  some 0
def y4X (p0 : AutT × AutT × List Int) (p1 : List Int) (p2 : Int × List Int × List Int) : Option Int :=
 (y4Z p0 p1).bind fun r1 =>
 if (r1.2 != 0) then
  some r1.2
 else
  r1.1.bind fun x2 =>
  (y2u x2.2.2.1 p2.2.1).bind fun r3 =>
  if (p2.1 == 1) then
   (if (r3 != (-1)) then
    (y5x x2 r3 p2.2.2).bind fun r13 =>
    some r13
   else
    some false).bind fun b6 =>
   (if b6 then
    (y4x x2 r3 p2.2.2).bind fun r12 =>
    some (!r12)
   else
    some false).bind fun b9 =>
   y1Z b9
  else
   if (p2.1 == 2) then
    if (r3 != (-1)) then
     if ((p2.2.2.length : Int) == 2) then
      (idx p2.2.2 0).bind fun x16 =>
      (yn x2.2.2.2.2.1 x16).bind fun r17 =>
      if r17 then
       (idx p2.2.2 1).bind fun x19 =>
       (yn x2.2.2.2.2.2 x19).bind fun r20 =>
       if r20 then
        (idx p2.2.2 0).bind fun x22 =>
        (idx p2.2.2 1).bind fun x23 =>
        (y2L x2 r3 x22 x23).bind fun r24 =>
        y1Z r24
       else
        y1Z false
      else
       y1Z false
     else
      y1Z false
    else
     y1Z false
   else
    if (p2.1 == 3) then
     (y3M x2 p1).bind fun r25 =>
     (y2u r25 p2.2.1).bind fun r26 =>
     (if ((r26 != (-1)) && ((p2.2.2.length : Int) == 0)) then
      (y4N r25).bind fun r32 =>
      (idx r32 r26).bind fun x33 =>
      some (!x33)
     else
      some false).bind fun b29 =>
     y1Z b29
    else
     some 11
theorem y9I {p0 : AutT × AutT × List Int} {p1 : List Int} {p2 : Int × List Int × List Int} {r : Int} (hm : y4X p0 p1 p2 = some r) :
  Fw Tryz.prog 31 ⟨0, []⟩ [.a [lF qI p0.1.1, lI p0.1.2.1, lF qI p0.1.2.2.1, lF qT p0.1.2.2.2, lF qI p0.2.1.1, lI p0.2.1.2.1, lF qI p0.2.1.2.2.1, lF qT p0.2.1.2.2.2, lF qI p0.2.2], .f qI p1, .a [lI p2.1, lF qI p2.2.1, lF qI p2.2.2]] [] (.i r) [] := by
 unfold y4X at hm
 refine Fw.mk' Tryz.func31 R Tryz.ntmps31 R R (fun C => ?_) R R
 refine .seq (.reg (.op (O.box 0 R Z R R R) R (.op (O.box 1 R Z R R R) R (.sa R (.nil (.seqN (.seq (.reg (.op (O.lg (l' := [lF qI p0.1.1, lI p0.1.2.1, lF qI p0.1.2.2.1, lF qT p0.1.2.2.2, lF qI p0.2.1.1, lI p0.2.1.2.1, lF qI p0.2.1.2.2.1, lF qT p0.2.1.2.2.2, lF qI p0.2.2]) ag37 Z R (.B R) R R R) R (.mv R (bS hm fun r1 er1 hm => .op (O.ca0 (y8n er1) cf77 R R Z R R R) R (.mv R (.op (O.ex Z R R R) R (.op (O.ex Z R R R) R (.sa R (.sa R (.nil (.seqN (.seq (.seq (.reg (.mv R (.bi R (.nil (.seqN ?_)))))))))))))))))))))))))
 rcases ifS hm with ⟨hc, hm⟩ | ⟨hc, hm⟩
 ·refine .cT R hc ?_
  refine .seq (.reg (.mv R (.sa R (.nil (.seqN (.ret (.seqR ?_)))))))
  obtain rfl := oi hm
  exact WX.rt [] (.inl R) Tryz.results31 (.tmp R .nil) R (fun _ _ _ h => h) trivial
 ·refine .cF R hc ?_
  refine .skip (.seqN (.seq (bS hm fun x2 ex2 hm => .cnt 7 R (.c (.pd ex2 lv155) .n) R (.cnt 17 R (.c (.pd ex2 lv155) .n) R ?_))))
  refine .sub (τ := ⟨[(7, .o (lQ 155 (lx155 x2) 0)), (5, .q 1 0), (1, .f qI p1)], [(1, .bx 44 [lI p2.1, lF qI p2.2.1, lF qI p2.2.2])], 2⟩) ?_ [] R
  refine bS hm fun r3 er3 hm => ?_
  refine .drw [(2, []), (2, [oT]), (2, [oT, oT]), (2, [oT, oT, oT]), (2, []), (2, [oF, oF, oF, oF, oT]), (2, [oT, oT, oT, oT, oT, oT]), (2, [oT, oT, oT, oT, oT, oT, oT])] [_, _, _, _, _, _, _, _] ⟨[(9, .i r3), (7, .o (lQ 155 (lx155 x2) 0)), (5, .q 1 0), (1, .f qI p1)], [(1, .bx 44 [lI p2.1, lF qI p2.2.1, lF qI p2.2.2])], 2⟩ ⟨O.mv Z R R, O.nc .Q Z R R, O.faQ y3U Z R R, O.lg (l' := [lF qI x2.2.2.1.1.1, lI x2.2.2.1.1.2.1, lF qI x2.2.2.1.1.2.2.1, lF qT x2.2.2.1.1.2.2.2, lM kvP qI x2.2.2.1.2]) ag141 Z R .Q R R R, O.faP y5Z Z R R, O.ld nag32 Z R (.B R) R R, O.ca0 (y6h er3) cf91 R R Z R R R, O.as Z R R, trivial⟩ (by kernel_rfl) R ?_
  refine .seqN (.seq (.reg (.sa R (.nil (.seqN ?_)))))
  refine .join1 (fun (b4 : Bool) => y1Z b4 = some r) (fun b4 => ⟨[(10, .b b4)], [], 0⟩) ?_ ?_
  ·intro b4 hm
   unfold y1Z at hm
   refine .seq (.seq (.reg (.mv R (.op (O.not Z R R) R (.nil (.seqN ?_))))))
   rcases ifS hm with ⟨hc, hm⟩ | ⟨hc, hm⟩
   ·refine .cT R hc ?_
    refine .seq (.reg (.sa R (.nil (.seqN (.ret (.seqR ?_))))))
    obtain rfl := oi hm
    exact WX.rt [] (.inl R) Tryz.results31 (.tmp R .nil) R (fun _ _ _ h => h) trivial
   ·refine .cF R hc ?_
    refine .skip (.seqN (.seq (.reg (.sa R (.nil (.seqN (.ret ?_)))))))
    obtain rfl := oi hm
    exact WX.rt [] (.inl R) Tryz.results31 (.tmp R .nil) R (fun _ _ _ h => h) trivial
  ·intro Jj5
   refine .seq (.reg (.op (O.faP y7N Z R R) R (.op (O.ld nag3 Z R (.B R) R R) R (.nil (.seqN (.block (.seq (.reg (.bi R (.sa R (.nil (.seqN ?_))))))))))))
   rcases ifS hm with ⟨hc, hm⟩ | ⟨hc, hm⟩
   ·refine .cT R hc ?_
    refine .reg (.mv R (.bi R (.mv R (bS hm fun b6 eb6 hm => ?_))))
    refine .cut 6 (fun (v7 : Bool) => b6 = v7) (fun v7 => ⟨[(41, .b v7), (9, .i r3), (7, .o (lQ 155 (lx155 x2) 0)), (5, .q 1 0)], [(1, .bx 44 [lI p2.1, lF qI p2.2.1, lF qI p2.2.2])], 2⟩) ?_ ?_
    ·rintro _ rfl
     refine .mv R (bS hm fun b9 eb9 hm => ?_)
     refine .cut 7 (fun (v10 : Bool) => b9 = v10) (fun v10 => ⟨[(49, .b v10)], [], 2⟩) ?_ ?_
     ·rintro _ rfl
      exact .sa R (.nil (.blkN ((Jj5 _ hm).sub [] R)))
     ·intro J11
      rcases ifS eb9 with ⟨hc, hm⟩ | ⟨hc, hm⟩
      ·refine .know (d := 42) R hc ?_
       exact .op (O.mv (Gu.mk R R) R R) R (.op (O.mv (Gu.mk R R) R R) R (.op (O.faP y3k (Gu.mk R R) R R) R (.op (O.ld nag32 (Gu.mk R R) R (.B R) R R) R (bS hm fun r12 er12 hm => .op (O.ca0 (y5P er12) cf93 R R (Gu.mk R R) R R R) R (.op (O.not (Gu.mk R R) R R) R (.op (O.pkT Z R R R R) R ((J11 (!r12) (oi hm).symm).sub [] R)))))))
      ·refine .know (d := 42) R hc ?_
       exact .sk R (.sk R (.sk R (.sk R (.sk R (.sk R (.op (O.pkF Z R R R R) R ((J11 false (oi hm).symm).sub [] R)))))))
    ·intro J8
     rcases ifS eb6 with ⟨hc, hm⟩ | ⟨hc, hm⟩
     ·refine .know (d := 35) R hc ?_
      exact .op (O.mv (Gu.mk R R) R R) R (.op (O.mv (Gu.mk R R) R R) R (.op (O.faP y3k (Gu.mk R R) R R) R (.op (O.ld nag32 (Gu.mk R R) R (.B R) R R) R (bS hm fun r13 er13 hm => .op (O.ca0 (y8t er13) cf92 R R (Gu.mk R R) R R R) R (.op (O.pkT Z R R R R) R ((J8 r13 (oi hm).symm).sub [] R))))))
     ·refine .know (d := 35) R hc ?_
      exact .sk R (.sk R (.sk R (.sk R (.sk R (.op (O.pkF Z R R R R) R ((J8 false (oi hm).symm).sub [] R))))))
   ·refine .cF R hc ?_
    refine .seq (.reg (.bi R (.sa R (.nil (.seqN ?_)))))
    rcases ifS hm with ⟨hc, hm⟩ | ⟨hc, hm⟩
    ·refine .cT R hc ?_
     refine .sub (τ := ⟨[(9, .i r3), (7, .o (lQ 155 (lx155 x2) 0)), (5, .q 1 0)], [(1, .bx 44 [lI p2.1, lF qI p2.2.1, lF qI p2.2.2])], 2⟩) ?_ [] R
     rcases ifS hm with ⟨hc14, hm⟩ | ⟨hc14, hm⟩
     ·skip
      rcases ifS hm with ⟨hc15, hm⟩ | ⟨hc15, hm⟩
      ·skip
       refine bS hm fun x16 ex16 hm => bS hm fun r17 er17 hm => ?_
       rcases ifS hm with ⟨hc18, hm⟩ | ⟨hc18, hm⟩
       ·skip
        refine bS hm fun x19 ex19 hm => bS hm fun r20 er20 hm => ?_
        rcases ifS hm with ⟨hc21, hm⟩ | ⟨hc21, hm⟩
        ·skip
         refine bS hm fun x22 ex22 hm => bS hm fun x23 ex23 hm => bS hm fun r24 er24 hm => ?_
         refine .drw [(2, []), (2, [oT]), (2, [oT, oT]), (2, [oT, oT, oT]), (2, [oT, oT, oT, oT]), (2, [oT, oT, oT, oT, oT]), (2, [oT, oT, oT, oT, oT, oT]), (2, [oT, oT, oT, oT, oT, oT, oT]), (2, [oT, oT, oT, oT, oT, oT, oT, oT]), (2, [oT, oT, oT, oT, oT, oT, oT, oT, oT]), (2, [oT, oT, oT, oT, oT, oT, oT, oT, oT, oT]), (2, [oT, oT, oT, oT, oT, oT, oT, oT, oT, oT, oT]), (2, [oT, oT, oT, oT, oT, oT, oT, oT, oT, oT, oT, oT]), (2, [oT, oT, oT, oT, oT, oT, oT, oT, oT]), (2, [oT, oT, oT, oT, oT, oT, oT, oT, oT, oF, oF, oF, oF, oT]), (2, [oT, oT, oT, oT, oT, oT, oT, oT, oT, oF, oF, oF, oF, oT, oT]), (2, [oT, oT, oT, oT, oT, oT, oT, oT, oT, oF, oF, oF, oF, oT, oT, oT]), (2, [oT, oT, oT, oT, oT, oT, oT, oT, oT, oT, oT, oT, oT, oT, oT, oT, oT]), (2, [oT, oT, oT, oT, oT, oT, oT, oT, oT, oT, oT, oT, oT, oT, oT, oT, oT, oT]), (2, [oT, oT, oT, oT, oT, oT, oT, oT, oT, oT, oT, oT, oT, oT, oT, oT, oT, oT, oT]), (2, [oT, oT, oT, oT, oT, oT, oT, oT, oT, oT, oT, oT, oT, oT, oT, oT, oT, oT, oT, oT]), (2, [oT, oT, oT, oT, oT, oT, oT, oT, oT, oT, oT, oT, oT, oT, oT, oT, oT, oT, oT, oT, oT]), (2, [oT, oT, oT, oT, oT, oT, oT, oT, oT, oT, oT, oT, oT, oT, oT, oT, oT, oT, oT, oT, oT, oT]), (2, [oT, oT, oT, oT, oT, oT, oT, oT, oT, oT, oT, oT, oT, oT, oT, oT, oT, oT, oT, oT, oT, oT, oT]), (2, [oT, oT, oT, oT, oT, oT, oT, oT, oT, oT, oT, oT, oT, oT, oT, oT, oT, oT, oT, oT]), (2, [oT, oT, oT, oT, oT, oT, oT, oT, oT, oT, oT, oT, oT, oT, oT, oT, oT, oT, oT, oT, oF, oF, oF, oF, oT]), (2, [oT, oT, oT, oT, oT, oT, oT, oT, oT, oT, oT, oT, oT, oT, oT, oT, oT, oT, oT, oT, oF, oF, oF, oF, oT, oT]), (2, [oT, oT, oT, oT, oT, oT, oT, oT, oT, oT, oT, oT, oT, oT, oT, oT, oT, oT, oT, oT, oF, oF, oF, oF, oT, oT, oT]), (2, [oT, oT, oT, oT, oT, oT, oT, oT, oT, oT, oT, oT, oT, oT, oT, oT, oT, oT, oT, oT, oT, oT, oT, oT, oT, oT, oT, oT]), (2, [oT, oT, oT, oT, oT, oT, oT, oT, oT, oT, oT, oT, oT, oT, oT, oT, oT, oT, oT, oT, oT, oT, oT, oT, oT, oT, oT, oT, oT]), (2, [oT, oT, oT, oT, oT, oT, oT, oT, oT, oT, oT, oT, oT, oT, oT, oT, oT, oT, oT, oT, oT, oT, oT, oT, oT, oT, oT, oT, oT, oT]), (2, [oT, oT, oT, oT, oT, oT, oT, oT, oT, oT, oT, oT, oT, oT, oT, oT, oT, oT, oT, oT, oT, oT, oT, oT, oT, oT, oT, oT, oT, oT, oT]), (2, [oT, oT, oT, oT, oT, oT, oT, oT, oT, oT, oT, oT, oT, oT, oT, oT, oT, oT, oT, oT, oT, oT, oT, oT, oT, oT, oT, oT, oT, oT, oT]), (2, [oT, oT, oT, oT, oT, oT, oT, oT, oT, oT, oT, oT, oT, oT, oT, oT, oT, oT, oT, oT, oT, oT, oT, oT, oT, oT, oT, oT, oT, oT, oT]), (2, [oT, oT, oT, oT, oT, oT, oT, oT, oT, oT, oT, oT, oT, oT, oT, oT, oT, oT, oT, oT, oT, oT, oT, oT, oT, oT, oT, oT, oT, oT, oT, oF, oF, oT]), (2, [oT, oT, oT, oT, oT, oT, oT, oT, oT, oT, oT, oT, oT, oT, oT, oT, oT, oT, oT, oT, oT, oT, oT, oT, oT, oT, oT, oT, oT, oT, oT, oF, oF, oT, oT]), (2, [oT, oT, oT, oT, oT, oT, oT, oT, oT, oT, oT, oT, oT, oT, oT, oT, oT, oT, oT, oT, oT, oT, oT, oT, oT, oT, oT, oT, oT, oT, oT, oF, oF, oT, oT, oT]), (2, [oT, oT, oT, oT, oT, oT, oT, oT, oT, oT, oT, oT, oT, oT, oT, oT, oT, oT, oT, oT, oT, oT, oT, oT, oT, oT, oT, oT, oT, oT, oT]), (2, [oT, oT, oT, oT, oT, oT, oT, oT, oT, oT, oT, oT, oT, oT, oT, oT, oT, oT, oT, oT, oT, oT, oT, oT, oT, oT, oT, oT, oT, oT, oT, oF, oF, oF, oF, oF, oF, oT]), (2, [oT, oT, oT, oT, oT, oT, oT, oT, oT, oT, oT, oT, oT, oT, oT, oT, oT, oT, oT, oT, oT, oT, oT, oT, oT, oT, oT, oT, oT, oT, oT, oF, oF, oF, oF, oF, oF, oT, oT]), (2, [oT, oT, oT, oT, oT, oT, oT, oT, oT, oT, oT, oT, oT, oT, oT, oT, oT, oT, oT, oT, oT, oT, oT, oT, oT, oT, oT, oT, oT, oT, oT, oF, oF, oF, oF, oF, oF, oT, oT, oT]), (2, [oT, oT, oT, oT, oT, oT, oT, oT, oT, oT, oT, oT, oT, oT, oT, oT, oT, oT, oT, oT, oT, oT, oT, oT, oT, oT, oT, oT, oT, oT, oT, oT, oT, oT, oT, oT, oT, oT, oT, oT, oT]), (2, [oT, oT, oT, oT, oT, oT, oT, oT, oT, oT, oT, oT, oT, oT, oT, oT, oT, oT, oT, oT, oT, oT, oT, oT, oT, oT, oT, oT, oT, oT, oT, oT, oT, oT, oT, oT, oT, oT, oT, oT, oT, oT]), (2, [oT, oT, oT, oT, oT, oT, oT, oT, oT, oT, oT, oT, oT, oT, oT, oT, oT, oT, oT, oT, oT, oT, oT, oT, oT, oT, oT, oT, oT, oT, oT, oT, oT, oT, oT, oT, oT, oT, oT, oT, oT, oT, oT])] [_, _, _, _, _, _, _, _, _, _, _, _, _, _, _, _, _, _, _, _, _, _, _, _, _, _, _, _, _, _, _, _, _, _, _, _, _, _, _, _, _, _, _, _] ⟨[(10, .b r24)], [], 2⟩ ⟨O.mv Z R R, O.bi Z R R R R, O.kn (O.mv Z R R) hc14, O.faP y3k (Gu.mk R R) R R, O.ld nag32 (Gu.mk R R) R (.B R) R R, O.len sl32 (Gu.mk R R) R R, O.bi (Gu.mk R R) R R R R, O.pkT Z R R R R, O.kn (O.mv Z R R) hc15, O.mv (Gu.mk R R) R R, O.nc .Q (Gu.mk R R) R R, O.faQ y6n (Gu.mk R R) R R, O.ld nag32 (Gu.mk R R) R .Q R R, O.faP y3k (Gu.mk R R) R R, O.ld nag32 (Gu.mk R R) R (.B R) R R, O.ix sl32 (Gu.mk R R) R R ex16 R, O.ld nag3 (Gu.mk R R) R (.E lv3) R R, O.ca0 (yj er17) cf94 R R (Gu.mk R R) R R R, O.pkT Z R R R R, O.kn (O.mv Z R R) hc18, O.mv (Gu.mk R R) R R, O.nc .Q (Gu.mk R R) R R, O.faQ ya4 (Gu.mk R R) R R, O.ld nag32 (Gu.mk R R) R .Q R R, O.faP y3k (Gu.mk R R) R R, O.ld nag32 (Gu.mk R R) R (.B R) R R, O.ix sl32 (Gu.mk R R) R R ex19 R, O.ld nag3 (Gu.mk R R) R (.E lv3) R R, O.ca0 (yj er20) cf94 R R (Gu.mk R R) R R R, O.pkT Z R R R R, O.kn (O.mv Z R R) hc21, O.mv (Gu.mk R R) R R, O.mv (Gu.mk R R) R R, O.faP y3k (Gu.mk R R) R R, O.ld nag32 (Gu.mk R R) R (.B R) R R, O.ix sl32 (Gu.mk R R) R R ex22 R, O.ld nag3 (Gu.mk R R) R (.E lv3) R R, O.faP y3k (Gu.mk R R) R R, O.ld nag32 (Gu.mk R R) R (.B R) R R, O.ix sl32 (Gu.mk R R) R R ex23 R, O.ld nag3 (Gu.mk R R) R (.E lv3) R R, O.ca0 (y5R er24) cf90 R R (Gu.mk R R) R R R, O.pkT Z R R R R, O.as Z R R, trivial⟩ (by kernel_rfl) R ?_
         exact .blkN ((Jj5 _ hm).sub [] R)
        ·skip
         refine .drw [(2, []), (2, [oT]), (2, [oT, oT]), (2, [oT, oT, oT]), (2, [oT, oT, oT, oT]), (2, [oT, oT, oT, oT, oT]), (2, [oT, oT, oT, oT, oT, oT]), (2, [oT, oT, oT, oT, oT, oT, oT]), (2, [oT, oT, oT, oT, oT, oT, oT, oT]), (2, [oT, oT, oT, oT, oT, oT, oT, oT, oT]), (2, [oT, oT, oT, oT, oT, oT, oT, oT, oT, oT]), (2, [oT, oT, oT, oT, oT, oT, oT, oT, oT, oT, oT]), (2, [oT, oT, oT, oT, oT, oT, oT, oT, oT, oT, oT, oT]), (2, [oT, oT, oT, oT, oT, oT, oT, oT, oT]), (2, [oT, oT, oT, oT, oT, oT, oT, oT, oT, oF, oF, oF, oF, oT]), (2, [oT, oT, oT, oT, oT, oT, oT, oT, oT, oF, oF, oF, oF, oT, oT]), (2, [oT, oT, oT, oT, oT, oT, oT, oT, oT, oF, oF, oF, oF, oT, oT, oT]), (2, [oT, oT, oT, oT, oT, oT, oT, oT, oT, oT, oT, oT, oT, oT, oT, oT, oT]), (2, [oT, oT, oT, oT, oT, oT, oT, oT, oT, oT, oT, oT, oT, oT, oT, oT, oT, oT]), (2, [oT, oT, oT, oT, oT, oT, oT, oT, oT, oT, oT, oT, oT, oT, oT, oT, oT, oT, oT]), (2, [oT, oT, oT, oT, oT, oT, oT, oT, oT, oT, oT, oT, oT, oT, oT, oT, oT, oT, oT, oT]), (2, [oT, oT, oT, oT, oT, oT, oT, oT, oT, oT, oT, oT, oT, oT, oT, oT, oT, oT, oT, oT, oT]), (2, [oT, oT, oT, oT, oT, oT, oT, oT, oT, oT, oT, oT, oT, oT, oT, oT, oT, oT, oT, oT, oT, oT]), (2, [oT, oT, oT, oT, oT, oT, oT, oT, oT, oT, oT, oT, oT, oT, oT, oT, oT, oT, oT, oT, oT, oT, oT]), (2, [oT, oT, oT, oT, oT, oT, oT, oT, oT, oT, oT, oT, oT, oT, oT, oT, oT, oT, oT, oT]), (2, [oT, oT, oT, oT, oT, oT, oT, oT, oT, oT, oT, oT, oT, oT, oT, oT, oT, oT, oT, oT, oF, oF, oF, oF, oT]), (2, [oT, oT, oT, oT, oT, oT, oT, oT, oT, oT, oT, oT, oT, oT, oT, oT, oT, oT, oT, oT, oF, oF, oF, oF, oT, oT]), (2, [oT, oT, oT, oT, oT, oT, oT, oT, oT, oT, oT, oT, oT, oT, oT, oT, oT, oT, oT, oT, oF, oF, oF, oF, oT, oT, oT]), (2, [oT, oT, oT, oT, oT, oT, oT, oT, oT, oT, oT, oT, oT, oT, oT, oT, oT, oT, oT, oT, oT, oT, oT, oT, oT, oT, oT, oT]), (2, [oT, oT, oT, oT, oT, oT, oT, oT, oT, oT, oT, oT, oT, oT, oT, oT, oT, oT, oT, oT, oT, oT, oT, oT, oT, oT, oT, oT, oT]), (2, [oT, oT, oT, oT, oT, oT, oT, oT, oT, oT, oT, oT, oT, oT, oT, oT, oT, oT, oT, oT, oT, oT, oT, oT, oT, oT, oT, oT, oT, oT]), (2, [oT, oT, oT, oT, oT, oT, oT, oT, oT, oT, oT, oT, oT, oT, oT, oT, oT, oT, oT, oT, oT, oT, oT, oT, oT, oT, oT, oT, oT, oT, oT]), (2, [oT, oT, oT, oT, oT, oT, oT, oT, oT, oT, oT, oT, oT, oT, oT, oT, oT, oT, oT, oT, oT, oT, oT, oT, oT, oT, oT, oT, oT, oT, oT]), (2, [oT, oT, oT, oT, oT, oT, oT, oT, oT, oT, oT, oT, oT, oT, oT, oT, oT, oT, oT, oT, oT, oT, oT, oT, oT, oT, oT, oT, oT, oT, oT]), (2, [oT, oT, oT, oT, oT, oT, oT, oT, oT, oT, oT, oT, oT, oT, oT, oT, oT, oT, oT, oT, oT, oT, oT, oT, oT, oT, oT, oT, oT, oT, oT, oF, oF, oT]), (2, [oT, oT, oT, oT, oT, oT, oT, oT, oT, oT, oT, oT, oT, oT, oT, oT, oT, oT, oT, oT, oT, oT, oT, oT, oT, oT, oT, oT, oT, oT, oT, oF, oF, oT, oT]), (2, [oT, oT, oT, oT, oT, oT, oT, oT, oT, oT, oT, oT, oT, oT, oT, oT, oT, oT, oT, oT, oT, oT, oT, oT, oT, oT, oT, oT, oT, oT, oT, oF, oF, oT, oT, oT]), (2, [oT, oT, oT, oT, oT, oT, oT, oT, oT, oT, oT, oT, oT, oT, oT, oT, oT, oT, oT, oT, oT, oT, oT, oT, oT, oT, oT, oT, oT, oT, oT]), (2, [oT, oT, oT, oT, oT, oT, oT, oT, oT, oT, oT, oT, oT, oT, oT, oT, oT, oT, oT, oT, oT, oT, oT, oT, oT, oT, oT, oT, oT, oT, oT, oF, oF, oF, oF, oF, oF, oT]), (2, [oT, oT, oT, oT, oT, oT, oT, oT, oT, oT, oT, oT, oT, oT, oT, oT, oT, oT, oT, oT, oT, oT, oT, oT, oT, oT, oT, oT, oT, oT, oT, oF, oF, oF, oF, oF, oF, oT, oT]), (2, [oT, oT, oT, oT, oT, oT, oT, oT, oT, oT, oT, oT, oT, oT, oT, oT, oT, oT, oT, oT, oT, oT, oT, oT, oT, oT, oT, oT, oT, oT, oT, oF, oF, oF, oF, oF, oF, oT, oT, oT]), (2, [oT, oT, oT, oT, oT, oT, oT, oT, oT, oT, oT, oT, oT, oT, oT, oT, oT, oT, oT, oT, oT, oT, oT, oT, oT, oT, oT, oT, oT, oT, oT, oT, oT, oT, oT, oT, oT, oT, oT, oT, oT]), (2, [oT, oT, oT, oT, oT, oT, oT, oT, oT, oT, oT, oT, oT, oT, oT, oT, oT, oT, oT, oT, oT, oT, oT, oT, oT, oT, oT, oT, oT, oT, oT, oT, oT, oT, oT, oT, oT, oT, oT, oT, oT, oT]), (2, [oT, oT, oT, oT, oT, oT, oT, oT, oT, oT, oT, oT, oT, oT, oT, oT, oT, oT, oT, oT, oT, oT, oT, oT, oT, oT, oT, oT, oT, oT, oT, oT, oT, oT, oT, oT, oT, oT, oT, oT, oT, oT, oT])] [_, _, _, _, _, _, _, _, _, _, _, _, _, _, _, _, _, _, _, _, _, _, _, _, _, _, _, _, _, _, _, _, _, _, _, _, _, _, _, _, _, _, _, _] ⟨[(10, .b false)], [], 2⟩ ⟨O.mv Z R R, O.bi Z R R R R, O.kn (O.mv Z R R) hc14, O.faP y3k (Gu.mk R R) R R, O.ld nag32 (Gu.mk R R) R (.B R) R R, O.len sl32 (Gu.mk R R) R R, O.bi (Gu.mk R R) R R R R, O.pkT Z R R R R, O.kn (O.mv Z R R) hc15, O.mv (Gu.mk R R) R R, O.nc .Q (Gu.mk R R) R R, O.faQ y6n (Gu.mk R R) R R, O.ld nag32 (Gu.mk R R) R .Q R R, O.faP y3k (Gu.mk R R) R R, O.ld nag32 (Gu.mk R R) R (.B R) R R, O.ix sl32 (Gu.mk R R) R R ex16 R, O.ld nag3 (Gu.mk R R) R (.E lv3) R R, O.ca0 (yj er17) cf94 R R (Gu.mk R R) R R R, O.pkT Z R R R R, O.kn (O.mv Z R R) hc18, O.mv (Gu.mk R R) R R, O.nc .Q (Gu.mk R R) R R, O.faQ ya4 (Gu.mk R R) R R, O.ld nag32 (Gu.mk R R) R .Q R R, O.faP y3k (Gu.mk R R) R R, O.ld nag32 (Gu.mk R R) R (.B R) R R, O.ix sl32 (Gu.mk R R) R R ex19 R, O.ld nag3 (Gu.mk R R) R (.E lv3) R R, O.ca0 (yj er20) cf94 R R (Gu.mk R R) R R R, O.pkT Z R R R R, O.kn (O.mv Z R R) hc21, O.skip R R R R, O.skip R R R R, O.skip R R R R, O.skip R R R R, O.skip R R R R, O.skip R R R R, O.skip R R R R, O.skip R R R R, O.skip R R R R, O.skip R R R R, O.skip R R R R, O.pkF Z R R R R, O.as Z R R, trivial⟩ (by kernel_rfl) R ?_
         exact .blkN ((Jj5 _ hm).sub [] R)
       ·skip
        refine .drw [(2, []), (2, [oT]), (2, [oT, oT]), (2, [oT, oT, oT]), (2, [oT, oT, oT, oT]), (2, [oT, oT, oT, oT, oT]), (2, [oT, oT, oT, oT, oT, oT]), (2, [oT, oT, oT, oT, oT, oT, oT]), (2, [oT, oT, oT, oT, oT, oT, oT, oT]), (2, [oT, oT, oT, oT, oT, oT, oT, oT, oT]), (2, [oT, oT, oT, oT, oT, oT, oT, oT, oT, oT]), (2, [oT, oT, oT, oT, oT, oT, oT, oT, oT, oT, oT]), (2, [oT, oT, oT, oT, oT, oT, oT, oT, oT, oT, oT, oT]), (2, [oT, oT, oT, oT, oT, oT, oT, oT, oT]), (2, [oT, oT, oT, oT, oT, oT, oT, oT, oT, oF, oF, oF, oF, oT]), (2, [oT, oT, oT, oT, oT, oT, oT, oT, oT, oF, oF, oF, oF, oT, oT]), (2, [oT, oT, oT, oT, oT, oT, oT, oT, oT, oF, oF, oF, oF, oT, oT, oT]), (2, [oT, oT, oT, oT, oT, oT, oT, oT, oT, oT, oT, oT, oT, oT, oT, oT, oT]), (2, [oT, oT, oT, oT, oT, oT, oT, oT, oT, oT, oT, oT, oT, oT, oT, oT, oT, oT]), (2, [oT, oT, oT, oT, oT, oT, oT, oT, oT, oT, oT, oT, oT, oT, oT, oT, oT, oT, oT]), (2, [oT, oT, oT, oT, oT, oT, oT, oT, oT, oT, oT, oT, oT, oT, oT, oT, oT, oT, oT, oT]), (2, [oT, oT, oT, oT, oT, oT, oT, oT, oT, oT, oT, oT, oT, oT, oT, oT, oT, oT, oT, oT, oT]), (2, [oT, oT, oT, oT, oT, oT, oT, oT, oT, oT, oT, oT, oT, oT, oT, oT, oT, oT, oT, oT, oT, oT]), (2, [oT, oT, oT, oT, oT, oT, oT, oT, oT, oT, oT, oT, oT, oT, oT, oT, oT, oT, oT, oT, oT, oT, oT]), (2, [oT, oT, oT, oT, oT, oT, oT, oT, oT, oT, oT, oT, oT, oT, oT, oT, oT, oT, oT, oT]), (2, [oT, oT, oT, oT, oT, oT, oT, oT, oT, oT, oT, oT, oT, oT, oT, oT, oT, oT, oT, oT, oF, oF, oF, oF, oT]), (2, [oT, oT, oT, oT, oT, oT, oT, oT, oT, oT, oT, oT, oT, oT, oT, oT, oT, oT, oT, oT, oF, oF, oF, oF, oT, oT]), (2, [oT, oT, oT, oT, oT, oT, oT, oT, oT, oT, oT, oT, oT, oT, oT, oT, oT, oT, oT, oT, oF, oF, oF, oF, oT, oT, oT]), (2, [oT, oT, oT, oT, oT, oT, oT, oT, oT, oT, oT, oT, oT, oT, oT, oT, oT, oT, oT, oT, oT, oT, oT, oT, oT, oT, oT, oT]), (2, [oT, oT, oT, oT, oT, oT, oT, oT, oT, oT, oT, oT, oT, oT, oT, oT, oT, oT, oT, oT, oT, oT, oT, oT, oT, oT, oT, oT, oT]), (2, [oT, oT, oT, oT, oT, oT, oT, oT, oT, oT, oT, oT, oT, oT, oT, oT, oT, oT, oT, oT, oT, oT, oT, oT, oT, oT, oT, oT, oT, oT]), (2, [oT, oT, oT, oT, oT, oT, oT, oT, oT, oT, oT, oT, oT, oT, oT, oT, oT, oT, oT, oT, oT, oT, oT, oT, oT, oT, oT, oT, oT, oT, oT]), (2, [oT, oT, oT, oT, oT, oT, oT, oT, oT, oT, oT, oT, oT, oT, oT, oT, oT, oT, oT, oT, oT, oT, oT, oT, oT, oT, oT, oT, oT, oT, oT]), (2, [oT, oT, oT, oT, oT, oT, oT, oT, oT, oT, oT, oT, oT, oT, oT, oT, oT, oT, oT, oT, oT, oT, oT, oT, oT, oT, oT, oT, oT, oT, oT]), (2, [oT, oT, oT, oT, oT, oT, oT, oT, oT, oT, oT, oT, oT, oT, oT, oT, oT, oT, oT, oT, oT, oT, oT, oT, oT, oT, oT, oT, oT, oT, oT, oF, oF, oT]), (2, [oT, oT, oT, oT, oT, oT, oT, oT, oT, oT, oT, oT, oT, oT, oT, oT, oT, oT, oT, oT, oT, oT, oT, oT, oT, oT, oT, oT, oT, oT, oT, oF, oF, oT, oT]), (2, [oT, oT, oT, oT, oT, oT, oT, oT, oT, oT, oT, oT, oT, oT, oT, oT, oT, oT, oT, oT, oT, oT, oT, oT, oT, oT, oT, oT, oT, oT, oT, oF, oF, oT, oT, oT]), (2, [oT, oT, oT, oT, oT, oT, oT, oT, oT, oT, oT, oT, oT, oT, oT, oT, oT, oT, oT, oT, oT, oT, oT, oT, oT, oT, oT, oT, oT, oT, oT]), (2, [oT, oT, oT, oT, oT, oT, oT, oT, oT, oT, oT, oT, oT, oT, oT, oT, oT, oT, oT, oT, oT, oT, oT, oT, oT, oT, oT, oT, oT, oT, oT, oF, oF, oF, oF, oF, oF, oT]), (2, [oT, oT, oT, oT, oT, oT, oT, oT, oT, oT, oT, oT, oT, oT, oT, oT, oT, oT, oT, oT, oT, oT, oT, oT, oT, oT, oT, oT, oT, oT, oT, oF, oF, oF, oF, oF, oF, oT, oT]), (2, [oT, oT, oT, oT, oT, oT, oT, oT, oT, oT, oT, oT, oT, oT, oT, oT, oT, oT, oT, oT, oT, oT, oT, oT, oT, oT, oT, oT, oT, oT, oT, oF, oF, oF, oF, oF, oF, oT, oT, oT]), (2, [oT, oT, oT, oT, oT, oT, oT, oT, oT, oT, oT, oT, oT, oT, oT, oT, oT, oT, oT, oT, oT, oT, oT, oT, oT, oT, oT, oT, oT, oT, oT, oT, oT, oT, oT, oT, oT, oT, oT, oT, oT]), (2, [oT, oT, oT, oT, oT, oT, oT, oT, oT, oT, oT, oT, oT, oT, oT, oT, oT, oT, oT, oT, oT, oT, oT, oT, oT, oT, oT, oT, oT, oT, oT, oT, oT, oT, oT, oT, oT, oT, oT, oT, oT, oT]), (2, [oT, oT, oT, oT, oT, oT, oT, oT, oT, oT, oT, oT, oT, oT, oT, oT, oT, oT, oT, oT, oT, oT, oT, oT, oT, oT, oT, oT, oT, oT, oT, oT, oT, oT, oT, oT, oT, oT, oT, oT, oT, oT, oT])] [_, _, _, _, _, _, _, _, _, _, _, _, _, _, _, _, _, _, _, _, _, _, _, _, _, _, _, _, _, _, _, _, _, _, _, _, _, _, _, _, _, _, _, _] ⟨[(10, .b false)], [], 2⟩ ⟨O.mv Z R R, O.bi Z R R R R, O.kn (O.mv Z R R) hc14, O.faP y3k (Gu.mk R R) R R, O.ld nag32 (Gu.mk R R) R (.B R) R R, O.len sl32 (Gu.mk R R) R R, O.bi (Gu.mk R R) R R R R, O.pkT Z R R R R, O.kn (O.mv Z R R) hc15, O.mv (Gu.mk R R) R R, O.nc .Q (Gu.mk R R) R R, O.faQ y6n (Gu.mk R R) R R, O.ld nag32 (Gu.mk R R) R .Q R R, O.faP y3k (Gu.mk R R) R R, O.ld nag32 (Gu.mk R R) R (.B R) R R, O.ix sl32 (Gu.mk R R) R R ex16 R, O.ld nag3 (Gu.mk R R) R (.E lv3) R R, O.ca0 (yj er17) cf94 R R (Gu.mk R R) R R R, O.pkT Z R R R R, O.kn (O.mv Z R R) hc18, O.skip R R R R, O.skip R R R R, O.skip R R R R, O.skip R R R R, O.skip R R R R, O.skip R R R R, O.skip R R R R, O.skip R R R R, O.skip R R R R, O.pkF Z R R R R, O.mv Z R R, O.skip R R R R, O.skip R R R R, O.skip R R R R, O.skip R R R R, O.skip R R R R, O.skip R R R R, O.skip R R R R, O.skip R R R R, O.skip R R R R, O.skip R R R R, O.skip R R R R, O.pkF Z R R R R, O.as Z R R, trivial⟩ (by kernel_rfl) R ?_
        exact .blkN ((Jj5 _ hm).sub [] R)
      ·skip
       refine .drw [(2, []), (2, [oT]), (2, [oT, oT]), (2, [oT, oT, oT]), (2, [oT, oT, oT, oT]), (2, [oT, oT, oT, oT, oT]), (2, [oT, oT, oT, oT, oT, oT]), (2, [oT, oT, oT, oT, oT, oT, oT]), (2, [oT, oT, oT, oT, oT, oT, oT, oT]), (2, [oT, oT, oT, oT, oT, oT, oT, oT, oT]), (2, [oT, oT, oT, oT, oT, oT, oT, oT, oT, oT]), (2, [oT, oT, oT, oT, oT, oT, oT, oT, oT, oT, oT]), (2, [oT, oT, oT, oT, oT, oT, oT, oT, oT, oT, oT, oT]), (2, [oT, oT, oT, oT, oT, oT, oT, oT, oT]), (2, [oT, oT, oT, oT, oT, oT, oT, oT, oT, oF, oF, oF, oF, oT]), (2, [oT, oT, oT, oT, oT, oT, oT, oT, oT, oF, oF, oF, oF, oT, oT]), (2, [oT, oT, oT, oT, oT, oT, oT, oT, oT, oF, oF, oF, oF, oT, oT, oT]), (2, [oT, oT, oT, oT, oT, oT, oT, oT, oT, oT, oT, oT, oT, oT, oT, oT, oT]), (2, [oT, oT, oT, oT, oT, oT, oT, oT, oT, oT, oT, oT, oT, oT, oT, oT, oT, oT]), (2, [oT, oT, oT, oT, oT, oT, oT, oT, oT, oT, oT, oT, oT, oT, oT, oT, oT, oT, oT]), (2, [oT, oT, oT, oT, oT, oT, oT, oT, oT, oT, oT, oT, oT, oT, oT, oT, oT, oT, oT, oT]), (2, [oT, oT, oT, oT, oT, oT, oT, oT, oT, oT, oT, oT, oT, oT, oT, oT, oT, oT, oT, oT, oT]), (2, [oT, oT, oT, oT, oT, oT, oT, oT, oT, oT, oT, oT, oT, oT, oT, oT, oT, oT, oT, oT, oT, oT]), (2, [oT, oT, oT, oT, oT, oT, oT, oT, oT, oT, oT, oT, oT, oT, oT, oT, oT, oT, oT, oT, oT, oT, oT]), (2, [oT, oT, oT, oT, oT, oT, oT, oT, oT, oT, oT, oT, oT, oT, oT, oT, oT, oT, oT, oT]), (2, [oT, oT, oT, oT, oT, oT, oT, oT, oT, oT, oT, oT, oT, oT, oT, oT, oT, oT, oT, oT, oF, oF, oF, oF, oT]), (2, [oT, oT, oT, oT, oT, oT, oT, oT, oT, oT, oT, oT, oT, oT, oT, oT, oT, oT, oT, oT, oF, oF, oF, oF, oT, oT]), (2, [oT, oT, oT, oT, oT, oT, oT, oT, oT, oT, oT, oT, oT, oT, oT, oT, oT, oT, oT, oT, oF, oF, oF, oF, oT, oT, oT]), (2, [oT, oT, oT, oT, oT, oT, oT, oT, oT, oT, oT, oT, oT, oT, oT, oT, oT, oT, oT, oT, oT, oT, oT, oT, oT, oT, oT, oT]), (2, [oT, oT, oT, oT, oT, oT, oT, oT, oT, oT, oT, oT, oT, oT, oT, oT, oT, oT, oT, oT, oT, oT, oT, oT, oT, oT, oT, oT, oT]), (2, [oT, oT, oT, oT, oT, oT, oT, oT, oT, oT, oT, oT, oT, oT, oT, oT, oT, oT, oT, oT, oT, oT, oT, oT, oT, oT, oT, oT, oT, oT]), (2, [oT, oT, oT, oT, oT, oT, oT, oT, oT, oT, oT, oT, oT, oT, oT, oT, oT, oT, oT, oT, oT, oT, oT, oT, oT, oT, oT, oT, oT, oT, oT]), (2, [oT, oT, oT, oT, oT, oT, oT, oT, oT, oT, oT, oT, oT, oT, oT, oT, oT, oT, oT, oT, oT, oT, oT, oT, oT, oT, oT, oT, oT, oT, oT]), (2, [oT, oT, oT, oT, oT, oT, oT, oT, oT, oT, oT, oT, oT, oT, oT, oT, oT, oT, oT, oT, oT, oT, oT, oT, oT, oT, oT, oT, oT, oT, oT]), (2, [oT, oT, oT, oT, oT, oT, oT, oT, oT, oT, oT, oT, oT, oT, oT, oT, oT, oT, oT, oT, oT, oT, oT, oT, oT, oT, oT, oT, oT, oT, oT, oF, oF, oT]), (2, [oT, oT, oT, oT, oT, oT, oT, oT, oT, oT, oT, oT, oT, oT, oT, oT, oT, oT, oT, oT, oT, oT, oT, oT, oT, oT, oT, oT, oT, oT, oT, oF, oF, oT, oT]), (2, [oT, oT, oT, oT, oT, oT, oT, oT, oT, oT, oT, oT, oT, oT, oT, oT, oT, oT, oT, oT, oT, oT, oT, oT, oT, oT, oT, oT, oT, oT, oT, oF, oF, oT, oT, oT]), (2, [oT, oT, oT, oT, oT, oT, oT, oT, oT, oT, oT, oT, oT, oT, oT, oT, oT, oT, oT, oT, oT, oT, oT, oT, oT, oT, oT, oT, oT, oT, oT]), (2, [oT, oT, oT, oT, oT, oT, oT, oT, oT, oT, oT, oT, oT, oT, oT, oT, oT, oT, oT, oT, oT, oT, oT, oT, oT, oT, oT, oT, oT, oT, oT, oF, oF, oF, oF, oF, oF, oT]), (2, [oT, oT, oT, oT, oT, oT, oT, oT, oT, oT, oT, oT, oT, oT, oT, oT, oT, oT, oT, oT, oT, oT, oT, oT, oT, oT, oT, oT, oT, oT, oT, oF, oF, oF, oF, oF, oF, oT, oT]), (2, [oT, oT, oT, oT, oT, oT, oT, oT, oT, oT, oT, oT, oT, oT, oT, oT, oT, oT, oT, oT, oT, oT, oT, oT, oT, oT, oT, oT, oT, oT, oT, oF, oF, oF, oF, oF, oF, oT, oT, oT]), (2, [oT, oT, oT, oT, oT, oT, oT, oT, oT, oT, oT, oT, oT, oT, oT, oT, oT, oT, oT, oT, oT, oT, oT, oT, oT, oT, oT, oT, oT, oT, oT, oT, oT, oT, oT, oT, oT, oT, oT, oT, oT]), (2, [oT, oT, oT, oT, oT, oT, oT, oT, oT, oT, oT, oT, oT, oT, oT, oT, oT, oT, oT, oT, oT, oT, oT, oT, oT, oT, oT, oT, oT, oT, oT, oT, oT, oT, oT, oT, oT, oT, oT, oT, oT, oT]), (2, [oT, oT, oT, oT, oT, oT, oT, oT, oT, oT, oT, oT, oT, oT, oT, oT, oT, oT, oT, oT, oT, oT, oT, oT, oT, oT, oT, oT, oT, oT, oT, oT, oT, oT, oT, oT, oT, oT, oT, oT, oT, oT, oT])] [_, _, _, _, _, _, _, _, _, _, _, _, _, _, _, _, _, _, _, _, _, _, _, _, _, _, _, _, _, _, _, _, _, _, _, _, _, _, _, _, _, _, _, _] ⟨[(10, .b false)], [], 2⟩ ⟨O.mv Z R R, O.bi Z R R R R, O.kn (O.mv Z R R) hc14, O.faP y3k (Gu.mk R R) R R, O.ld nag32 (Gu.mk R R) R (.B R) R R, O.len sl32 (Gu.mk R R) R R, O.bi (Gu.mk R R) R R R R, O.pkT Z R R R R, O.kn (O.mv Z R R) hc15, O.skip R R R R, O.skip R R R R, O.skip R R R R, O.skip R R R R, O.skip R R R R, O.skip R R R R, O.skip R R R R, O.skip R R R R, O.skip R R R R, O.pkF Z R R R R, O.mv Z R R, O.skip R R R R, O.skip R R R R, O.skip R R R R, O.skip R R R R, O.skip R R R R, O.skip R R R R, O.skip R R R R, O.skip R R R R, O.skip R R R R, O.pkF Z R R R R, O.mv Z R R, O.skip R R R R, O.skip R R R R, O.skip R R R R, O.skip R R R R, O.skip R R R R, O.skip R R R R, O.skip R R R R, O.skip R R R R, O.skip R R R R, O.skip R R R R, O.skip R R R R, O.pkF Z R R R R, O.as Z R R, trivial⟩ (by kernel_rfl) R ?_
       exact .blkN ((Jj5 _ hm).sub [] R)
     ·skip
      refine .drw [(2, []), (2, [oT]), (2, [oT, oT]), (2, [oT, oT, oT]), (2, [oT, oT, oT, oT]), (2, [oT, oT, oT, oT, oT]), (2, [oT, oT, oT, oT, oT, oT]), (2, [oT, oT, oT, oT, oT, oT, oT]), (2, [oT, oT, oT, oT, oT, oT, oT, oT]), (2, [oT, oT, oT, oT, oT, oT, oT, oT, oT]), (2, [oT, oT, oT, oT, oT, oT, oT, oT, oT, oT]), (2, [oT, oT, oT, oT, oT, oT, oT, oT, oT, oT, oT]), (2, [oT, oT, oT, oT, oT, oT, oT, oT, oT, oT, oT, oT]), (2, [oT, oT, oT, oT, oT, oT, oT, oT, oT]), (2, [oT, oT, oT, oT, oT, oT, oT, oT, oT, oF, oF, oF, oF, oT]), (2, [oT, oT, oT, oT, oT, oT, oT, oT, oT, oF, oF, oF, oF, oT, oT]), (2, [oT, oT, oT, oT, oT, oT, oT, oT, oT, oF, oF, oF, oF, oT, oT, oT]), (2, [oT, oT, oT, oT, oT, oT, oT, oT, oT, oT, oT, oT, oT, oT, oT, oT, oT]), (2, [oT, oT, oT, oT, oT, oT, oT, oT, oT, oT, oT, oT, oT, oT, oT, oT, oT, oT]), (2, [oT, oT, oT, oT, oT, oT, oT, oT, oT, oT, oT, oT, oT, oT, oT, oT, oT, oT, oT]), (2, [oT, oT, oT, oT, oT, oT, oT, oT, oT, oT, oT, oT, oT, oT, oT, oT, oT, oT, oT, oT]), (2, [oT, oT, oT, oT, oT, oT, oT, oT, oT, oT, oT, oT, oT, oT, oT, oT, oT, oT, oT, oT, oT]), (2, [oT, oT, oT, oT, oT, oT, oT, oT, oT, oT, oT, oT, oT, oT, oT, oT, oT, oT, oT, oT, oT, oT]), (2, [oT, oT, oT, oT, oT, oT, oT, oT, oT, oT, oT, oT, oT, oT, oT, oT, oT, oT, oT, oT, oT, oT, oT]), (2, [oT, oT, oT, oT, oT, oT, oT, oT, oT, oT, oT, oT, oT, oT, oT, oT, oT, oT, oT, oT]), (2, [oT, oT, oT, oT, oT, oT, oT, oT, oT, oT, oT, oT, oT, oT, oT, oT, oT, oT, oT, oT, oF, oF, oF, oF, oT]), (2, [oT, oT, oT, oT, oT, oT, oT, oT, oT, oT, oT, oT, oT, oT, oT, oT, oT, oT, oT, oT, oF, oF, oF, oF, oT, oT]), (2, [oT, oT, oT, oT, oT, oT, oT, oT, oT, oT, oT, oT, oT, oT, oT, oT, oT, oT, oT, oT, oF, oF, oF, oF, oT, oT, oT]), (2, [oT, oT, oT, oT, oT, oT, oT, oT, oT, oT, oT, oT, oT, oT, oT, oT, oT, oT, oT, oT, oT, oT, oT, oT, oT, oT, oT, oT]), (2, [oT, oT, oT, oT, oT, oT, oT, oT, oT, oT, oT, oT, oT, oT, oT, oT, oT, oT, oT, oT, oT, oT, oT, oT, oT, oT, oT, oT, oT]), (2, [oT, oT, oT, oT, oT, oT, oT, oT, oT, oT, oT, oT, oT, oT, oT, oT, oT, oT, oT, oT, oT, oT, oT, oT, oT, oT, oT, oT, oT, oT]), (2, [oT, oT, oT, oT, oT, oT, oT, oT, oT, oT, oT, oT, oT, oT, oT, oT, oT, oT, oT, oT, oT, oT, oT, oT, oT, oT, oT, oT, oT, oT, oT]), (2, [oT, oT, oT, oT, oT, oT, oT, oT, oT, oT, oT, oT, oT, oT, oT, oT, oT, oT, oT, oT, oT, oT, oT, oT, oT, oT, oT, oT, oT, oT, oT]), (2, [oT, oT, oT, oT, oT, oT, oT, oT, oT, oT, oT, oT, oT, oT, oT, oT, oT, oT, oT, oT, oT, oT, oT, oT, oT, oT, oT, oT, oT, oT, oT]), (2, [oT, oT, oT, oT, oT, oT, oT, oT, oT, oT, oT, oT, oT, oT, oT, oT, oT, oT, oT, oT, oT, oT, oT, oT, oT, oT, oT, oT, oT, oT, oT, oF, oF, oT]), (2, [oT, oT, oT, oT, oT, oT, oT, oT, oT, oT, oT, oT, oT, oT, oT, oT, oT, oT, oT, oT, oT, oT, oT, oT, oT, oT, oT, oT, oT, oT, oT, oF, oF, oT, oT]), (2, [oT, oT, oT, oT, oT, oT, oT, oT, oT, oT, oT, oT, oT, oT, oT, oT, oT, oT, oT, oT, oT, oT, oT, oT, oT, oT, oT, oT, oT, oT, oT, oF, oF, oT, oT, oT]), (2, [oT, oT, oT, oT, oT, oT, oT, oT, oT, oT, oT, oT, oT, oT, oT, oT, oT, oT, oT, oT, oT, oT, oT, oT, oT, oT, oT, oT, oT, oT, oT]), (2, [oT, oT, oT, oT, oT, oT, oT, oT, oT, oT, oT, oT, oT, oT, oT, oT, oT, oT, oT, oT, oT, oT, oT, oT, oT, oT, oT, oT, oT, oT, oT, oF, oF, oF, oF, oF, oF, oT]), (2, [oT, oT, oT, oT, oT, oT, oT, oT, oT, oT, oT, oT, oT, oT, oT, oT, oT, oT, oT, oT, oT, oT, oT, oT, oT, oT, oT, oT, oT, oT, oT, oF, oF, oF, oF, oF, oF, oT, oT]), (2, [oT, oT, oT, oT, oT, oT, oT, oT, oT, oT, oT, oT, oT, oT, oT, oT, oT, oT, oT, oT, oT, oT, oT, oT, oT, oT, oT, oT, oT, oT, oT, oF, oF, oF, oF, oF, oF, oT, oT, oT]), (2, [oT, oT, oT, oT, oT, oT, oT, oT, oT, oT, oT, oT, oT, oT, oT, oT, oT, oT, oT, oT, oT, oT, oT, oT, oT, oT, oT, oT, oT, oT, oT, oT, oT, oT, oT, oT, oT, oT, oT, oT, oT]), (2, [oT, oT, oT, oT, oT, oT, oT, oT, oT, oT, oT, oT, oT, oT, oT, oT, oT, oT, oT, oT, oT, oT, oT, oT, oT, oT, oT, oT, oT, oT, oT, oT, oT, oT, oT, oT, oT, oT, oT, oT, oT, oT]), (2, [oT, oT, oT, oT, oT, oT, oT, oT, oT, oT, oT, oT, oT, oT, oT, oT, oT, oT, oT, oT, oT, oT, oT, oT, oT, oT, oT, oT, oT, oT, oT, oT, oT, oT, oT, oT, oT, oT, oT, oT, oT, oT, oT])] [_, _, _, _, _, _, _, _, _, _, _, _, _, _, _, _, _, _, _, _, _, _, _, _, _, _, _, _, _, _, _, _, _, _, _, _, _, _, _, _, _, _, _, _] ⟨[(10, .b false)], [], 2⟩ ⟨O.mv Z R R, O.bi Z R R R R, O.kn (O.mv Z R R) hc14, O.skip R R R R, O.skip R R R R, O.skip R R R R, O.skip R R R R, O.pkF Z R R R R, O.mv Z R R, O.skip R R R R, O.skip R R R R, O.skip R R R R, O.skip R R R R, O.skip R R R R, O.skip R R R R, O.skip R R R R, O.skip R R R R, O.skip R R R R, O.pkF Z R R R R, O.mv Z R R, O.skip R R R R, O.skip R R R R, O.skip R R R R, O.skip R R R R, O.skip R R R R, O.skip R R R R, O.skip R R R R, O.skip R R R R, O.skip R R R R, O.pkF Z R R R R, O.mv Z R R, O.skip R R R R, O.skip R R R R, O.skip R R R R, O.skip R R R R, O.skip R R R R, O.skip R R R R, O.skip R R R R, O.skip R R R R, O.skip R R R R, O.skip R R R R, O.skip R R R R, O.pkF Z R R R R, O.as Z R R, trivial⟩ (by kernel_rfl) R ?_
      exact .blkN ((Jj5 _ hm).sub [] R)
    ·refine .cF R hc ?_
     refine .seq (.reg (.bi R (.sa R (.nil (.seqN ?_)))))
     rcases ifS hm with ⟨hc, hm⟩ | ⟨hc, hm⟩
     ·refine .cT R hc ?_
      refine .seq (.reg (.mv R (.mv R (bS hm fun r25 er25 hm => .op (O.ca0 (y5m er25) cf78 R R Z R R R) R (.op (O.al 2 R zz141 R Z R) R (.op (O.st ag141.sz Z R R R R R) R (.nil (.seqN (.seq (.reg (.op (O.lg (l' := [lF qI r25.1.1, lI r25.1.2.1, lF qI r25.1.2.2.1, lF qT r25.1.2.2.2, lM kvP qI r25.2]) ag141 Z R (.B R) R R R) R (.op (O.faP y5Z Z R R) R (.op (O.ld nag32 Z R (.B R) R R) R (bS hm fun r26 er26 hm => .op (O.ca0 (y6h er26) cf91 R R Z R R R) R (.sa R (.nil (.seqN (.reg (.mv R (.bi R (.mv R ?_)))))))))))))))))))))
      refine .cut 5 (fun (v27 : Bool) => ((r26 != (-1)) && ((p2.2.2.length : Int) == 0)) = v27) (fun v27 => ⟨[(111, .b v27), (12, .i r26), (11, .q 2 0)], [(2, .bx 141 [lF qI r25.1.1, lI r25.1.2.1, lF qI r25.1.2.2.1, lF qT r25.1.2.2.2, lM kvP qI r25.2])], 3⟩) ?_ ?_
      ·rintro _ rfl
       refine .mv R (bS hm fun b29 eb29 hm => ?_)
       refine .cut 7 (fun (v30 : Bool) => b29 = v30) (fun v30 => ⟨[(119, .b v30)], [], 4⟩) ?_ ?_
       ·rintro _ rfl
        exact .sa R (.nil (.blkN ((Jj5 _ hm).sub [] R)))
       ·intro J31
        rcases ifS eb29 with ⟨hc, hm⟩ | ⟨hc, hm⟩
        ·refine .know (d := 112) R hc ?_
         exact .op (O.lg (l' := [lF qI r25.1.1, lI r25.1.2.1, lF qI r25.1.2.2.1, lF qT r25.1.2.2.2, lM kvP qI r25.2]) ag141 (Gu.mk R R) R (.B R) R R R) R (bS hm fun r32 er32 hm => .op (O.ca (r' := .h 3) [3] [(0, ROW rB 4 r32)] (some 4) (y6k er32) cf80 R R (Gu.mk R R) R R R R ⟨⟨_, R, fun _ _ _ _ h => h⟩, trivial⟩ (fun _ _ _ h => h) R) R (.op (O.mv (Gu.mk R R) R R) R (bS hm fun x33 ex33 hm => .op (O.ir sl144 (Gu.mk R R) R R R ex33 R) R (.op (O.ld nag4 (Gu.mk R R) R (.R R ex33 lv4) R R) R (.op (O.not (Gu.mk R R) R R) R (.op (O.pkT Z R R R R) R ((J31 (!x33) (oi hm).symm).sub [] R)))))))
        ·refine .know (d := 112) R hc ?_
         exact .sk R (.sk R (.sk R (.sk R (.sk R (.sk R (.op (O.pkF Z R R R R) R ((J31 false (oi hm).symm).sub [] R)))))))
      ·intro J28
       rcases Bool.eq_false_or_eq_true (r26 != (-1)) with hc | hc
       ·refine .know (d := 106) R hc ?_
        exact .op (O.faP y3k (Gu.mk R R) R R) R (.op (O.ld nag32 (Gu.mk R R) R (.B R) R R) R (.op (O.len sl32 (Gu.mk R R) R R) R (.op (O.bi (Gu.mk R R) R R R R) R (.op (O.pkT Z R R R R) R ((J28 ((p2.2.2.length : Int) == 0) (andT hc).symm).sub [] R)))))
       ·refine .know (d := 106) R hc ?_
        exact .sk R (.sk R (.sk R (.sk R (.op (O.pkF Z R R R R) R ((J28 false (andF hc).symm).sub [] R)))))
     ·refine .cF R hc ?_
      refine .seq (.reg (.sa R (.nil (.seqN (.ret (.blkR (.seqR ?_)))))))
      obtain rfl := oi hm
      exact WX.rt [] (.inl R) Tryz.results31 (.tmp R .nil) R (fun _ _ _ h => h) trivial
def y2Q (p0 : List Int) (p1 : Int) (st4 : Int) : Option (Int ⊕ (Unit ⊕ Unit)) :=
 if decide (st4 < (p0.length : Int)) then
  (idx p0 st4).bind fun x9 =>
  if (x9 == p1) then
   some (.inr (.inr (())))
  else
   some (.inl (W (st4 + 1)))
 else
  some (.inr (.inl ()))
def y1y (p0 : List Int) (p1 : Int) : Option Bool :=
 (iter (y2Q p0 p1) 0).bind fun o4 =>
 match o4 with
 | .inl u5 =>
  some false
 | .inr (u7) =>
  some true
theorem y4b {p0 : List Int} {p1 : Int} {r : Bool} (hm : y1y p0 p1 = some r) :
  Fw Tryz.prog 44 ⟨0, []⟩ [.f qI p0, .i p1] [] (.b r) [] := by
 unfold y1y at hm
 refine Fw.mk' Tryz.func44 R Tryz.ntmps44 R R (fun C => ?_) R R
 refine .seq (.reg (.sa R (.nil (.seqN (.seq (.seq (.reg (.sa R (.nil (.seqN (.block (bS hm fun o4 eo4 hm => ?_))))))))))))
 refine .cutU (z := .exit 0) (fun u5 => .inl u5 = o4) (fun (u5 : Unit) => ⟨[], [], 0⟩) ?_ fun K6 => ?_
 ·rintro u5 rfl
  dsimp only at hm
  refine .blkE (.seqN (.seq (.reg (.sa R (.nil (.seqN (.ret ?_)))))))
  obtain rfl := oi hm
  exact WX.rt [] (.inl R) Tryz.results44 (.tmp R .nil) R (fun _ _ _ h => h) trivial
 refine .cutU (z := .ret) (fun u7 => .inr (u7) = o4) (fun (u7 : Unit) => ⟨[(4, .b true)], [], 0⟩) ?_ fun K8 => ?_
 ·rintro u7 rfl
  dsimp only at hm
  refine .blkR (.seqR ?_)
  obtain rfl := oi hm
  exact WX.rt [] (.inl R) Tryz.results44 (.tmp R .nil) R (fun _ _ _ h => h) trivial
 refine .iter (fun (st4 : Int) => ⟨[(5, .i st4), (0, .f qI p0), (1, .i p1)], [], 0⟩) eo4 [] R ?_
 intro st4 res4 hm ih4 ho4
 unfold y2Q at hm
 refine .seq (.seq (.reg (.mv R (.mv R (.op (O.len sl32 Z R R) R (.bi R (.nil (.seqN ?_))))))))
 rcases ifS hm with ⟨hc, hm⟩ | ⟨hc, hm⟩
 ·refine .cT R hc ?_
  refine .skip (.seqN (.seq (.block (.seq (.reg (.mv R (.mv R (bS hm fun x9 ex9 hm => .op (O.ix sl32 Z R R ex9 R) R (.op (O.ld nag3 Z R (.E lv3) R R) R (.mv R (.bi R (.nil (.seqN ?_)))))))))))))
  rcases ifS hm with ⟨hc, hm⟩ | ⟨hc, hm⟩
  ·refine .cT R hc ?_
   exact .seq (.reg (.sa R (.nil (.seqN (.ret (.blkR (.seqR (.seqR ((K8 _ (ho4 _ (oi hm).symm)).sub [] R)))))))))
  ·refine .cF R hc ?_
   exact .skip (.blkN (.seqN (.reg (.mv R (.bi R (.sa R (.nil ((ih4 _ (oi hm).symm).sub [] R))))))))
 ·refine .cF R hc ?_
  exact .exit (.seqX (.seqX ((K6 _ (ho4 _ (oi hm).symm)).sub [] R)))
def y1W (st10 : Int) (b16 : Bool) : Option (Int ⊕ (Unit ⊕ Unit)) :=
 if b16 then
  some (.inr (.inr (())))
 else
  some (.inl (W (st10 + 1)))
def y1X (p0 : List AutT) (p1 : List Int) (st10 : Int) : Option (Int ⊕ (Unit ⊕ Unit)) :=
 if decide (st10 < (p0.length : Int)) then
  (idx p0 st10).bind fun x15 =>
  (idx p1 st10).bind fun x18 =>
  if decide (x18 < 0) then
   y1W st10 true
  else
   (idx p1 st10).bind fun x20 =>
   y1W st10 (decide (x20 ≥ x15.2.1))
 else
  some (.inr (.inl ()))
def y3r (p0 : List AutT) (p1 : List Int) : Option Int :=
 (y2H p0).bind fun r1 =>
 if (r1 != 0) then
  some r1
 else
  if ((p1.length : Int) != (p0.length : Int)) then
   some 4
  else
   (iter (y1X p0 p1) 0).bind fun o10 =>
   match o10 with
   | .inl u11 =>
    some 0
   | .inr (u13) =>
    some 2
theorem y7u {p0 : List AutT} {p1 : List Int} {r : Int} (hm : y3r p0 p1 = some r) :
  Fw Tryz.prog 216 ⟨0, []⟩ [.f rE35 p0, .f qI p1] [] (.i r) [] := by
 unfold y3r at hm
 refine Fw.mk' Tryz.func216 R Tryz.ntmps216 R R (fun C => ?_) R R
 refine .seq (.reg (.sa R (.nil (.seqN (.seq (.seq (.reg (.mv R (bS hm fun r1 er1 hm => .op (O.ca0 (y6J er1) cf95 R R Z R R R) R (.sa R (.nil (.seqN (.seq (.reg (.mv R (.bi R (.nil (.seqN ?_))))))))))))))))))
 rcases ifS hm with ⟨hc, hm⟩ | ⟨hc, hm⟩
 ·refine .cT R hc ?_
  refine .seq (.reg (.mv R (.sa R (.nil (.seqN (.ret (.seqR ?_)))))))
  obtain rfl := oi hm
  exact WX.rt [] (.inl R) Tryz.results216 (.tmp R .nil) R (fun _ _ _ h => h) trivial
 ·refine .cF R hc ?_
  refine .skip (.seqN (.seq (.seq (.reg (.mv R (.op (O.len sl32 Z R R) R (.mv R (.op (O.len sl66 Z R R) R (.bi R (.nil (.seqN ?_)))))))))))
  rcases ifS hm with ⟨hc, hm⟩ | ⟨hc, hm⟩
  ·refine .cT R hc ?_
   refine .seq (.reg (.sa R (.nil (.seqN (.ret (.seqR ?_))))))
   obtain rfl := oi hm
   exact WX.rt [] (.inl R) Tryz.results216 (.tmp R .nil) R (fun _ _ _ h => h) trivial
  ·refine .cF R hc ?_
   refine .skip (.seqN (.seq (.seq (.reg (.mv R (.op (O.len sl66 Z R R) R (.mv R (.nil (.seqN (.block (bS hm fun o10 eo10 hm => ?_)))))))))))
   refine .cutU (z := .exit 0) (fun u11 => .inl u11 = o10) (fun (u11 : Unit) => ⟨[], [], 0⟩) ?_ fun K12 => ?_
   ·rintro u11 rfl
    dsimp only at hm
    refine .blkE (.seqN (.seq (.reg (.sa R (.nil (.seqN (.ret ?_)))))))
    obtain rfl := oi hm
    exact WX.rt [] (.inl R) Tryz.results216 (.tmp R .nil) R (fun _ _ _ h => h) trivial
   refine .cutU (z := .ret) (fun u13 => .inr (u13) = o10) (fun (u13 : Unit) => ⟨[(4, .i 2)], [], 0⟩) ?_ fun K14 => ?_
   ·rintro u13 rfl
    dsimp only at hm
    refine .blkR (.seqR ?_)
    obtain rfl := oi hm
    exact WX.rt [] (.inl R) Tryz.results216 (.tmp R .nil) R (fun _ _ _ h => h) trivial
   refine .iter (fun (st10 : Int) => ⟨[(20, .i st10), (19, .i (p0.length : Int)), (18, .f rE35 p0), (1, .f qI p1)], [], 0⟩) eo10 [] R ?_
   intro st10 res10 hm ih10 ho10
   unfold y1X at hm
   refine .seq (.reg (.bi R (.nil (.seqN (.seq ?_)))))
   rcases ifS hm with ⟨hc, hm⟩ | ⟨hc, hm⟩
   ·refine .cT R hc ?_
    refine .skip (.seqN (.seq (.block (.seq (.reg (.mv R (bS hm fun x15 ex15 hm => .op (O.ix sl66 Z R R ex15 R) R (.op (O.lg (l' := [lF qI x15.1, lI x15.2.1, lF qI x15.2.2.1, lF qT x15.2.2.2]) ag35 Z R (.E lv35) R R R) R (.op (O.al 0 R zz35 R Z R) R (.sa R (.op (O.st ag35.sz Z R R R R R) R (.nil (.seqN ?_)))))))))))))
    refine .join1 (fun (b16 : Bool) => y1W st10 b16 = some res10) (fun b16 => ⟨[(38, .b b16), (20, .i st10), (19, .i (p0.length : Int)), (18, .f rE35 p0), (1, .f qI p1)], [], 0⟩) ?_ ?_
    ·intro b16 hm
     unfold y1W at hm
     rcases ifS hm with ⟨hc, hm⟩ | ⟨hc, hm⟩
     ·refine .cT R hc ?_
      exact .seq (.reg (.sa R (.nil (.seqN (.ret (.blkR (.seqR (.seqR ((K14 _ (ho10 _ (oi hm).symm)).sub [] R)))))))))
     ·refine .cF R hc ?_
      exact .skip (.blkN (.seqN (.reg (.bi R (.mv R (.nil ((ih10 _ (oi hm).symm).sub [] R)))))))
    ·intro Jj17
     refine .sub (τ := ⟨[(6, .i st10), (7, .q 0 0), (20, .i st10), (19, .i (p0.length : Int)), (18, .f rE35 p0), (1, .f qI p1)], [(0, .bx 35 [lF qI x15.1, lI x15.2.1, lF qI x15.2.2.1, lF qT x15.2.2.2])], 1⟩) ?_ [] R
     refine bS hm fun x18 ex18 hm => ?_
     rcases ifS hm with ⟨hc19, hm⟩ | ⟨hc19, hm⟩
     ·skip
      refine .drw [(1, []), (1, []), (1, [oT, oT]), (1, [oT, oT, oT]), (1, [oT, oT, oT, oT]), (1, [oT, oT, oT, oT, oT]), (1, [oT, oT, oT, oT, oT, oT]), (1, [oT, oT, oT, oT, oT, oT]), (1, [oT, oT, oT, oT, oT, oT, oT, oT]), (1, [oT, oT, oT, oT, oT, oT, oT, oT, oT]), (1, [oT, oT, oT, oT, oT, oT]), (1, [oT, oT, oT, oT, oT, oT, oF, oF, oF, oF, oT]), (1, [oT, oT, oT, oT, oT, oT, oT, oT, oT, oT, oT, oT]), (1, [oT, oT, oT, oT, oT, oT, oT, oT, oT, oT, oT, oT, oT])] [_, _, _, _, _, _, _, _, _, _, _, _, _, _] ⟨[(38, .b true), (20, .i st10), (19, .i (p0.length : Int)), (18, .f rE35 p0), (1, .f qI p1)], [], 1⟩ ⟨O.mv Z R R, O.mv Z R R, O.ix sl32 Z R R ex18 R, O.ld nag3 Z R (.E lv3) R R, O.bi Z R R R R, O.kn (O.mv Z R R) hc19, O.skip R R R R, O.skip R R R R, O.skip R R R R, O.skip R R R R, O.skip R R R R, O.skip R R R R, O.skip R R R R, O.pkT Z R R R R, trivial⟩ (by kernel_rfl) R ?_
      exact (Jj17 _ hm).sub [] R
     ·skip
      refine bS hm fun x20 ex20 hm => ?_
      refine .drw [(1, []), (1, []), (1, [oT, oT]), (1, [oT, oT, oT]), (1, [oT, oT, oT, oT]), (1, [oT, oT, oT, oT, oT]), (1, [oT, oT, oT, oT, oT, oT]), (1, [oT, oT, oT, oT, oT, oT]), (1, [oT, oT, oT, oT, oT, oT, oT, oT]), (1, [oT, oT, oT, oT, oT, oT, oT, oT, oT]), (1, [oT, oT, oT, oT, oT, oT]), (1, [oT, oT, oT, oT, oT, oT, oF, oF, oF, oF, oT]), (1, [oT, oT, oT, oT, oT, oT, oT, oT, oT, oT, oT, oT]), (1, [oT, oT, oT, oT, oT, oT, oT, oT, oT, oT, oT, oT, oT])] [_, _, _, _, _, _, _, _, _, _, _, _, _, _] ⟨[(38, .b (decide (x20 ≥ x15.2.1))), (20, .i st10), (19, .i (p0.length : Int)), (18, .f rE35 p0), (1, .f qI p1)], [], 1⟩ ⟨O.mv Z R R, O.mv Z R R, O.ix sl32 Z R R ex18 R, O.ld nag3 Z R (.E lv3) R R, O.bi Z R R R R, O.kn (O.mv Z R R) hc19, O.mv (Gu.mk R R) R R, O.mv (Gu.mk R R) R R, O.ix sl32 (Gu.mk R R) R R ex20 R, O.ld nag3 (Gu.mk R R) R (.E lv3) R R, O.faP y1N (Gu.mk R R) R R, O.ld nag3 (Gu.mk R R) R (.B R) R R, O.bi (Gu.mk R R) R R R R, O.pkF Z R R R R, trivial⟩ (by kernel_rfl) R ?_
      exact (Jj17 _ hm).sub [] R
   ·refine .cF R hc ?_
    exact .exit (.seqX (.seqX ((K12 _ (ho10 _ (oi hm).symm)).sub [] R)))
def y4o (p0 : List AutT) (p1 : List Int) (p2 : Int) : Option Int :=
 (y3r p0 p1).bind fun r1 =>
 if (r1 != 0) then
  some r1
 else
  (y2p p0).bind fun r2 =>
  (yn r2 p2).bind fun r3 =>
  if (!r3) then
   some 9
  else
   some 0
theorem y7v {p0 : List AutT} {p1 : List Int} {p2 : Int} {r : Int} (hm : y4o p0 p1 p2 = some r) :
  Fw Tryz.prog 177 ⟨0, []⟩ [.f rE35 p0, .f qI p1, .i p2] [] (.i r) [] := by
 unfold y4o at hm
 refine Fw.mk' Tryz.func177 R Tryz.ntmps177 R R (fun C => ?_) R R
 refine .seq (.reg (.sa R (.nil (.seqN (.seq (.seq (.reg (.mv R (.mv R (bS hm fun r1 er1 hm => .op (O.ca0 (y7u er1) cf216 R R Z R R R) R (.sa R (.nil (.seqN (.seq (.reg (.mv R (.bi R (.nil (.seqN ?_)))))))))))))))))))
 rcases ifS hm with ⟨hc, hm⟩ | ⟨hc, hm⟩
 ·refine .cT R hc ?_
  refine .seq (.reg (.mv R (.sa R (.nil (.seqN (.ret (.seqR ?_)))))))
  obtain rfl := oi hm
  exact WX.rt [] (.inl R) Tryz.results177 (.tmp R .nil) R (fun _ _ _ h => h) trivial
 ·refine .cF R hc ?_
  refine .skip (.seqN (.seq (.seq (.reg (.mv R (bS hm fun r2 er2 hm => .op (O.ca (r' := .h 0) [0] [(0, ROW qI 3 r2)] (some 1) (y6u er2) cf159 R R Z R R R R ⟨⟨_, R, fun _ _ _ _ h => h⟩, trivial⟩ (fun _ _ _ h => h) R) R (.mv R (bS hm fun r3 er3 hm => .op (O.caZ (yj er3) cf94 R R Z R ⟨⟨R, .hr R, trivial⟩, ⟨R, LnL.rf⟩, trivial⟩ (fun _ _ _ _ _ h => h) R) R (.op (O.not Z R R) R (.nil (.seqN ?_)))))))))))
  rcases ifS hm with ⟨hc, hm⟩ | ⟨hc, hm⟩
  ·refine .cT R hc ?_
   refine .seq (.reg (.sa R (.nil (.seqN (.ret (.seqR ?_))))))
   obtain rfl := oi hm
   exact WX.rt [] (.inl R) Tryz.results177 (.tmp R .nil) R (fun _ _ _ h => h) trivial
  ·refine .cF R hc ?_
   refine .skip (.seqN (.seq (.reg (.sa R (.nil (.seqN (.ret ?_)))))))
   obtain rfl := oi hm
   exact WX.rt [] (.inl R) Tryz.results177 (.tmp R .nil) R (fun _ _ _ h => h) trivial
def y2B (p0 : List AutT) (p1 : List Int) (p2 : Int) : Option (List Int × Bool × Int) :=
 (y4o p0 p1 p2).bind fun r1 =>
 if (r1 != 0) then
  some (([] : List Int), false, r1)
 else
  (y2w p0).bind fun r2 =>
  (yy r2 p1 p2).bind fun r3 =>
  some (r3.1, r3.2, 0)
theorem y5K {p0 : List AutT} {p1 : List Int} {p2 : Int} {r : List Int × Bool × Int} (hm : y2B p0 p1 p2 = some r) :
  Fw Tryz.prog 114 ⟨0, []⟩ [.f rE35 p0, .f qI p1, .i p2] [] (.tp [.h 0, .b r.2.1, .i r.2.2]) [ROW qI 3 r.1] := by
 unfold y2B at hm
 refine Fw.mk' Tryz.func114 R Tryz.ntmps114 R R (fun C => ?_) R R
 refine .seq (.reg (.sa R (.sa R (.sa R (.nil (.seqN (.seq (.seq (.reg (.mv R (.mv R (.mv R (bS hm fun r1 er1 hm => .op (O.ca0 (y7v er1) cf177 R R Z R R R) R (.sa R (.nil (.seqN (.seq (.reg (.mv R (.bi R (.nil (.seqN ?_))))))))))))))))))))))
 rcases ifS hm with ⟨hc, hm⟩ | ⟨hc, hm⟩
 ·refine .cT R hc ?_
  refine .seq (.reg (.mv R (.sa R (.sa R (.sa R (.nil (.seqN (.ret (.seqR (.nlg qI 3 6 0 R R ?_))))))))))
  obtain rfl := oi hm
  exact WX.rt [0] (.inl R) Tryz.results114 (.tmp R (.tmp R (.tmp R .nil))) R (fun _ _ _ h => h) ⟨⟨_, R, fun _ _ _ _ h => h⟩, trivial⟩
 ·refine .cF R hc ?_
  refine .skip (.seqN (.seq (.reg (.mv R (bS hm fun r2 er2 hm => .op (O.ca (r' := .g [lF rE35 r2.1, lH 0, lH 1]) [0, 1] [(0, ROW qI 3 r2.2.1), (1, ROW (rM kvP qI) 139 r2.2.2)] (some 2) (y6X er2) cf96 R R Z R R R R ⟨⟨_, R, fun _ _ _ _ h => h⟩, ⟨_, R, fun _ _ _ _ h => h⟩, trivial⟩ (fun _ _ _ h => h) R) R (.mv R (.mv R (bS hm fun r3 er3 hm => .op (O.caY (r' := .tp [.h 2, .b r3.2]) [2] [(0, ROW qI 3 r3.1)] (some 3) (y5j er3) cf100 R R Z R R ⟨⟨R, .rf, .hr R, .hr R, trivial⟩, ⟨R, LnL.rf⟩, ⟨R, LnL.rf⟩, trivial⟩ R ⟨.row flr3, trivial⟩ (fun _ _ _ _ h => h) ⟨⟨_, R, fun _ _ _ _ h => h⟩, trivial⟩ (fun _ _ _ h => h) R) R (.mv R (.op (O.ex Z R R R) R (.op (O.ex Z R R R) R (.sa R (.sa R (.nil (.seqN (.seq (.reg (.mv R (.mv R (.sa R (.sa R (.sa R (.nil (.seqN (.ret ?_)))))))))))))))))))))))))
  obtain rfl := oi hm
  exact WX.rt [2] (.inl R) Tryz.results114 (.tmp R (.tmp R (.tmp R .nil))) R (fun _ _ _ h => h) ⟨⟨_, R, fun _ _ _ _ h => h⟩, trivial⟩
def yu (p0 : AutT × AutT × List Int) (p3 : Int) (r11 : List Int × Bool × Int) (b13 : Bool) : Option Bool :=
 if b13 then
  some false
 else
  (y2B ([p0.1, p0.2.1] : List AutT) r11.1 p3).bind fun r15 =>
  some ((r15.2.2 == 0) && (!r15.2.1))
def y3s (p0 : AutT × AutT × List Int) (p1 : List Int) (p2 : Int) (p3 : Int) : Option Bool :=
 (y1y p0.1.1 p2).bind fun r1 =>
 (if (!r1) then
  some true
 else
  (y1y p0.1.1 p3).bind fun r26 =>
  some (!r26)).bind fun b2 =>
 (if b2 then
  some true
 else
  (y1y p0.2.2 p2).bind fun r25 =>
  some (!r25)).bind fun b5 =>
 (if b5 then
  some true
 else
  (y1y p0.2.2 p3).bind fun r24 =>
  some r24).bind fun b8 =>
 if b8 then
  some false
 else
  (y2B ([p0.1, p0.2.1] : List AutT) p1 p2).bind fun r11 =>
  (y2B ([p0.1, p0.2.1] : List AutT) p1 p3).bind fun r12 =>
  if (r11.2.2 != 0) then
   yu p0 p3 r11 true
  else
   if (r12.2.2 != 0) then
    yu p0 p3 r11 true
   else
    if (!r11.2.1) then
     yu p0 p3 r11 true
    else
     if (!r12.2.1) then
      yu p0 p3 r11 true
     else
      (idx r11.1 0).bind fun x22 =>
      (y1Y p0.1 x22 p3).bind fun r23 =>
      yu p0 p3 r11 (decide (r23 < 0))
theorem y7w {p0 : AutT × AutT × List Int} {p1 : List Int} {p2 : Int} {p3 : Int} {r : Bool} (hm : y3s p0 p1 p2 p3 = some r) :
  Fw Tryz.prog 42 ⟨0, []⟩ [.a [lF qI p0.1.1, lI p0.1.2.1, lF qI p0.1.2.2.1, lF qT p0.1.2.2.2, lF qI p0.2.1.1, lI p0.2.1.2.1, lF qI p0.2.1.2.2.1, lF qT p0.2.1.2.2.2, lF qI p0.2.2], .f qI p1, .i p2, .i p3] [] (.b r) [] := by
 unfold y3s at hm
 refine Fw.mk' Tryz.func42 R Tryz.ntmps42 R R (fun C => ?_) R R
 refine .seq (.reg (.op (O.box 0 R Z R R R) R (.sa R (.nil (.seqN (.seq (.reg (.op (O.faP y4O Z R R) R (.op (O.lg (l' := [lF qI p0.1.1, lI p0.1.2.1, lF qI p0.1.2.2.1, lF qT p0.1.2.2.2]) ag35 Z R (.B R) R R R) R (.op (O.faP y6V Z R R) R (.op (O.lg (l' := [lF qI p0.2.1.1, lI p0.2.1.2.1, lF qI p0.2.1.2.2.1, lF qT p0.2.1.2.2.2]) ag35 Z R (.B R) R R R) R (.op (O.bsF (r := rE35) (zs := ([p0.1, p0.2.1] : List AutT)) bs66 R R Z R R R (.c (.p .l (.p .k (.p .l .l))) (.c (.p .l (.p .k (.p .l .l))) .n)) R R R) R (.sa R (.nil (.seqN (.seq (.seq (.reg (.op (O.faP y4O Z R R) R (.op (O.faP y1M Z R R) R (.op (O.ld nag32 Z R (.B R) R R) R (.mv R (bS hm fun r1 er1 hm => .op (O.ca0 (y4b er1) cf44 R R Z R R R) R (.op (O.not Z R R) R (.mv R (bS hm fun b2 eb2 hm => ?_))))))))))))))))))))))))))
 refine .cut 7 (fun (v3 : Bool) => b2 = v3) (fun v3 => ⟨[(37, .b v3), (9, .f rE35 ([p0.1, p0.2.1] : List AutT)), (4, .q 0 0), (1, .f qI p1), (2, .i p2), (3, .i p3)], [(0, .bx 37 [lF qI p0.1.1, lI p0.1.2.1, lF qI p0.1.2.2.1, lF qT p0.1.2.2.2, lF qI p0.2.1.1, lI p0.2.1.2.1, lF qI p0.2.1.2.2.1, lF qT p0.2.1.2.2.2, lF qI p0.2.2])], 1⟩) ?_ ?_
 ·rintro _ rfl
  refine .mv R (bS hm fun b5 eb5 hm => ?_)
  refine .cut 6 (fun (v6 : Bool) => b5 = v6) (fun v6 => ⟨[(44, .b v6), (9, .f rE35 ([p0.1, p0.2.1] : List AutT)), (4, .q 0 0), (1, .f qI p1), (2, .i p2), (3, .i p3)], [(0, .bx 37 [lF qI p0.1.1, lI p0.1.2.1, lF qI p0.1.2.2.1, lF qT p0.1.2.2.2, lF qI p0.2.1.1, lI p0.2.1.2.1, lF qI p0.2.1.2.2.1, lF qT p0.2.1.2.2.2, lF qI p0.2.2])], 1⟩) ?_ ?_
  ·rintro _ rfl
   refine .mv R (bS hm fun b8 eb8 hm => ?_)
   refine .cut 5 (fun (v9 : Bool) => b8 = v9) (fun v9 => ⟨[(50, .b v9), (9, .f rE35 ([p0.1, p0.2.1] : List AutT)), (4, .q 0 0), (1, .f qI p1), (2, .i p2), (3, .i p3)], [(0, .bx 37 [lF qI p0.1.1, lI p0.1.2.1, lF qI p0.1.2.2.1, lF qT p0.1.2.2.2, lF qI p0.2.1.1, lI p0.2.1.2.1, lF qI p0.2.1.2.2.1, lF qT p0.2.1.2.2.2, lF qI p0.2.2])], 1⟩) ?_ ?_
   ·rintro _ rfl
    refine .nil (.seqN ?_)
    rcases ifS hm with ⟨hc, hm⟩ | ⟨hc, hm⟩
    ·refine .cT R hc ?_
     refine .seq (.reg (.sa R (.nil (.seqN (.ret (.seqR ?_))))))
     obtain rfl := oi hm
     exact WX.rt [] (.inl R) Tryz.results42 (.tmp R .nil) R (fun _ _ _ h => h) trivial
    ·refine .cF R hc ?_
     refine .skip (.seqN (.seq (.reg (.mv R (.mv R (.mv R (bS hm fun r11 er11 hm => .op (O.ca (r' := .tp [.h 1, .b r11.2.1, .i r11.2.2]) [1] [(0, ROW qI 3 r11.1)] (some 2) (y5K er11) cf114 R R Z R R R R ⟨⟨_, R, fun _ _ _ _ h => h⟩, trivial⟩ (fun _ _ _ h => h) R) R (.mv R (.op (O.ex Z R R R) R (.op (O.ex Z R R R) R (.op (O.ex Z R R R) R (.sa R (.sa R (.sa R (.nil (.seqN (.seq (.reg (.mv R (.mv R (.mv R (bS hm fun r12 er12 hm => .op (O.ca (r' := .tp [.h 2, .b r12.2.1, .i r12.2.2]) [2] [(0, ROW qI 3 r12.1)] (some 3) (y5K er12) cf114 R R Z R R R R ⟨⟨_, R, fun _ _ _ _ h => h⟩, trivial⟩ (fun _ _ _ h => h) R) R (.mv R (.op (O.ex Z R R R) R (.op (O.ex Z R R R) R (.op (O.ex Z R R R) R (.sa R (.sa R (.sa R (.nil (.seqN (.seq ?_))))))))))))))))))))))))))))))))
     refine .join1 (fun (b13 : Bool) => yu p0 p3 r11 b13 = some r) (fun b13 => ⟨[(90, .b b13), (10, .h 0), (9, .f rE35 ([p0.1, p0.2.1] : List AutT)), (3, .i p3)], [(0, ROW qI 3 r11.1)], 1⟩) ?_ ?_
     ·intro b13 hm
      unfold yu at hm
      rcases ifS hm with ⟨hc, hm⟩ | ⟨hc, hm⟩
      ·refine .cT R hc ?_
       refine .seq (.reg (.sa R (.nil (.seqN (.ret (.seqR ?_))))))
       obtain rfl := oi hm
       exact WX.rt [] (.inl R) Tryz.results42 (.tmp R .nil) R (fun _ _ _ h => h) trivial
      ·refine .cF R hc ?_
       refine .skip (.seqN (.seq (.reg (.mv R (.mv R (.mv R (bS hm fun r15 er15 hm => .op (O.caY (r' := .tp [.h 1, .b r15.2.1, .i r15.2.2]) [1] [(0, ROW qI 3 r15.1)] (some 2) (y5K er15) cf114 R R Z R R ⟨⟨R, LnL.rf⟩, ⟨R, .hr R, trivial⟩, ⟨R, LnL.rf⟩, trivial⟩ R ⟨.row flr3, trivial⟩ (fun _ _ _ _ h => h) ⟨⟨_, R, fun _ _ _ _ h => h⟩, trivial⟩ (fun _ _ _ h => h) R) R (.mv R (.op (O.ex Z R R R) R (.op (O.ex Z R R R) R (.op (O.ex Z R R R) R (.sa R (.sa R (.sa R (.nil (.seqN (.seq (.reg (.mv R (.bi R (.mv R ?_)))))))))))))))))))))
       refine .cut 3 (fun (v16 : Bool) => ((r15.2.2 == 0) && (!r15.2.1)) = v16) (fun v16 => ⟨[(104, .b v16)], [], 2⟩) ?_ ?_
       ·rintro _ rfl
        refine .sa R (.nil (.seqN (.ret ?_)))
        obtain rfl := oi hm
        exact WX.rt [] (.inl R) Tryz.results42 (.tmp R .nil) R (fun _ _ _ h => h) trivial
       ·intro J17
        rcases Bool.eq_false_or_eq_true (r15.2.2 == 0) with hc | hc
        ·refine .know (d := 101) R hc ?_
         exact .op (O.mv (Gu.mk R R) R R) R (.op (O.not (Gu.mk R R) R R) R (.op (O.pkT Z R R R R) R ((J17 (!r15.2.1) (andT hc).symm).sub [] R)))
        ·refine .know (d := 101) R hc ?_
         exact .sk R (.sk R (.op (O.pkF Z R R R R) R ((J17 false (andF hc).symm).sub [] R)))
     ·intro Jj14
      refine .sub (τ := ⟨[(15, .i r12.2.2), (14, .b r12.2.1), (12, .i r11.2.2), (11, .b r11.2.1), (10, .h 1), (9, .f rE35 ([p0.1, p0.2.1] : List AutT)), (4, .q 0 0), (3, .i p3)], [(1, ROW qI 3 r11.1), (0, .bx 37 [lF qI p0.1.1, lI p0.1.2.1, lF qI p0.1.2.2.1, lF qT p0.1.2.2.2, lF qI p0.2.1.1, lI p0.2.1.2.1, lF qI p0.2.1.2.2.1, lF qT p0.2.1.2.2.2, lF qI p0.2.2])], 3⟩) ?_ [] R
      rcases ifS hm with ⟨hc18, hm⟩ | ⟨hc18, hm⟩
      ·skip
       refine .drw [(3, []), (3, [oT]), (3, [oT, oT]), (3, [oT, oT, oT]), (3, [oT, oT, oT, oT]), (3, [oT, oT, oT, oT, oT]), (3, [oT, oT, oT, oT, oT, oT]), (3, [oT, oT, oT, oT, oT, oT, oT]), (3, [oT, oT, oT, oT, oT, oT, oT, oT]), (3, [oT, oT, oT, oT, oT, oT, oT, oT, oT]), (3, [oT, oT, oT, oT, oT, oT, oT, oT, oT, oT]), (3, [oT, oT, oT, oT, oT, oT, oT, oT, oT, oT, oT]), (3, [oT, oT, oT, oT, oT, oT, oT, oT, oT, oT, oT, oT]), (3, [oT, oT, oT, oT, oT, oT, oT, oT, oT, oT, oT, oT, oT]), (3, [oT, oT, oT, oT, oT, oT, oT, oT, oT, oT, oT, oT, oT, oT]), (3, [oT, oT, oT, oT, oT, oT, oT, oT, oT, oT, oT, oT, oT, oT, oT]), (3, [oT, oT, oT, oT, oT, oT, oT, oT, oT, oT, oT, oT, oT, oT, oT, oT]), (3, [oT, oT, oT, oT, oT, oT, oT, oT, oT, oT, oT, oT, oT, oT, oT]), (3, [oT, oT, oT, oT, oT, oT, oT, oT, oT, oT, oT, oT, oT, oT, oT, oF, oF, oT]), (3, [oT, oT, oT, oT, oT, oT, oT, oT, oT, oT, oT, oT, oT, oT, oT, oF, oF, oT, oT]), (3, [oT, oT, oT, oT, oT, oT, oT, oT, oT, oT, oT, oT, oT, oT, oT]), (3, [oT, oT, oT, oT, oT, oT, oT, oT, oT, oT, oT, oT, oT, oT, oT, oT, oT, oT, oT, oT, oT]), (3, [oT, oT, oT, oT, oT, oT, oT, oT, oT, oT, oT, oT, oT, oT, oT, oT, oT, oT, oT, oT, oT, oT]), (3, [oT, oT, oT, oT, oT, oT, oT, oT, oT, oT, oT, oT, oT, oT, oT, oT, oT, oT, oT, oT, oT, oT, oT])] [_, _, _, _, _, _, _, _, _, _, _, _, _, _, _, _, _, _, _, _, _, _, _, _] ⟨[(90, .b true), (10, .h 1), (9, .f rE35 ([p0.1, p0.2.1] : List AutT)), (3, .i p3)], [(1, ROW qI 3 r11.1)], 3⟩ ⟨O.mv Z R R, O.bi Z R R R R, O.kn (O.mv Z R R) hc18, O.skip R R R R, O.skip R R R R, O.pkT Z R R R R, O.mv Z R R, O.skip R R R R, O.skip R R R R, O.pkT Z R R R R, O.mv Z R R, O.skip R R R R, O.skip R R R R, O.pkT Z R R R R, O.mv Z R R, O.skip R R R R, O.skip R R R R, O.skip R R R R, O.skip R R R R, O.skip R R R R, O.skip R R R R, O.skip R R R R, O.skip R R R R, O.pkT Z R R R R, trivial⟩ (by kernel_rfl) R ?_
       exact (Jj14 _ hm).sub [(0, 1)] R
      ·skip
       rcases ifS hm with ⟨hc19, hm⟩ | ⟨hc19, hm⟩
       ·skip
        refine .drw [(3, []), (3, [oT]), (3, [oT, oT]), (3, [oT, oT, oT]), (3, [oT, oT, oT, oT]), (3, [oT, oT, oT, oT, oT]), (3, [oT, oT, oT, oT, oT, oT]), (3, [oT, oT, oT, oT, oT, oT, oT]), (3, [oT, oT, oT, oT, oT, oT, oT, oT]), (3, [oT, oT, oT, oT, oT, oT, oT, oT, oT]), (3, [oT, oT, oT, oT, oT, oT, oT, oT, oT, oT]), (3, [oT, oT, oT, oT, oT, oT, oT, oT, oT, oT, oT]), (3, [oT, oT, oT, oT, oT, oT, oT, oT, oT, oT, oT, oT]), (3, [oT, oT, oT, oT, oT, oT, oT, oT, oT, oT, oT, oT, oT]), (3, [oT, oT, oT, oT, oT, oT, oT, oT, oT, oT, oT, oT, oT, oT]), (3, [oT, oT, oT, oT, oT, oT, oT, oT, oT, oT, oT, oT, oT, oT, oT]), (3, [oT, oT, oT, oT, oT, oT, oT, oT, oT, oT, oT, oT, oT, oT, oT, oT]), (3, [oT, oT, oT, oT, oT, oT, oT, oT, oT, oT, oT, oT, oT, oT, oT]), (3, [oT, oT, oT, oT, oT, oT, oT, oT, oT, oT, oT, oT, oT, oT, oT, oF, oF, oT]), (3, [oT, oT, oT, oT, oT, oT, oT, oT, oT, oT, oT, oT, oT, oT, oT, oF, oF, oT, oT]), (3, [oT, oT, oT, oT, oT, oT, oT, oT, oT, oT, oT, oT, oT, oT, oT]), (3, [oT, oT, oT, oT, oT, oT, oT, oT, oT, oT, oT, oT, oT, oT, oT, oT, oT, oT, oT, oT, oT]), (3, [oT, oT, oT, oT, oT, oT, oT, oT, oT, oT, oT, oT, oT, oT, oT, oT, oT, oT, oT, oT, oT, oT]), (3, [oT, oT, oT, oT, oT, oT, oT, oT, oT, oT, oT, oT, oT, oT, oT, oT, oT, oT, oT, oT, oT, oT, oT])] [_, _, _, _, _, _, _, _, _, _, _, _, _, _, _, _, _, _, _, _, _, _, _, _] ⟨[(90, .b true), (10, .h 1), (9, .f rE35 ([p0.1, p0.2.1] : List AutT)), (3, .i p3)], [(1, ROW qI 3 r11.1)], 3⟩ ⟨O.mv Z R R, O.bi Z R R R R, O.kn (O.mv Z R R) hc18, O.mv (Gu.mk R R) R R, O.bi (Gu.mk R R) R R R R, O.pkF Z R R R R, O.kn (O.mv Z R R) hc19, O.skip R R R R, O.skip R R R R, O.pkT Z R R R R, O.mv Z R R, O.skip R R R R, O.skip R R R R, O.pkT Z R R R R, O.mv Z R R, O.skip R R R R, O.skip R R R R, O.skip R R R R, O.skip R R R R, O.skip R R R R, O.skip R R R R, O.skip R R R R, O.skip R R R R, O.pkT Z R R R R, trivial⟩ (by kernel_rfl) R ?_
        exact (Jj14 _ hm).sub [(0, 1)] R
       ·skip
        rcases ifS hm with ⟨hc20, hm⟩ | ⟨hc20, hm⟩
        ·skip
         refine .drw [(3, []), (3, [oT]), (3, [oT, oT]), (3, [oT, oT, oT]), (3, [oT, oT, oT, oT]), (3, [oT, oT, oT, oT, oT]), (3, [oT, oT, oT, oT, oT, oT]), (3, [oT, oT, oT, oT, oT, oT, oT]), (3, [oT, oT, oT, oT, oT, oT, oT, oT]), (3, [oT, oT, oT, oT, oT, oT, oT, oT, oT]), (3, [oT, oT, oT, oT, oT, oT, oT, oT, oT, oT]), (3, [oT, oT, oT, oT, oT, oT, oT, oT, oT, oT, oT]), (3, [oT, oT, oT, oT, oT, oT, oT, oT, oT, oT, oT, oT]), (3, [oT, oT, oT, oT, oT, oT, oT, oT, oT, oT, oT, oT, oT]), (3, [oT, oT, oT, oT, oT, oT, oT, oT, oT, oT, oT, oT, oT, oT]), (3, [oT, oT, oT, oT, oT, oT, oT, oT, oT, oT, oT, oT, oT, oT, oT]), (3, [oT, oT, oT, oT, oT, oT, oT, oT, oT, oT, oT, oT, oT, oT, oT, oT]), (3, [oT, oT, oT, oT, oT, oT, oT, oT, oT, oT, oT, oT, oT, oT, oT]), (3, [oT, oT, oT, oT, oT, oT, oT, oT, oT, oT, oT, oT, oT, oT, oT, oF, oF, oT]), (3, [oT, oT, oT, oT, oT, oT, oT, oT, oT, oT, oT, oT, oT, oT, oT, oF, oF, oT, oT]), (3, [oT, oT, oT, oT, oT, oT, oT, oT, oT, oT, oT, oT, oT, oT, oT]), (3, [oT, oT, oT, oT, oT, oT, oT, oT, oT, oT, oT, oT, oT, oT, oT, oT, oT, oT, oT, oT, oT]), (3, [oT, oT, oT, oT, oT, oT, oT, oT, oT, oT, oT, oT, oT, oT, oT, oT, oT, oT, oT, oT, oT, oT]), (3, [oT, oT, oT, oT, oT, oT, oT, oT, oT, oT, oT, oT, oT, oT, oT, oT, oT, oT, oT, oT, oT, oT, oT])] [_, _, _, _, _, _, _, _, _, _, _, _, _, _, _, _, _, _, _, _, _, _, _, _] ⟨[(90, .b true), (10, .h 1), (9, .f rE35 ([p0.1, p0.2.1] : List AutT)), (3, .i p3)], [(1, ROW qI 3 r11.1)], 3⟩ ⟨O.mv Z R R, O.bi Z R R R R, O.kn (O.mv Z R R) hc18, O.mv (Gu.mk R R) R R, O.bi (Gu.mk R R) R R R R, O.pkF Z R R R R, O.kn (O.mv Z R R) hc19, O.mv (Gu.mk R R) R R, O.not (Gu.mk R R) R R, O.pkF Z R R R R, O.kn (O.mv Z R R) hc20, O.skip R R R R, O.skip R R R R, O.pkT Z R R R R, O.mv Z R R, O.skip R R R R, O.skip R R R R, O.skip R R R R, O.skip R R R R, O.skip R R R R, O.skip R R R R, O.skip R R R R, O.skip R R R R, O.pkT Z R R R R, trivial⟩ (by kernel_rfl) R ?_
         exact (Jj14 _ hm).sub [(0, 1)] R
        ·skip
         rcases ifS hm with ⟨hc21, hm⟩ | ⟨hc21, hm⟩
         ·skip
          refine .drw [(3, []), (3, [oT]), (3, [oT, oT]), (3, [oT, oT, oT]), (3, [oT, oT, oT, oT]), (3, [oT, oT, oT, oT, oT]), (3, [oT, oT, oT, oT, oT, oT]), (3, [oT, oT, oT, oT, oT, oT, oT]), (3, [oT, oT, oT, oT, oT, oT, oT, oT]), (3, [oT, oT, oT, oT, oT, oT, oT, oT, oT]), (3, [oT, oT, oT, oT, oT, oT, oT, oT, oT, oT]), (3, [oT, oT, oT, oT, oT, oT, oT, oT, oT, oT, oT]), (3, [oT, oT, oT, oT, oT, oT, oT, oT, oT, oT, oT, oT]), (3, [oT, oT, oT, oT, oT, oT, oT, oT, oT, oT, oT, oT, oT]), (3, [oT, oT, oT, oT, oT, oT, oT, oT, oT, oT, oT, oT, oT, oT]), (3, [oT, oT, oT, oT, oT, oT, oT, oT, oT, oT, oT, oT, oT, oT, oT]), (3, [oT, oT, oT, oT, oT, oT, oT, oT, oT, oT, oT, oT, oT, oT, oT, oT]), (3, [oT, oT, oT, oT, oT, oT, oT, oT, oT, oT, oT, oT, oT, oT, oT]), (3, [oT, oT, oT, oT, oT, oT, oT, oT, oT, oT, oT, oT, oT, oT, oT, oF, oF, oT]), (3, [oT, oT, oT, oT, oT, oT, oT, oT, oT, oT, oT, oT, oT, oT, oT, oF, oF, oT, oT]), (3, [oT, oT, oT, oT, oT, oT, oT, oT, oT, oT, oT, oT, oT, oT, oT]), (3, [oT, oT, oT, oT, oT, oT, oT, oT, oT, oT, oT, oT, oT, oT, oT, oT, oT, oT, oT, oT, oT]), (3, [oT, oT, oT, oT, oT, oT, oT, oT, oT, oT, oT, oT, oT, oT, oT, oT, oT, oT, oT, oT, oT, oT]), (3, [oT, oT, oT, oT, oT, oT, oT, oT, oT, oT, oT, oT, oT, oT, oT, oT, oT, oT, oT, oT, oT, oT, oT])] [_, _, _, _, _, _, _, _, _, _, _, _, _, _, _, _, _, _, _, _, _, _, _, _] ⟨[(90, .b true), (10, .h 1), (9, .f rE35 ([p0.1, p0.2.1] : List AutT)), (3, .i p3)], [(1, ROW qI 3 r11.1)], 3⟩ ⟨O.mv Z R R, O.bi Z R R R R, O.kn (O.mv Z R R) hc18, O.mv (Gu.mk R R) R R, O.bi (Gu.mk R R) R R R R, O.pkF Z R R R R, O.kn (O.mv Z R R) hc19, O.mv (Gu.mk R R) R R, O.not (Gu.mk R R) R R, O.pkF Z R R R R, O.kn (O.mv Z R R) hc20, O.mv (Gu.mk R R) R R, O.not (Gu.mk R R) R R, O.pkF Z R R R R, O.kn (O.mv Z R R) hc21, O.skip R R R R, O.skip R R R R, O.skip R R R R, O.skip R R R R, O.skip R R R R, O.skip R R R R, O.skip R R R R, O.skip R R R R, O.pkT Z R R R R, trivial⟩ (by kernel_rfl) R ?_
          exact (Jj14 _ hm).sub [(0, 1)] R
         ·skip
          refine bS hm fun x22 ex22 hm => bS hm fun r23 er23 hm => ?_
          refine .drw [(3, []), (3, [oT]), (3, [oT, oT]), (3, [oT, oT, oT]), (3, [oT, oT, oT, oT]), (3, [oT, oT, oT, oT, oT]), (3, [oT, oT, oT, oT, oT, oT]), (3, [oT, oT, oT, oT, oT, oT, oT]), (3, [oT, oT, oT, oT, oT, oT, oT, oT]), (3, [oT, oT, oT, oT, oT, oT, oT, oT, oT]), (3, [oT, oT, oT, oT, oT, oT, oT, oT, oT, oT]), (3, [oT, oT, oT, oT, oT, oT, oT, oT, oT, oT, oT]), (3, [oT, oT, oT, oT, oT, oT, oT, oT, oT, oT, oT, oT]), (3, [oT, oT, oT, oT, oT, oT, oT, oT, oT, oT, oT, oT, oT]), (3, [oT, oT, oT, oT, oT, oT, oT, oT, oT, oT, oT, oT, oT, oT]), (3, [oT, oT, oT, oT, oT, oT, oT, oT, oT, oT, oT, oT, oT, oT, oT]), (3, [oT, oT, oT, oT, oT, oT, oT, oT, oT, oT, oT, oT, oT, oT, oT, oT]), (3, [oT, oT, oT, oT, oT, oT, oT, oT, oT, oT, oT, oT, oT, oT, oT]), (3, [oT, oT, oT, oT, oT, oT, oT, oT, oT, oT, oT, oT, oT, oT, oT, oF, oF, oT]), (3, [oT, oT, oT, oT, oT, oT, oT, oT, oT, oT, oT, oT, oT, oT, oT, oF, oF, oT, oT]), (3, [oT, oT, oT, oT, oT, oT, oT, oT, oT, oT, oT, oT, oT, oT, oT]), (3, [oT, oT, oT, oT, oT, oT, oT, oT, oT, oT, oT, oT, oT, oT, oT, oT, oT, oT, oT, oT, oT]), (3, [oT, oT, oT, oT, oT, oT, oT, oT, oT, oT, oT, oT, oT, oT, oT, oT, oT, oT, oT, oT, oT, oT]), (3, [oT, oT, oT, oT, oT, oT, oT, oT, oT, oT, oT, oT, oT, oT, oT, oT, oT, oT, oT, oT, oT, oT, oT])] [_, _, _, _, _, _, _, _, _, _, _, _, _, _, _, _, _, _, _, _, _, _, _, _] ⟨[(90, .b (decide (r23 < 0))), (10, .h 1), (9, .f rE35 ([p0.1, p0.2.1] : List AutT)), (3, .i p3)], [(1, ROW qI 3 r11.1)], 3⟩ ⟨O.mv Z R R, O.bi Z R R R R, O.kn (O.mv Z R R) hc18, O.mv (Gu.mk R R) R R, O.bi (Gu.mk R R) R R R R, O.pkF Z R R R R, O.kn (O.mv Z R R) hc19, O.mv (Gu.mk R R) R R, O.not (Gu.mk R R) R R, O.pkF Z R R R R, O.kn (O.mv Z R R) hc20, O.mv (Gu.mk R R) R R, O.not (Gu.mk R R) R R, O.pkF Z R R R R, O.kn (O.mv Z R R) hc21, O.faP y4O (Gu.mk R R) R R, O.lg (l' := [lF qI p0.1.1, lI p0.1.2.1, lF qI p0.1.2.2.1, lF qT p0.1.2.2.2]) ag35 (Gu.mk R R) R (.B R) R R R, O.mv (Gu.mk R R) R R, O.ir sl32 (Gu.mk R R) R R R ex22 R, O.ld nag3 (Gu.mk R R) R (.R R ex22 lv3) R R, O.mv (Gu.mk R R) R R, O.ca0 (y3N er23) cf73 R R (Gu.mk R R) R R R, O.bi (Gu.mk R R) R R R R, O.pkF Z R R R R, trivial⟩ (by kernel_rfl) R ?_
          exact (Jj14 _ hm).sub [(0, 1)] R
   ·intro J10
    rcases ifS eb8 with ⟨hc, hm⟩ | ⟨hc, hm⟩
    ·refine .know (d := 45) R hc ?_
     exact .sk R (.sk R (.sk R (.sk R (.op (O.pkT Z R R R R) R ((J10 true (oi hm).symm).sub [] R)))))
    ·refine .know (d := 45) R hc ?_
     exact .op (O.faP y9F (Gu.mk R R) R R) R (.op (O.ld nag32 (Gu.mk R R) R (.B R) R R) R (.op (O.mv (Gu.mk R R) R R) R (bS hm fun r24 er24 hm => .op (O.ca0 (y4b er24) cf44 R R (Gu.mk R R) R R R) R (.op (O.pkF Z R R R R) R ((J10 r24 (oi hm).symm).sub [] R)))))
  ·intro J7
   rcases ifS eb5 with ⟨hc, hm⟩ | ⟨hc, hm⟩
   ·refine .know (d := 38) R hc ?_
    exact .sk R (.sk R (.sk R (.sk R (.sk R (.op (O.pkT Z R R R R) R ((J7 true (oi hm).symm).sub [] R))))))
   ·refine .know (d := 38) R hc ?_
    exact .op (O.faP y9F (Gu.mk R R) R R) R (.op (O.ld nag32 (Gu.mk R R) R (.B R) R R) R (.op (O.mv (Gu.mk R R) R R) R (bS hm fun r25 er25 hm => .op (O.ca0 (y4b er25) cf44 R R (Gu.mk R R) R R R) R (.op (O.not (Gu.mk R R) R R) R (.op (O.pkF Z R R R R) R ((J7 (!r25) (oi hm).symm).sub [] R))))))
 ·intro J4
  rcases ifS eb2 with ⟨hc, hm⟩ | ⟨hc, hm⟩
  ·refine .know (d := 30) R hc ?_
   exact .sk R (.sk R (.sk R (.sk R (.sk R (.sk R (.op (O.pkT Z R R R R) R ((J4 true (oi hm).symm).sub [] R)))))))
  ·refine .know (d := 30) R hc ?_
   exact .op (O.faP y4O (Gu.mk R R) R R) R (.op (O.faP y1M (Gu.mk R R) R R) R (.op (O.ld nag32 (Gu.mk R R) R (.B R) R R) R (.op (O.mv (Gu.mk R R) R R) R (bS hm fun r26 er26 hm => .op (O.ca0 (y4b er26) cf44 R R (Gu.mk R R) R R R) R (.op (O.not (Gu.mk R R) R R) R (.op (O.pkF Z R R R R) R ((J4 (!r26) (oi hm).symm).sub [] R)))))))
def y1v (p0 : AutT × AutT × List Int) (p1 : List Int) (x22 : Int) (st27 : Int) : Option (Int ⊕ (Unit ⊕ (List Int))) :=
 if decide (st27 < (p0.1.1.length : Int)) then
  (idx p0.1.1 st27).bind fun x33 =>
  (y3s p0 p1 x22 x33).bind fun r34 =>
  if r34 then
   some (.inr (.inr (([x22, x33] : List Int))))
  else
   some (.inl (W (st27 + 1)))
 else
  some (.inr (.inl ()))
def y2h (p0 : AutT × AutT × List Int) (p1 : List Int) (st16 : Int) : Option (Int ⊕ (Unit ⊕ (List Int))) :=
 if decide (st16 < (p0.1.1.length : Int)) then
  (idx p0.1.1 st16).bind fun x22 =>
  (iter (y1v p0 p1 x22) 0).bind fun o27 =>
  match o27 with
  | .inl u29 =>
   some (.inl (W (st16 + 1)))
  | .inr (u31) =>
   some (.inr (.inr (u31)))
 else
  some (.inr (.inl ()))
def y1r (p0 : AutT × AutT × List Int) (p1 : List Int) : Option (List Int) :=
 (iter (y2h p0 p1) 0).bind fun o16 =>
 match o16 with
 | .inl u18 =>
  some ([] : List Int)
 | .inr (u20) =>
  some u20
theorem y5n {p0 : AutT × AutT × List Int} {p1 : List Int} {r : List Int} (hm : y1r p0 p1 = some r) :
  Fw Tryz.prog 33 ⟨0, []⟩ [.a [lF qI p0.1.1, lI p0.1.2.1, lF qI p0.1.2.2.1, lF qT p0.1.2.2.2, lF qI p0.2.1.1, lI p0.2.1.2.1, lF qI p0.2.1.2.2.1, lF qT p0.2.1.2.2.2, lF qI p0.2.2], .f qI p1] [] (.f qI r) [] := by
 unfold y1r at hm
 refine Fw.mk' Tryz.func33 R Tryz.ntmps33 R R (fun C => ?_) R R
 refine .seq (.reg (.op (O.box 0 R Z R R R) R (.sa R (.nil (.seqN (.seq (.seq (.reg (.op (O.faP y4O Z R R) R (.op (O.faP y1M Z R R) R (.op (O.ld nag32 Z R (.B R) R R) R (.op (O.len sl32 Z R R) R (.mv R (.nil (.seqN (.block (bS hm fun o16 eo16 hm => ?_)))))))))))))))))
 refine .cutU (z := .exit 0) (fun u18 => .inl u18 = o16) (fun (u18 : Unit) => ⟨[], [], 0⟩) ?_ fun K19 => ?_
 ·rintro u18 rfl
  dsimp only at hm
  refine .blkE (.seqN (.seq (.reg (.sa R (.nil (.seqN (.ret (.cnt 4 R (.c (.nf (r := qI)) .n) R ?_))))))))
  obtain rfl := oi hm
  exact WX.rt [] (.inl R) Tryz.results33 (.tmp R .nil) R (fun _ _ _ h => h) trivial
 refine .cutU (z := .ret) (fun u20 => .inr (u20) = o16) (fun (u20 : List Int) => ⟨[(4, .f qI u20)], [], 0⟩) ?_ fun K21 => ?_
 ·rintro u20 rfl
  dsimp only at hm
  refine .blkR (.seqR ?_)
  obtain rfl := oi hm
  exact WX.rt [] (.inl R) Tryz.results33 (.tmp R .nil) R (fun _ _ _ h => h) trivial
 refine .iter (fun (st16 : Int) => ⟨[(13, .i st16), (12, .i (p0.1.1.length : Int)), (11, .f qI p0.1.1), (2, .q 0 0), (1, .f qI p1)], [(0, .bx 37 [lF qI p0.1.1, lI p0.1.2.1, lF qI p0.1.2.2.1, lF qT p0.1.2.2.2, lF qI p0.2.1.1, lI p0.2.1.2.1, lF qI p0.2.1.2.2.1, lF qT p0.2.1.2.2.2, lF qI p0.2.2])], 1⟩) eo16 [] R ?_
 intro st16 res16 hm ih16 ho16
 unfold y2h at hm
 refine .seq (.reg (.bi R (.nil (.seqN (.seq ?_)))))
 rcases ifS hm with ⟨hc, hm⟩ | ⟨hc, hm⟩
 ·refine .cT R hc ?_
  refine .skip (.seqN (.seq (.block (.seq (.reg (bS hm fun x22 ex22 hm => .op (O.ix sl32 Z R R ex22 R) R (.op (O.ld nag3 Z R (.E lv3) R R) R (.sa R (.nil (.seqN (.seq (.reg (.op (O.faP y4O Z R R) R (.op (O.faP y1M Z R R) R (.op (O.ld nag32 Z R (.B R) R R) R (.op (O.len sl32 Z R R) R (.mv R (.nil (.seqN (.block (bS hm fun o27 eo27 hm => ?_)))))))))))))))))))))
  refine .cutU (z := .exit 2) (fun u29 => .inl u29 = o27) (fun (u29 : Unit) => ⟨[(13, .i st16), (12, .i (p0.1.1.length : Int)), (11, .f qI p0.1.1), (2, .q 0 0), (1, .f qI p1)], [(0, .bx 37 [lF qI p0.1.1, lI p0.1.2.1, lF qI p0.1.2.2.1, lF qT p0.1.2.2.2, lF qI p0.2.1.1, lI p0.2.1.2.1, lF qI p0.2.1.2.2.1, lF qT p0.2.1.2.2.2, lF qI p0.2.2])], 1⟩) ?_ fun K30 => ?_
  ·rintro u29 rfl
   dsimp only at hm
   exact .blkE (.blkN (.seqN (.reg (.bi R (.mv R (.nil ((ih16 _ (oi hm).symm).sub [] R)))))))
  refine .cutU (z := .ret) (fun u31 => .inr (u31) = o27) (fun (u31 : List Int) => ⟨[(4, .f qI u31)], [], 0⟩) ?_ fun K32 => ?_
  ·rintro u31 rfl
   dsimp only at hm
   exact .blkR (.blkR (.seqR (.seqR ((K21 _ (ho16 _ (oi hm).symm)).sub [] R))))
  refine .iter (fun (st27 : Int) => ⟨[(21, .i st27), (20, .i (p0.1.1.length : Int)), (19, .f qI p0.1.1), (6, .i x22), (13, .i st16), (12, .i (p0.1.1.length : Int)), (11, .f qI p0.1.1), (2, .q 0 0), (1, .f qI p1)], [(0, .bx 37 [lF qI p0.1.1, lI p0.1.2.1, lF qI p0.1.2.2.1, lF qT p0.1.2.2.2, lF qI p0.2.1.1, lI p0.2.1.2.1, lF qI p0.2.1.2.2.1, lF qT p0.2.1.2.2.2, lF qI p0.2.2])], 1⟩) eo27 [] R ?_
  intro st27 res27 hm ih27 ho27
  unfold y1v at hm
  refine .seq (.reg (.bi R (.nil (.seqN (.seq ?_)))))
  rcases ifS hm with ⟨hc, hm⟩ | ⟨hc, hm⟩
  ·refine .cT R hc ?_
   refine .skip (.seqN (.seq (.block (.seq (.reg (bS hm fun x33 ex33 hm => .op (O.ix sl32 Z R R ex33 R) R (.op (O.ld nag3 Z R (.E lv3) R R) R (.sa R (.nil (.seqN (.seq (.reg (.op (O.lg (l' := [lF qI p0.1.1, lI p0.1.2.1, lF qI p0.1.2.2.1, lF qT p0.1.2.2.2, lF qI p0.2.1.1, lI p0.2.1.2.1, lF qI p0.2.1.2.2.1, lF qT p0.2.1.2.2.2, lF qI p0.2.2]) ag37 Z R (.B R) R R R) R (.mv R (.mv R (.mv R (bS hm fun r34 er34 hm => .op (O.ca0 (y7w er34) cf42 R R Z R R R) R (.nil (.seqN ?_)))))))))))))))))))
   rcases ifS hm with ⟨hc, hm⟩ | ⟨hc, hm⟩
   ·refine .cT R hc ?_
    exact .seq (.reg (.mv R (.mv R (.op (O.bsF (r := qI) (zs := ([x22, x33] : List Int)) bs32 R R Z R R R (.c .k (.c .k .n)) R R R) R (.sa R (.nil (.seqN (.ret (.blkR (.seqR (.seqR ((K32 _ (ho27 _ (oi hm).symm)).sub [] R))))))))))))
   ·refine .cF R hc ?_
    exact .skip (.blkN (.seqN (.reg (.bi R (.mv R (.nil ((ih27 _ (oi hm).symm).sub [] R)))))))
  ·refine .cF R hc ?_
   exact .exit (.seqX (.seqX ((K30 _ (ho27 _ (oi hm).symm)).sub [] R)))
 ·refine .cF R hc ?_
  exact .exit (.seqX (.seqX ((K19 _ (ho16 _ (oi hm).symm)).sub [] R)))
def yg (p0 : List (Int × Int × Int)) (p1 : Int) (p2 : (Int × Int × Int) → Int → Option Int) (st7 : Int × Int) : Option ((Int × Int) ⊕ Int) :=
 if decide (st7.2 < st7.1) then
  (idx p0 (W ((IntKind.u64.wrap (W (st7.2 + st7.1))).fdiv (2 ^ (min (1 : Int).toNat 64))))).bind fun x15 =>
  (p2 x15 p1).bind fun r16 =>
  if decide (r16 < 0) then
   some (.inl (st7.1, W ((W ((IntKind.u64.wrap (W (st7.2 + st7.1))).fdiv (2 ^ (min (1 : Int).toNat 64)))) + 1)))
  else
   some (.inl (W ((IntKind.u64.wrap (W (st7.2 + st7.1))).fdiv (2 ^ (min (1 : Int).toNat 64))), st7.2))
 else
  some (.inr st7.2)
def yf (p0 : List (Int × Int × Int)) (p1 : Int) (p2 : (Int × Int × Int) → Int → Option Int) : Option (Int × Bool) :=
 (iter (yg p0 p1 p2) ((p0.length : Int), 0)).bind fun o7 =>
 (if decide (o7 < (p0.length : Int)) then
  (idx p0 o7).bind fun x13 =>
  (p2 x13 p1).bind fun r14 =>
  some (r14 == 0)
 else
  some false).bind fun b10 =>
 some (o7, b10)
theorem y2n {p0 : List (Int × Int × Int)} {p1 : Int} {p2 : (Int × Int × Int) → Int → Option Int} {r : Int × Bool} (hm : yf p0 p1 p2 = some r) :
  Fw Tryz.prog 166 ⟨0, []⟩ [.f qT p0, .i p1, .o (lW Tryz.prog (fun (x : (Int × Int × Int) × Int) => [.a [lI x.1.1, lI x.1.2.1, lI x.1.2.2], .i x.2]) (fun (r : Int) => .i r) (fun x => p2 x.1 x.2))] [] (.tp [.i r.1, .b r.2]) [] := by
 unfold yf at hm
 refine Fw.mk' Tryz.func166 R Tryz.ntmps166 R R (fun C => ?_) R R
 refine .seq (.reg (.sa R (.sa R (.nil (.seqN (.seq (.reg (.mv R (.op (O.len sl33 Z R R) R (.sa R (.nil (.seqN (.seq (.reg (.mv R (.sa R (.sa R (.nil (.seqN (.seq (.block (bS hm fun o7 eo7 hm => ?_))))))))))))))))))))))
 refine .cut1 (z := .exit 0) o7 (fun (o7 : Int) => ⟨[(9, .i o7), (8, .i (p0.length : Int)), (0, .f qT p0), (1, .i p1), (2, .o (lW Tryz.prog (fun (x : (Int × Int × Int) × Int) => [.a [lI x.1.1, lI x.1.2.1, lI x.1.2.2], .i x.2]) (fun (r : Int) => .i r) (fun x => p2 x.1 x.2)))], [], 0⟩) ?_ fun K9 => ?_
 ·skip
  refine .blkE (.seqN (.seq (.reg (.mv R (.mv R (.mv R (.bi R (.mv R (bS hm fun b10 eb10 hm => ?_)))))))))
  refine .cut 9 (fun (v11 : Bool) => b10 = v11) (fun v11 => ⟨[(48, .b v11), (35, .i o7)], [], 0⟩) ?_ ?_
  ·rintro _ rfl
   refine .sa R (.sa R (.nil (.seqN (.ret ?_))))
   obtain rfl := oi hm
   exact WX.rt [] (.inl R) Tryz.results166 (.tmp R (.tmp R .nil)) R (fun _ _ _ h => h) trivial
  ·intro J12
   rcases ifS eb10 with ⟨hc, hm⟩ | ⟨hc, hm⟩
   ·refine .know (d := 39) R hc ?_
    refine .op (O.mv (Gu.mk R R) R R) R (.op (O.mv (Gu.mk R R) R R) R (.op (O.mv (Gu.mk R R) R R) R (bS hm fun x13 ex13 hm => .op (O.ix sl33 (Gu.mk R R) R R ex13 R) R (.op (O.lg (l' := [lI x13.1, lI x13.2.1, lI x13.2.2]) ag124 (Gu.mk R R) R (.E lv124) R R R) R (.op (O.mv (Gu.mk R R) R R) R (bS hm fun r14 er14 hm => ?_))))))
    refine .op (O.fv (y := (x13, p1)) R R R (Gu.mk R R) R er14 R R) R ?_
    exact .op (O.bi (Gu.mk R R) R R R R) R (.op (O.pkT Z R R R R) R ((J12 (r14 == 0) (oi hm).symm).sub [] R))
   ·refine .know (d := 39) R hc ?_
    exact .sk R (.sk R (.sk R (.sk R (.sk R (.sk R (.sk R (.sk R (.op (O.pkF Z R R R R) R ((J12 false (oi hm).symm).sub [] R)))))))))
 refine .iter (fun (st7 : Int × Int) => ⟨[(10, .i st7.1), (9, .i st7.2), (8, .i (p0.length : Int)), (0, .f qT p0), (1, .i p1), (2, .o (lW Tryz.prog (fun (x : (Int × Int × Int) × Int) => [.a [lI x.1.1, lI x.1.2.1, lI x.1.2.2], .i x.2]) (fun (r : Int) => .i r) (fun x => p2 x.1 x.2)))], [], 0⟩) eo7 [] R ?_
 intro st7 res7 hm ih7 ho7
 unfold yg at hm
 refine .seq (.seq (.reg (.mv R (.mv R (.bi R (.nil (.seqN ?_)))))))
 rcases ifS hm with ⟨hc, hm⟩ | ⟨hc, hm⟩
 ·refine .cT R hc ?_
  refine .skip (.seqN (.block (.seq (.reg (.mv R (.mv R (.bi R (.op (O.cv Tryz.underlying3 Tryz.underlying295 Z R R) R (.op (O.shr Z R R (by decide) R) R (.op (O.cv Tryz.underlying295 Tryz.underlying3 Z R R) R (.sa R (.nil (.seqN (.seq (.reg (.mv R (.mv R (.mv R (bS hm fun x15 ex15 hm => .op (O.ix sl33 Z R R ex15 R) R (.op (O.lg (l' := [lI x15.1, lI x15.2.1, lI x15.2.2]) ag124 Z R (.E lv124) R R R) R (.mv R (bS hm fun r16 er16 hm => ?_))))))))))))))))))))))
  refine .op (O.fv (y := (x15, p1)) R R R Z R er16 R R) R ?_
  refine .bi R (.nil (.seqN ?_))
  rcases ifS hm with ⟨hc, hm⟩ | ⟨hc, hm⟩
  ·refine .cT R hc ?_
   exact .reg (.mv R (.bi R (.sa R (.nil (.blkN ((ih7 _ (oi hm).symm).sub [] R))))))
  ·refine .cF R hc ?_
   exact .reg (.mv R (.sa R (.nil (.blkN ((ih7 _ (oi hm).symm).sub [] R)))))
 ·refine .cF R hc ?_
  exact .exit (.seqX (.seqX ((K9 _ (ho7 _ (oi hm).symm)).sub [] R)))
def y4i (p0 : Int × Int × Int) (p1 : Int) : Option Int :=
 some (W (p0.1 - p1))
theorem y8u {p0 : Int × Int × Int} {p1 : Int} {r : Int} (hm : y4i p0 p1 = some r) :
  Fw Tryz.prog 167 ⟨0, []⟩ [.a [lI p0.1, lI p0.2.1, lI p0.2.2], .i p1] [] (.i r) [] := by
 unfold y4i at hm
 refine Fw.mk' Tryz.func167 R Tryz.ntmps167 R R (fun C => ?_) R R
 refine .seq (.reg (.op (O.box 0 R Z R R R) R (.sa R (.nil (.seqN (.seq (.reg (.op (O.faP y1A Z R R) R (.op (O.ld nag3 Z R (.B R) R R) R (.mv R (.bi R (.sa R (.nil (.seqN (.ret ?_)))))))))))))))
 obtain rfl := oi hm
 exact WX.rt [] (.inl R) Tryz.results167 (.tmp R .nil) R (fun _ _ _ h => h) trivial
def y4j (p0 : Int × Int × Int) (p1 : Int) : Option Int :=
 some (W (p0.1 - p1))
theorem y8v {p0 : Int × Int × Int} {p1 : Int} {r : Int} (hm : y4j p0 p1 = some r) :
  Fw Tryz.prog 168 ⟨0, []⟩ [.a [lI p0.1, lI p0.2.1, lI p0.2.2], .i p1] [] (.i r) [] := by
 unfold y4j at hm
 refine Fw.mk' Tryz.func168 R Tryz.ntmps168 R R (fun C => ?_) R R
 refine .seq (.reg (.op (O.box 0 R Z R R R) R (.sa R (.nil (.seqN (.seq (.reg (.op (O.faP y1A Z R R) R (.op (O.ld nag3 Z R (.B R) R R) R (.mv R (.bi R (.sa R (.nil (.seqN (.ret ?_)))))))))))))))
 obtain rfl := oi hm
 exact WX.rt [] (.inl R) Tryz.results168 (.tmp R .nil) R (fun _ _ _ h => h) trivial
def y3t (p0 : AutT) (p1 : Int) : Option EdgL :=
 (yf p0.2.2.2 p1 y4i).bind fun r1 =>
 (yf p0.2.2.2 (W (p1 + 1)) y4j).bind fun r2 =>
 (slc p0.2.2.2 r1.1 r2.1).bind fun x3 =>
 some x3
theorem y6L {p0 : AutT} {p1 : Int} {r : EdgL} (hm : y3t p0 p1 = some r) :
  Fw Tryz.prog 102 ⟨0, []⟩ [.a [lF qI p0.1, lI p0.2.1, lF qI p0.2.2.1, lF qT p0.2.2.2], .i p1] [] (.f qT r) [] := by
 unfold y3t at hm
 refine Fw.mk' Tryz.func102 R Tryz.ntmps102 R R (fun C => ?_) R R
 refine .seq (.reg (.op (O.box 0 R Z R R R) R (.sa R (.nil (.seqN (.seq (.reg (.op (O.faP y1a Z R R) R (.op (O.ld nag33 Z R (.B R) R R) R (.mv R (bS hm fun r1 er1 hm => .op (O.ca0c (y2n er1) cf166 R R Z R ⟨⟨R, .rf⟩, ⟨R, .rf⟩, ⟨R, (.c (.fn cf167 (fun x r h => y8u h) (fun _ => R)) .n)⟩, trivial⟩ R R) R (.mv R (.op (O.ex Z R R R) R (.op (O.ex Z R R R) R (.sa R (.sa R (.nil (.seqN (.seq (.reg (.op (O.faP y1a Z R R) R (.op (O.ld nag33 Z R (.B R) R R) R (.mv R (.bi R (bS hm fun r2 er2 hm => .op (O.ca0c (y2n er2) cf166 R R Z R ⟨⟨R, .rf⟩, ⟨R, .rf⟩, ⟨R, (.c (.fn cf168 (fun x r h => y8v h) (fun _ => R)) .n)⟩, trivial⟩ R R) R (.mv R (.op (O.ex Z R R R) R (.op (O.ex Z R R R) R (.sa R (.sa R (.nil (.seqN (.seq (.reg (.op (O.faP y1a Z R R) R (.op (O.ld nag33 Z R (.B R) R R) R (.mv R ?_)))))))))))))))))))))))))))))))))))))
 refine .mv R (bS hm fun x3 ex3 hm => .op (O.sl sl33 Z R R R ex3 R) R (.sa R (.nil (.seqN (.ret ?_)))))
 obtain rfl := oi hm
 exact WX.rt [] (.inl R) Tryz.results102 (.tmp R .nil) R (fun _ _ _ h => h) trivial
def y3u (st45 : Int × List (List Int)) (l48 : List (List Int)) : Option ((Int × List (List Int)) ⊕ (List (List Int))) :=
 some (.inl (W (st45.1 + 1), l48))
def y3v (p0 : AutT) (p2 : Bool) (u30 : (List (List Int × Int))) (st45 : Int × List (List Int)) : Option ((Int × List (List Int)) ⊕ (List (List Int))) :=
 if decide (st45.1 < (u30.length : Int)) then
  (idx u30 st45.1).bind fun x50 =>
  (if (!p2) then
   some true
  else
   (yq p0.2.2.1 x50.2).bind fun r56 =>
   some r56).bind fun b51 =>
  if b51 then
   (app ([] : List Int) x50.1).bind fun x54 =>
   (app st45.2 ([x54] : List (List Int))).bind fun x55 =>
   y3u st45 x55
  else
   y3u st45 st45.2
 else
  some (.inr st45.2)
def y2C (st28 : Int × (List (List Int × Int))) (r61 : EdgL) (st71 : Int × (List (List Int × Int))) : Option ((Int × (List (List Int × Int))) ⊕ (List (List Int × Int))) :=
 if decide (st71.1 < (r61.length : Int)) then
  (idx r61 st71.1).bind fun x74 =>
  (idx st71.2 st28.1).bind fun x75 =>
  (y1b x75.1).bind fun r76 =>
  (app r76 ([x74.2.1] : List Int)).bind fun x77 =>
  (app st71.2 ([(x77, x74.2.2)] : List (List Int × Int))).bind fun x78 =>
  some (.inl (W (st71.1 + 1), x78))
 else
  some (.inr st71.2)
def y3w (p0 : AutT) (p1 : Int) (st28 : Int × (List (List Int × Int))) : Option ((Int × (List (List Int × Int))) ⊕ ((List (List Int × Int)) ⊕ Unit)) :=
 if decide (st28.1 < (st28.2.length : Int)) then
  (idx st28.2 st28.1).bind fun x59 =>
  if ((x59.1.length : Int) == p1) then
   some (.inr (.inl st28.2))
  else
   (idx st28.2 st28.1).bind fun x60 =>
   (y3t p0 x60.2).bind fun r61 =>
   (iter (y2C st28 r61) (0, st28.2)).bind fun o71 =>
   if decide ((o71.length : Int) > 1024) then
    some (.inr (.inr (())))
   else
    some (.inl (W (st28.1 + 1), o71))
 else
  some (.inr (.inl st28.2))
def y1j (p0 : AutT) (p1 : Int) (p2 : Bool) : Option (List (List Int) × Int) :=
 (yV p0).bind fun r1 =>
 if (r1 != 0) then
  some (([] : List (List Int)), r1)
 else
  if ((decide (p1 < 0)) || (decide (p1 > 4096))) then
   some (([] : List (List Int)), 2)
  else
   if (p0.2.1 == 0) then
    some (([] : List (List Int)), 0)
   else
    (iter (y3w p0 p1) (0, ([(([] : List Int), 0)] : List (List Int × Int)))).bind fun o28 =>
    match o28 with
    | .inl u30 =>
     (iter (y3v p0 p2 u30) (0, ([] : List (List Int)))).bind fun o45 =>
     some (o45, 0)
    | .inr (u57) =>
     some (([] : List (List Int)), 3)
theorem y8w {p0 : AutT} {p1 : Int} {p2 : Bool} {r : List (List Int) × Int} (hm : y1j p0 p1 p2 = some r) :
  Fw Tryz.prog 34 ⟨0, []⟩ [.a [lF qI p0.1, lI p0.2.1, lF qI p0.2.2.1, lF qT p0.2.2.2], .i p1, .b p2] [] (.tp [.h 0, .i r.2]) [ROW (rL qI) 32 r.1] := by
 unfold y1j at hm
 refine Fw.mk' Tryz.func34 R Tryz.ntmps34 R R (fun C => ?_) R R
 refine .seq (.reg (.op (O.box 0 R Z R R R) R (.sa R (.sa R (.nil (.seqN (.seq (.seq (.reg (.op (O.lg (l' := [lF qI p0.1, lI p0.2.1, lF qI p0.2.2.1, lF qT p0.2.2.2]) ag35 Z R (.B R) R R R) R (bS hm fun r1 er1 hm => .op (O.ca0 (y3C er1) cf101 R R Z R R R) R (.sa R (.nil (.seqN (.seq (.reg (.mv R (.bi R (.nil (.seqN ?_))))))))))))))))))))
 rcases ifS hm with ⟨hc, hm⟩ | ⟨hc, hm⟩
 ·refine .cT R hc ?_
  refine .seq (.reg (.mv R (.sa R (.sa R (.nil (.seqN (.ret (.seqR (.nlg (rL qI) 32 6 0 R R ?_)))))))))
  obtain rfl := oi hm
  exact WX.rt [1] (.inl R) Tryz.results34 (.tmp R (.tmp R .nil)) R (fun _ _ _ h => h) ⟨⟨_, R, fun _ _ _ _ h => h⟩, trivial⟩
 ·refine .cF R hc ?_
  refine .skip (.seqN (.seq (.seq (.reg (.mv R (.bi R (.mv R ?_)))))))
  refine .cut 3 (fun (v2 : Bool) => ((decide (p1 < 0)) || (decide (p1 > 4096))) = v2) (fun v2 => ⟨[(26, .b v2), (3, .q 0 0), (1, .i p1), (2, .b p2)], [(0, .bx 35 [lF qI p0.1, lI p0.2.1, lF qI p0.2.2.1, lF qT p0.2.2.2])], 1⟩) ?_ ?_
  ·rintro _ rfl
   refine .nil (.seqN ?_)
   rcases ifS hm with ⟨hc, hm⟩ | ⟨hc, hm⟩
   ·refine .cT R hc ?_
    refine .seq (.reg (.sa R (.sa R (.nil (.seqN (.ret (.seqR (.nlg (rL qI) 32 6 0 R R ?_))))))))
    obtain rfl := oi hm
    exact WX.rt [1] (.inl R) Tryz.results34 (.tmp R (.tmp R .nil)) R (fun _ _ _ h => h) ⟨⟨_, R, fun _ _ _ _ h => h⟩, trivial⟩
   ·refine .cF R hc ?_
    refine .skip (.seqN (.seq (.seq (.reg (.op (O.faP y1N Z R R) R (.op (O.ld nag3 Z R (.B R) R R) R (.bi R (.nil (.seqN ?_)))))))))
    rcases ifS hm with ⟨hc, hm⟩ | ⟨hc, hm⟩
    ·refine .cT R hc ?_
     refine .seq (.reg (.sa R (.sa R (.nil (.seqN (.ret (.seqR (.nlg (rL qI) 32 6 0 R R ?_))))))))
     obtain rfl := oi hm
     exact WX.rt [1] (.inl R) Tryz.results34 (.tmp R (.tmp R .nil)) R (fun _ _ _ h => h) ⟨⟨_, R, fun _ _ _ _ h => h⟩, trivial⟩
    ·refine .cF R hc ?_
     refine .skip (.seqN (.seq (.reg (.op (O.bu (l := [lN, lI 0]) pl173 R Z R R R) R (.op (O.bsO (r := rE173) (zs := ([(([] : List Int), 0)] : List (List Int × Int))) 1 R bs174 R R Z R R R (.c (.p .n .k) .n) R R R) R (.sa R (.nil (.seqN (.seq (.seq (.reg (.sa R (.nil (.seqN (.block (bS hm fun o28 eo28 hm => ?_))))))))))))))))
     refine .cutU (z := .exit 0) (fun u30 => .inl u30 = o28) (fun (u30 : (List (List Int × Int))) => ⟨[(9, .h 0), (3, .q 1 0), (2, .b p2)], [(0, ROW rE173 173 u30), (1, .bx 35 [lF qI p0.1, lI p0.2.1, lF qI p0.2.2.1, lF qT p0.2.2.2])], 2⟩) ?_ fun K31 => ?_
     ·rintro u30 rfl
      dsimp only at hm
      refine .blkE (.seqN (.seq (.reg (.sa R (.nil (.seqN (.seq (.seq (.reg (.mv R (.op (O.lenH sl174 Z R R R) R (.mv R (.nil (.seqN (.block (bS hm fun o45 eo45 hm => ?_))))))))))))))))
      refine .cut1 (z := .exit 4) o45 (fun (o45 : List (List Int)) => ⟨[(13, .h 0)], [(0, ROW (rL qI) 32 o45)], 1⟩) ?_ fun K47 => ?_
      ·skip
       refine .blkE (.seqN (.seq (.reg (.mv R (.sa R (.sa R (.nil (.seqN (.ret ?_)))))))))
       obtain rfl := oi hm
       exact WX.rt [0] (.inl R) Tryz.results34 (.tmp R (.tmp R .nil)) R (fun _ _ _ h => h) ⟨⟨_, R, fun _ _ _ _ h => h⟩, trivial⟩
      refine .nlg (rL qI) 32 13 0 R R (.iter (fun (st45 : Int × List (List Int)) => ⟨[(80, .i st45.1), (79, .i (u30.length : Int)), (78, .h 0), (13, .h 1), (3, .q 2 0), (2, .b p2)], [(0, ROW rE173 173 u30), (1, ROW (rL qI) 32 st45.2), (2, .bx 35 [lF qI p0.1, lI p0.2.1, lF qI p0.2.2.1, lF qT p0.2.2.2])], 3⟩) eo45 [(1, 2), (2, 1)] R ?_)
      intro st45 res45 hm ih45 ho45
      unfold y3v at hm
      refine .seq (.reg (.bi R (.nil (.seqN (.seq ?_)))))
      rcases ifS hm with ⟨hc, hm⟩ | ⟨hc, hm⟩
      ·refine .cT R hc ?_
       refine .skip (.seqN ?_)
       refine .join1 (fun (l48 : List (List Int)) => y3u st45 l48 = some res45) (fun l48 => ⟨[(13, .h 0), (80, .i st45.1), (79, .i (u30.length : Int)), (78, .h 1), (3, .q 2 0), (2, .b p2)], [(0, ROW (rL qI) 32 l48), (1, ROW rE173 173 u30), (2, .bx 35 [lF qI p0.1, lI p0.2.1, lF qI p0.2.2.1, lF qT p0.2.2.2])], 3⟩) ?_ ?_
       ·intro l48 hm
        unfold y3u at hm
        exact .reg (.bi R (.mv R (.nil ((ih45 _ (oi hm).symm).sub [(0, 1), (1, 0)] R))))
       ·intro Jj49
        refine .block (.seq (.reg (bS hm fun x50 ex50 hm => .op (O.ir sl174 Z R R R ex50 R) R (.op (O.lg (l' := [lF qI x50.1, lI x50.2]) ag173 Z R (.R R ex50 lv173) R R R) R (.op (O.al 3 R zz173 R Z R) R (.op (O.st ag173.sz Z R R R R R) R (.nil (.seqN (.seq (.reg (.mv R (.op (O.not Z R R) R (.mv R (bS hm fun b51 eb51 hm => ?_))))))))))))))
        refine .cut 6 (fun (v52 : Bool) => b51 = v52) (fun v52 => ⟨[(92, .b v52), (15, .q 3 0), (80, .i st45.1), (79, .i (u30.length : Int)), (78, .h 0), (13, .h 1), (3, .q 2 0), (2, .b p2)], [(3, .bx 173 [lF qI x50.1, lI x50.2]), (0, ROW rE173 173 u30), (1, ROW (rL qI) 32 st45.2), (2, .bx 35 [lF qI p0.1, lI p0.2.1, lF qI p0.2.2.1, lF qT p0.2.2.2])], 4⟩) ?_ ?_
        ·rintro _ rfl
         refine .nil (.seqN ?_)
         rcases ifS hm with ⟨hc, hm⟩ | ⟨hc, hm⟩
         ·refine .cT R hc ?_
          exact .reg (.mv R (.op (O.b0O (r := qI) 4 R bs32 R Z R) R (.op (O.faP ya5 Z R R) R (.op (O.ld nag32 Z R (.B R) R R) R (bS hm fun x54 ex54 hm => .op (O.ap 5 Tryz.underlying32 el3 R R Z R R (.fr R) ex54 R) R (.fz 5 [97] [] R R fR R R (.op (O.bsF (r := (rL qI)) (zs := ([x54] : List (List Int))) bs53 R R Z R R R (.c .l .n) R R R) R (bS hm fun x55 ex55 hm => .op (O.ap 6 Tryz.underlying53 el32 R R Z R R (.fr R) ex55 R) R (.sa R (.nil (.blkN ((Jj49 _ hm).sub [(0, 6), (1, 0)] R))))))))))))
         ·refine .cF R hc ?_
          exact .skip (.blkN ((Jj49 _ hm).sub [(0, 1), (1, 0)] R))
        ·intro J53
         rcases ifS eb51 with ⟨hc, hm⟩ | ⟨hc, hm⟩
         ·refine .know (d := 86) R hc ?_
          exact .sk R (.sk R (.sk R (.sk R (.sk R (.op (O.pkT Z R R R R) R ((J53 true (oi hm).symm).sub [] R))))))
         ·refine .know (d := 86) R hc ?_
          exact .op (O.faP y3B (Gu.mk R R) R R) R (.op (O.ld nag32 (Gu.mk R R) R (.B R) R R) R (.op (O.faP ybx (Gu.mk R R) R R) R (.op (O.ld nag3 (Gu.mk R R) R (.B R) R R) R (bS hm fun r56 er56 hm => .op (O.ca0 (y1k er56) cf104 R R (Gu.mk R R) R R R) R (.op (O.pkF Z R R R R) R ((J53 r56 (oi hm).symm).sub [] R))))))
      ·refine .cF R hc ?_
       exact .exit (.seqX (.seqX ((K47 _ (ho45 _ (oi hm).symm)).sub [(0, 1)] R)))
     refine .cutU (z := .ret) (fun u57 => .inr (u57) = o28) (fun (u57 : Unit) => ⟨[(7, .i 3), (6, .o (lN))], [], 0⟩) ?_ fun K58 => ?_
     ·rintro u57 rfl
      dsimp only at hm
      refine .blkR (.seqR (.nlg (rL qI) 32 6 0 R R ?_))
      obtain rfl := oi hm
      exact WX.rt [0] (.inl R) Tryz.results34 (.tmp R (.tmp R .nil)) R (fun _ _ _ h => h) ⟨⟨_, R, fun _ _ _ _ h => h⟩, trivial⟩
     refine .iter (fun (st28 : Int × (List (List Int × Int))) => ⟨[(10, .i st28.1), (9, .h 0), (3, .q 1 0), (1, .i p1), (2, .b p2)], [(0, ROW rE173 173 st28.2), (1, .bx 35 [lF qI p0.1, lI p0.2.1, lF qI p0.2.2.1, lF qT p0.2.2.2])], 2⟩) eo28 [(0, 1), (1, 0)] R ?_
     intro st28 res28 hm ih28 ho28
     unfold y3w at hm
     refine .seq (.seq (.reg (.mv R (.mv R (.op (O.lenH sl174 Z R R R) R (.bi R (.nil (.seqN ?_))))))))
     rcases ifS hm with ⟨hc, hm⟩ | ⟨hc, hm⟩
     ·refine .cT R hc ?_
      refine .skip (.seqN (.seq (.block (.seq (.seq (.reg (.mv R (.mv R (bS hm fun x59 ex59 hm => .op (O.ir sl174 Z R R R ex59 R) R (.op (O.faR ya5 Z R R) R (.op (O.ld nag32 Z R (.R R ex59 lv173) R R) R (.op (O.len sl32 Z R R) R (.mv R (.bi R (.nil (.seqN ?_))))))))))))))))
      rcases ifS hm with ⟨hc, hm⟩ | ⟨hc, hm⟩
      ·refine .cT R hc ?_
       exact .exit (.seqX (.blkX R (.seqX (.seqX ((K31 _ (ho28 _ (oi hm).symm)).sub [] R)))))
      ·refine .cF R hc ?_
       refine .skip (.seqN (.seq (.seq ?_)))
       refine .sub (τ := ⟨[(10, .i st28.1), (9, .h 0), (3, .q 1 0), (1, .i p1), (2, .b p2)], [(0, ROW rE173 173 st28.2), (1, .bx 35 [lF qI p0.1, lI p0.2.1, lF qI p0.2.2.1, lF qT p0.2.2.2])], 2⟩) ?_ [] R
       refine bS hm fun x60 ex60 hm => bS hm fun r61 er61 hm => ?_
       refine .drw [(2, []), (2, []), (2, []), (2, [oF, oT, oT]), (2, [oF, oT, oT, oT]), (2, [oF, oT, oT, oT, oT]), (2, [oT, oT, oT, oT, oT, oT]), (2, [oT, oT, oT, oT, oT, oT, oT]), (2, [])] [_, _, _, _, _, _, _, _, _] ⟨[(54, .i 0), (53, .i (r61.length : Int)), (52, .f qT r61), (10, .i st28.1), (9, .h 0), (3, .q 1 0), (1, .i p1), (2, .b p2)], [(0, ROW rE173 173 st28.2), (1, .bx 35 [lF qI p0.1, lI p0.2.1, lF qI p0.2.2.1, lF qT p0.2.2.2])], 2⟩ ⟨O.lg (l' := [lF qI p0.1, lI p0.2.1, lF qI p0.2.2.1, lF qT p0.2.2.2]) ag35 Z R (.B R) R R R, O.mv Z R R, O.mv Z R R, O.ir sl174 Z R R R ex60 R, O.faR ybx Z R R, O.ld nag3 Z R (.R R ex60 lv173) R R, O.ca0 (y6L er61) cf102 R R Z R R R, O.len sl33 Z R R, O.mv Z R R, trivial⟩ (by kernel_rfl) R ?_
       refine .seqN (.block (bS hm fun o71 eo71 hm => ?_))
       refine .cut1 (z := .exit 2) o71 (fun (o71 : (List (List Int × Int))) => ⟨[(10, .i st28.1), (9, .h 0), (3, .q 1 0), (1, .i p1), (2, .b p2)], [(0, ROW rE173 173 o71), (1, .bx 35 [lF qI p0.1, lI p0.2.1, lF qI p0.2.2.1, lF qT p0.2.2.2])], 2⟩) ?_ fun K73 => ?_
       ·skip
        refine .blkE (.seqN (.seq (.reg (.mv R (.op (O.lenH sl174 Z R R R) R (.bi R (.nil (.seqN ?_))))))))
        rcases ifS hm with ⟨hc, hm⟩ | ⟨hc, hm⟩
        ·refine .cT R hc ?_
         exact .seq (.reg (.sa R (.sa R (.nil (.seqN (.ret (.blkR (.seqR (.seqR ((K58 _ (ho28 _ (oi hm).symm)).sub [] R))))))))))
        ·refine .cF R hc ?_
         exact .skip (.blkN (.seqN (.reg (.mv R (.bi R (.sa R (.nil ((ih28 _ (oi hm).symm).sub [] R))))))))
       refine .iter (fun (st71 : Int × (List (List Int × Int))) => ⟨[(54, .i st71.1), (53, .i (r61.length : Int)), (52, .f qT r61), (10, .i st28.1), (9, .h 0), (3, .q 1 0), (1, .i p1), (2, .b p2)], [(0, ROW rE173 173 st71.2), (1, .bx 35 [lF qI p0.1, lI p0.2.1, lF qI p0.2.2.1, lF qT p0.2.2.2])], 2⟩) eo71 [] R ?_
       intro st71 res71 hm ih71 ho71
       unfold y2C at hm
       refine .seq (.reg (.bi R (.nil (.seqN (.seq ?_)))))
       rcases ifS hm with ⟨hc, hm⟩ | ⟨hc, hm⟩
       ·refine .cT R hc ?_
        refine .skip (.seqN (.seq (.block (.seq (.reg (bS hm fun x74 ex74 hm => .op (O.ix sl33 Z R R ex74 R) R (.op (O.lg (l' := [lI x74.1, lI x74.2.1, lI x74.2.2]) ag124 Z R (.E lv124) R R R) R (.op (O.al 2 R zz124 R Z R) R (.op (O.st ag124.sz Z R R R R R) R (.nil (.seqN ?_)))))))))))
        refine .sub (τ := ⟨[(12, .q 2 0), (54, .i st71.1), (53, .i (r61.length : Int)), (52, .f qT r61), (10, .i st28.1), (9, .h 0), (3, .q 1 0), (1, .i p1), (2, .b p2)], [(2, .bx 124 [lI x74.1, lI x74.2.1, lI x74.2.2]), (0, ROW rE173 173 st71.2), (1, .bx 35 [lF qI p0.1, lI p0.2.1, lF qI p0.2.2.1, lF qT p0.2.2.2])], 3⟩) ?_ [] R
        refine bS hm fun x75 ex75 hm => bS hm fun r76 er76 hm => bS hm fun x77 ex77 hm => bS hm fun x78 ex78 hm => ?_
        refine .drz 5 [(6, 3)] [(3, [], [], []), (3, [], [], []), (3, [], [], []), (3, [oF, oT, oT], [], []), (3, [oF, oT, oT, oT], [], []), (3, [oF, oT, oT, oT, oT], [], []), (3, [oF, oT, oT, oT, oT, oT], [], []), (3, [], [], []), (3, [oF, oF, oF, oF, oF, oF, oF, oT], [], []), (3, [oF, oF, oF, oF, oF, oF, oF, oT, oT], [], []), (4, [oF, oT, oT, oT, oT, oT, oT, oT, oT, oT], [], []), (3, [], [], []), (3, [oF, oF, oF, oF, oF, oF, oF, oF, oF, oF, oF, oT], [], []), (4, [oF, oT, oT, oT, oT, oT, oT, oT, oT, oT, oT, oT, oT], [], [(6, 3)]), (4, [oF, oT, oT, oT, oT, oT, oT, oT, oT, oT, oT, oT, oT, oT], [], [(6, 3)]), (4, [oT, oT, oT, oT, oT, oT, oT, oT, oT, oT, oT, oT, oT, oT, oT], [], [(6, 3)]), (5, [oT, oT, oT, oT, oT, oT, oT, oT, oT, oT, oT, oT, oT, oT, oT, oT], [], [(6, 3)])] [_, _, _, _, _, _, _, _, _, _, _, _, _, _, _, _, _] ⟨[(9, .h 4), (54, .i st71.1), (53, .i (r61.length : Int)), (52, .f qT r61), (10, .i st28.1), (3, .q 1 0), (1, .i p1), (2, .b p2)], [(4, ROW rE173 173 x78), (1, .bx 35 [lF qI p0.1, lI p0.2.1, lF qI p0.2.2.1, lF qT p0.2.2.2])], 5⟩ ⟨O.mv Z R R, O.mv Z R R, O.mv Z R R, O.ir sl174 Z R R R ex75 R, O.faR ya5 Z R R, O.ld nag32 Z R (.R R ex75 lv173) R R, O.ca (r' := .h 3) [3] [(0, ROW qI 3 r76)] (some 4) (y3l er76) cf103 R R Z R R R R ⟨⟨_, R, fun _ _ _ _ h => h⟩, trivial⟩ (fun _ _ _ h => h) R, O.faP y4q Z R R, O.ld nag3 Z R (.B R) R R, O.bsF (r := qI) (zs := ([x74.2.1] : List Int)) bs32 R R Z R R R (.c .k .n) R R R, O.apZ Tryz.underlying32 el3 R Z R R (.fr R) ex77 R, O.faP y2I Z R R, O.ld nag3 Z R (.B R) R R, O.bu (l := [lF qI x77, lI x74.2.2]) pl173 R Z R R R, O.bsF (r := rE173) (zs := ([(x77, x74.2.2)] : List (List Int × Int))) bs174 R R Z R R R (.c (.p .l .k) .n) R R R, O.ap 4 Tryz.underlying174 el173 R R Z R R (.fr R) ex78 R, O.as Z R R, trivial⟩ (by kernel_rfl) R ?_
        exact .blkN (.seqN (.reg (.bi R (.mv R (.nil ((ih71 _ (oi hm).symm).sub [(0, 4)] R))))))
       ·refine .cF R hc ?_
        exact .exit (.seqX (.seqX ((K73 _ (ho71 _ (oi hm).symm)).sub [] R)))
     ·refine .cF R hc ?_
      exact .exit (.seqX (.seqX ((K31 _ (ho28 _ (oi hm).symm)).sub [] R)))
  ·intro J3
   rcases Bool.eq_false_or_eq_true (decide (p1 < 0)) with hc | hc
   ·refine .know (d := 23) R hc ?_
    exact .sk R (.sk R (.op (O.pkT Z R R R R) R ((J3 true (orT hc).symm).sub [] R)))
   ·refine .know (d := 23) R hc ?_
    exact .op (O.mv (Gu.mk R R) R R) R (.op (O.bi (Gu.mk R R) R R R R) R (.op (O.pkF Z R R R R) R ((J3 (decide (p1 > 4096)) (orF hc).symm).sub [] R)))
def y3O (p0 : AutT) (p1 : Int) : Option Int :=
 (yV p0).bind fun r1 =>
 if (r1 != 0) then
  some r1
 else
  if ((decide (p1 < 0)) || (decide (p1 ≥ p0.2.1))) then
   some 2
  else
   some 0
theorem y7d {p0 : AutT} {p1 : Int} {r : Int} (hm : y3O p0 p1 = some r) :
  Fw Tryz.prog 105 ⟨0, []⟩ [.a [lF qI p0.1, lI p0.2.1, lF qI p0.2.2.1, lF qT p0.2.2.2], .i p1] [] (.i r) [] := by
 unfold y3O at hm
 refine Fw.mk' Tryz.func105 R Tryz.ntmps105 R R (fun C => ?_) R R
 refine .seq (.reg (.op (O.box 0 R Z R R R) R (.sa R (.nil (.seqN (.seq (.seq (.reg (.op (O.lg (l' := [lF qI p0.1, lI p0.2.1, lF qI p0.2.2.1, lF qT p0.2.2.2]) ag35 Z R (.B R) R R R) R (bS hm fun r1 er1 hm => .op (O.ca0 (y3C er1) cf101 R R Z R R R) R (.sa R (.nil (.seqN (.seq (.reg (.mv R (.bi R (.nil (.seqN ?_)))))))))))))))))))
 rcases ifS hm with ⟨hc, hm⟩ | ⟨hc, hm⟩
 ·refine .cT R hc ?_
  refine .seq (.reg (.mv R (.sa R (.nil (.seqN (.ret (.seqR ?_)))))))
  obtain rfl := oi hm
  exact WX.rt [] (.inl R) Tryz.results105 (.tmp R .nil) R (fun _ _ _ h => h) trivial
 ·refine .cF R hc ?_
  refine .skip (.seqN (.seq (.seq (.reg (.mv R (.bi R (.mv R ?_)))))))
  refine .cut 5 (fun (v2 : Bool) => ((decide (p1 < 0)) || (decide (p1 ≥ p0.2.1))) = v2) (fun v2 => ⟨[(18, .b v2)], [], 1⟩) ?_ ?_
  ·rintro _ rfl
   refine .nil (.seqN ?_)
   rcases ifS hm with ⟨hc, hm⟩ | ⟨hc, hm⟩
   ·refine .cT R hc ?_
    refine .seq (.reg (.sa R (.nil (.seqN (.ret (.seqR ?_))))))
    obtain rfl := oi hm
    exact WX.rt [] (.inl R) Tryz.results105 (.tmp R .nil) R (fun _ _ _ h => h) trivial
   ·refine .cF R hc ?_
    refine .skip (.seqN (.seq (.reg (.sa R (.nil (.seqN (.ret ?_)))))))
    obtain rfl := oi hm
    exact WX.rt [] (.inl R) Tryz.results105 (.tmp R .nil) R (fun _ _ _ h => h) trivial
  ·intro J3
   rcases Bool.eq_false_or_eq_true (decide (p1 < 0)) with hc | hc
   ·refine .know (d := 13) R hc ?_
    exact .sk R (.sk R (.sk R (.sk R (.op (O.pkT Z R R R R) R ((J3 true (orT hc).symm).sub [] R)))))
   ·refine .know (d := 13) R hc ?_
    exact .op (O.mv (Gu.mk R R) R R) R (.op (O.faP y1N (Gu.mk R R) R R) R (.op (O.ld nag3 (Gu.mk R R) R (.B R) R R) R (.op (O.bi (Gu.mk R R) R R R R) R (.op (O.pkF Z R R R R) R ((J3 (decide (p1 ≥ p0.2.1)) (orF hc).symm).sub [] R)))))
def y3y (q0 : AutT) (p0 : Int) : Option Bool :=
 (yq q0.1 p0).bind fun r1 =>
 some (!r1)
theorem y8x {q0 : AutT} {p0 : Int} {r : Bool} (hm : y3y q0 p0 = some r) :
  Fw Tryz.prog 107 ⟨0, []⟩ [.i p0, .o (lQ 35 [lF qI q0.1, lI q0.2.1, lF qI q0.2.2.1, lF qT q0.2.2.2] 0)] [] (.b r) [] := by
 unfold y3y at hm
 refine Fw.mk' Tryz.func107 R Tryz.ntmps107 R R (fun C => ?_) R R
 refine .seq (.reg (.sa R (.nil (.seqN (.seq (.reg (.op (O.faQ y1M Z R R) R (.op (O.ld nag32 Z R .Q R R) R (.mv R (bS hm fun r1 er1 hm => .op (O.ca0 (y1k er1) cf104 R R Z R R R) R (.op (O.not Z R R) R (.sa R (.nil (.seqN (.ret ?_)))))))))))))))
 obtain rfl := oi hm
 exact WX.rt [] (.inl R) Tryz.results107 (.tmp R .nil) R (fun _ _ _ h => h) trivial
def y3j (p0 : List Int) (p1 : Int → Option Bool) : Option Bool :=
 (y2b p0 p1).bind fun r1 =>
 some (decide (r1 ≥ 0))
theorem y6B {p0 : List Int} {p1 : Int → Option Bool} {r : Bool} (hm : y3j p0 p1 = some r) :
  Fw Tryz.prog 106 ⟨0, []⟩ [.f qI p0, .o (lW Tryz.prog (fun (x : Int) => [.i x]) (fun (r : Bool) => .b r) p1)] [] (.b r) [] := by
 unfold y3j at hm
 refine Fw.mk' Tryz.func106 R Tryz.ntmps106 R R (fun C => ?_) R R
 refine .seq (.reg (.sa R (.nil (.seqN (.seq (.reg (.mv R (.mv R (bS hm fun r1 er1 hm => .op (O.ca0 (y5k er1) cf136 R R Z R R R) R (.bi R (.sa R (.nil (.seqN (.ret ?_))))))))))))))
 obtain rfl := oi hm
 exact WX.rt [] (.inl R) Tryz.results106 (.tmp R .nil) R (fun _ _ _ h => h) trivial
def y3R (q0 : Int) (p0 : Int × Int × Int) : Option Bool :=
 some (p0.2.1 == q0)
theorem y8d {q0 : Int} {p0 : Int × Int × Int} {r : Bool} (hm : y3R q0 p0 = some r) :
  Fw Tryz.prog 213 ⟨0, []⟩ [.a [lI p0.1, lI p0.2.1, lI p0.2.2], .o (lQ 3 [lI q0] 0)] [] (.b r) [] := by
 unfold y3R at hm
 refine Fw.mk' Tryz.func213 R Tryz.ntmps213 R R (fun C => ?_) R R
 refine .seq (.reg (.op (O.box 0 R Z R R R) R (.sa R (.nil (.seqN (.seq (.reg (.op (O.faP y4q Z R R) R (.op (O.ld nag3 Z R (.B R) R R) R (.op (O.ld nag3 Z R .Q R R) R (.bi R (.sa R (.nil (.seqN (.ret ?_)))))))))))))))
 obtain rfl := oi hm
 exact WX.rt [] (.inl R) Tryz.results213 (.tmp R .nil) R (fun _ _ _ h => h) trivial
def y4u (p0 : AutT) (p1 : Int) (p2 : Int) : Option Int :=
 (y3t p0 p1).bind fun r1 =>
 (y1S r1 (y3R p2)).bind fun r2 =>
 if decide (r2 < 0) then
  some (-1)
 else
  (idx r1 r2).bind fun x3 =>
  some x3.2.2
theorem y8H {p0 : AutT} {p1 : Int} {p2 : Int} {r : Int} (hm : y4u p0 p1 p2 = some r) :
  Fw Tryz.prog 170 ⟨0, []⟩ [.a [lF qI p0.1, lI p0.2.1, lF qI p0.2.2.1, lF qT p0.2.2.2], .i p1, .i p2] [] (.i r) [] := by
 unfold y4u at hm
 refine Fw.mk' Tryz.func170 R Tryz.ntmps170 R R (fun C => ?_) R R
 refine .seq (.reg (.op (O.box 0 R Z R R R) R (.op (O.box 1 R Z R R R) R (.sa R (.nil (.seqN (.seq (.reg (.op (O.lg (l' := [lF qI p0.1, lI p0.2.1, lF qI p0.2.2.1, lF qT p0.2.2.2]) ag35 Z R (.B R) R R R) R (.mv R (bS hm fun r1 er1 hm => .op (O.ca0 (y6L er1) cf102 R R Z R R R) R (.sa R (.nil (.seqN (.seq (.reg (.mv R (.fz 1 [5] [] R R fB R R (.op (O.mf (args := (fun (x : (Int × Int × Int)) => [.a [lI x.1, lI x.2.1, lI x.2.2]])) (res := (fun (r : Bool) => .b r)) (m := (y3R p2)) cf213 (fun x r h => y8d h) (fun _ => R) R Z R R) R (bS hm fun r2 er2 hm => .op (O.ca0 (y5c er2) cf140 R R Z R R R) R (.sa R (.nil (.seqN (.seq (.seq (.reg (.mv R (.bi R (.nil (.seqN ?_))))))))))))))))))))))))))))))
 rcases ifS hm with ⟨hc, hm⟩ | ⟨hc, hm⟩
 ·refine .cT R hc ?_
  refine .seq (.reg (.sa R (.nil (.seqN (.ret (.seqR ?_))))))
  obtain rfl := oi hm
  exact WX.rt [] (.inl R) Tryz.results170 (.tmp R .nil) R (fun _ _ _ h => h) trivial
 ·refine .cF R hc ?_
  refine .skip (.seqN (.seq (.reg (.mv R (.mv R (bS hm fun x3 ex3 hm => .op (O.ix sl33 Z R R ex3 R) R (.op (O.faE y2I Z R R) R (.op (O.ld nag3 Z R (.E lv124) R R) R (.sa R (.nil (.seqN (.ret ?_))))))))))))
  obtain rfl := oi hm
  exact WX.rt [] (.inl R) Tryz.results170 (.tmp R .nil) R (fun _ _ _ h => h) trivial
def y3a (p0 : AutT) (p2 : List Int) (st7 : Int × Int) : Option ((Int × Int) ⊕ (Int ⊕ (Int × Int))) :=
 if decide (st7.1 < (p2.length : Int)) then
  (idx p2 st7.1).bind fun x15 =>
  (y4u p0 st7.2 x15).bind fun r16 =>
  if decide (r16 < 0) then
   some (.inr (.inr (st7)))
  else
   some (.inl (W (st7.1 + 1), r16))
 else
  some (.inr (.inl st7.2))
def y3S (p0 : AutT) (p1 : Int) (p2 : List Int) : Option (Int × Int) :=
 (iter (y3a p0 p2) (0, p1)).bind fun o7 =>
 match o7 with
 | .inl u11 =>
  some (u11, (p2.length : Int))
 | .inr (u13) =>
  some (u13.2, u13.1)
theorem y8e {p0 : AutT} {p1 : Int} {p2 : List Int} {r : Int × Int} (hm : y3S p0 p1 p2 = some r) :
  Fw Tryz.prog 108 ⟨0, []⟩ [.a [lF qI p0.1, lI p0.2.1, lF qI p0.2.2.1, lF qT p0.2.2.2], .i p1, .f qI p2] [] (.tp [.i r.1, .i r.2]) [] := by
 unfold y3S at hm
 refine Fw.mk' Tryz.func108 R Tryz.ntmps108 R R (fun C => ?_) R R
 refine .seq (.reg (.op (O.box 0 R Z R R R) R (.sa R (.sa R (.nil (.seqN (.seq (.seq (.reg (.mv R (.op (O.len sl32 Z R R) R (.mv R (.nil (.seqN (.block (bS hm fun o7 eo7 hm => ?_))))))))))))))))
 refine .cutU (z := .exit 0) (fun u11 => .inl u11 = o7) (fun (u11 : Int) => ⟨[(1, .i u11), (2, .f qI p2)], [], 0⟩) ?_ fun K12 => ?_
 ·rintro u11 rfl
  dsimp only at hm
  refine .blkE (.seqN (.seq (.reg (.mv R (.mv R (.op (O.len sl32 Z R R) R (.sa R (.sa R (.nil (.seqN (.ret ?_)))))))))))
  obtain rfl := oi hm
  exact WX.rt [] (.inl R) Tryz.results108 (.tmp R (.tmp R .nil)) R (fun _ _ _ h => h) trivial
 refine .cutU (z := .ret) (fun u13 => .inr (u13) = o7) (fun (u13 : Int × Int) => ⟨[(7, .i u13.1), (6, .i u13.2)], [], 0⟩) ?_ fun K14 => ?_
 ·rintro u13 rfl
  dsimp only at hm
  refine .blkR (.seqR ?_)
  obtain rfl := oi hm
  exact WX.rt [] (.inl R) Tryz.results108 (.tmp R (.tmp R .nil)) R (fun _ _ _ h => h) trivial
 refine .iter (fun (st7 : Int × Int) => ⟨[(13, .i st7.1), (12, .i (p2.length : Int)), (11, .f qI p2), (3, .q 0 0), (1, .i st7.2), (2, .f qI p2)], [(0, .bx 35 [lF qI p0.1, lI p0.2.1, lF qI p0.2.2.1, lF qT p0.2.2.2])], 1⟩) eo7 [] R ?_
 intro st7 res7 hm ih7 ho7
 unfold y3a at hm
 refine .seq (.reg (.bi R (.nil (.seqN (.seq ?_)))))
 rcases ifS hm with ⟨hc, hm⟩ | ⟨hc, hm⟩
 ·refine .cT R hc ?_
  refine .skip (.seqN (.seq (.block (.seq (.reg (.mv R (bS hm fun x15 ex15 hm => .op (O.ix sl32 Z R R ex15 R) R (.op (O.ld nag3 Z R (.E lv3) R R) R (.sa R (.sa R (.nil (.seqN (.seq (.reg (.op (O.lg (l' := [lF qI p0.1, lI p0.2.1, lF qI p0.2.2.1, lF qT p0.2.2.2]) ag35 Z R (.B R) R R R) R (.mv R (.mv R (bS hm fun r16 er16 hm => .op (O.ca0 (y8H er16) cf170 R R Z R R R) R (.sa R (.nil (.seqN (.seq (.seq (.reg (.mv R (.bi R (.nil (.seqN ?_))))))))))))))))))))))))))))
  rcases ifS hm with ⟨hc, hm⟩ | ⟨hc, hm⟩
  ·refine .cT R hc ?_
   exact .seq (.reg (.mv R (.mv R (.sa R (.sa R (.nil (.seqN (.ret (.seqR (.blkR (.seqR (.seqR ((K14 _ (ho7 _ (oi hm).symm)).sub [] R)))))))))))))
  ·refine .cF R hc ?_
   exact .skip (.seqN (.reg (.mv R (.sa R (.nil (.blkN (.seqN (.reg (.bi R (.mv R (.nil ((ih7 _ (oi hm).symm).sub [] R))))))))))))
 ·refine .cF R hc ?_
  exact .exit (.seqX (.seqX ((K12 _ (ho7 _ (oi hm).symm)).sub [] R)))
def y4K (p0 : AutT) (p1 : Int) (p2 : List Int) : Option (Int × Int × Int) :=
 (y3O p0 p1).bind fun r1 =>
 if (r1 != 0) then
  some (0, 0, r1)
 else
  (y3j p2 (y3y p0)).bind fun r2 =>
  if r2 then
   some (0, 0, 9)
  else
   (y3S p0 p1 p2).bind fun r3 =>
   some (r3.1, r3.2, 0)
theorem y8S {p0 : AutT} {p1 : Int} {p2 : List Int} {r : Int × Int × Int} (hm : y4K p0 p1 p2 = some r) :
  Fw Tryz.prog 35 ⟨0, []⟩ [.a [lF qI p0.1, lI p0.2.1, lF qI p0.2.2.1, lF qT p0.2.2.2], .i p1, .f qI p2] [] (.tp [.i r.1, .i r.2.1, .i r.2.2]) [] := by
 unfold y4K at hm
 refine Fw.mk' Tryz.func35 R Tryz.ntmps35 R R (fun C => ?_) R R
 refine .seq (.reg (.op (O.box 0 R Z R R R) R (.sa R (.sa R (.sa R (.nil (.seqN (.seq (.seq (.reg (.op (O.lg (l' := [lF qI p0.1, lI p0.2.1, lF qI p0.2.2.1, lF qT p0.2.2.2]) ag35 Z R (.B R) R R R) R (.mv R (bS hm fun r1 er1 hm => .op (O.ca0 (y7d er1) cf105 R R Z R R R) R (.sa R (.nil (.seqN (.seq (.reg (.mv R (.bi R (.nil (.seqN ?_))))))))))))))))))))))
 rcases ifS hm with ⟨hc, hm⟩ | ⟨hc, hm⟩
 ·refine .cT R hc ?_
  refine .seq (.reg (.mv R (.sa R (.sa R (.sa R (.nil (.seqN (.ret (.seqR ?_)))))))))
  obtain rfl := oi hm
  exact WX.rt [] (.inl R) Tryz.results35 (.tmp R (.tmp R (.tmp R .nil))) R (fun _ _ _ h => h) trivial
 ·refine .cF R hc ?_
  refine .skip (.seqN (.seq (.seq (.reg (.mv R (.fz 0 [3] [] R R fB R R (.op (O.mf (args := (fun (x : Int) => [.i x])) (res := (fun (r : Bool) => .b r)) (m := (y3y p0)) cf107 (fun x r h => y8x h) (fun _ => R) R Z R R) R (bS hm fun r2 er2 hm => .op (O.ca0 (y6B er2) cf106 R R Z R R R) R (.nil (.seqN ?_))))))))))
  rcases ifS hm with ⟨hc, hm⟩ | ⟨hc, hm⟩
  ·refine .cT R hc ?_
   refine .seq (.reg (.sa R (.sa R (.sa R (.nil (.seqN (.ret (.seqR ?_))))))))
   obtain rfl := oi hm
   exact WX.rt [] (.inl R) Tryz.results35 (.tmp R (.tmp R (.tmp R .nil))) R (fun _ _ _ h => h) trivial
  ·refine .cF R hc ?_
   refine .skip (.seqN (.seq (.reg (.op (O.lg (l' := [lF qI p0.1, lI p0.2.1, lF qI p0.2.2.1, lF qT p0.2.2.2]) ag35 Z R .Q R R R) R (.mv R (.mv R (bS hm fun r3 er3 hm => .op (O.ca0 (y8e er3) cf108 R R Z R R R) R (.mv R (.op (O.ex Z R R R) R (.op (O.ex Z R R R) R (.sa R (.sa R (.nil (.seqN (.seq (.reg (.mv R (.mv R (.sa R (.sa R (.sa R (.nil (.seqN (.ret ?_))))))))))))))))))))))))
   obtain rfl := oi hm
   exact WX.rt [] (.inl R) Tryz.results35 (.tmp R (.tmp R (.tmp R .nil))) R (fun _ _ _ h => h) trivial
def y1x (b48 : Bool) : Option (Int ⊕ (Unit ⊕ Bool)) :=
 some (.inr (.inr (b48)))
def yt (r2 : (AutT × AutT × List Int)) (r3 : (Int × List Int × List Int) × Bool × Int) (r10 : AutT × List (List Int) × Int) (r23 : List (List Int) × Int) (st36 : Int) : Option (Int ⊕ (Unit ⊕ Bool)) :=
 if decide (st36 < (r23.1.length : Int)) then
  (idx r23.1 st36).bind fun x44 =>
  (y4K r10.1 0 x44).bind fun r45 =>
  (idx r10.2.1 r45.1).bind fun x46 =>
  (y1r r2 x46).bind fun r47 =>
  if decide ((r47.length : Int) > 0) then
   (idx r23.1 st36).bind fun x50 =>
   (y2O r3.1.2.1 x50).bind fun r51 =>
   if r51 then
    (y2O r3.1.2.2 r47).bind fun r53 =>
    y1x r53
   else
    y1x false
  else
   some (.inl (W (st36 + 1)))
 else
  some (.inr (.inl ()))
def yY (st20 : Int × Bool) (b54 : Bool) : Option ((Int × Bool) ⊕ Bool) :=
 some (.inl (W (st20.1 + 1), b54))
def yZ (r2 : (AutT × AutT × List Int)) (r10 : AutT × List (List Int) × Int) (st20 : Int × Bool) : Option ((Int × Bool) ⊕ Bool) :=
 if decide (st20.1 < (r10.2.1.length : Int)) then
  if st20.2 then
   yY st20 true
  else
   (idx r10.2.1 st20.1).bind fun x57 =>
   (y1r r2 x57).bind fun r58 =>
   yY st20 (decide ((r58.length : Int) > 0))
 else
  some (.inr st20.2)
def y2R (p0 : (Int × y2a) × (Int × y2a) × Int) (p1 : Bool) : Option Bool :=
 (y4a).bind fun r1 =>
 if (!r1) then
  some false
 else
  (y3q p0 p1).bind fun r2 =>
  (y4W r2).bind fun r3 =>
  (if (r3.2.2 != 0) then
   some true
  else
   (if r3.2.1 then
    (y4n r3.1).bind fun r69 =>
    some (!r69)
   else
    some false).bind fun b66 =>
   some b66).bind fun b4 =>
  (if b4 then
   some true
  else
   (if (!r3.2.1) then
    (if (r3.1.1 != 2) then
     some true
    else
     (y4X r2 ([] : List Int) r3.1).bind fun r65 =>
     some (r65 != 0)).bind fun b62 =>
    some b62
   else
    some false).bind fun b59 =>
   some b59).bind fun b7 =>
  if b7 then
   some false
  else
   (yk ([r2.1, r2.2.1] : List AutT)).bind fun r10 =>
   if (r10.2.2 != 0) then
    some false
   else
    (iter (yZ r2 r10) (0, false)).bind fun o20 =>
    if (o20 == r3.2.1) then
     some false
    else
     (y1j r10.1 3 false).bind fun r23 =>
     if (r23.2 != 0) then
      some (r23.2 == 3)
     else
      (iter (yt r2 r3 r10 r23) 0).bind fun o36 =>
      match o36 with
      | .inl u38 =>
       some (r3.2.1 || (decide ((r3.1.2.1.length : Int) > 3)))
      | .inr (u42) =>
       some u42
theorem y6p {p0 : (Int × y2a) × (Int × y2a) × Int} {p1 : Bool} {r : Bool} (hm : y2R p0 p1 = some r) :
  Fw Tryz.prog 5 ⟨0, []⟩ [.a (lx30 p0), .b p1] [] (.b r) [] := by
 unfold y2R at hm
 refine Fw.mk' Tryz.func5 R Tryz.ntmps5 R R (fun C => ?_) R R
 refine .seq (.reg (.op (O.box 0 R Z R R R) R (.sa R (.nil (.seqN (.seq (.seq (.reg (bS hm fun r1 er1 hm => .op (O.ca0 (y7f er1) cf15 R R Z R R R) R (.op (O.not Z R R) R (.nil (.seqN ?_))))))))))))
 rcases ifS hm with ⟨hc, hm⟩ | ⟨hc, hm⟩
 ·refine .cT R hc ?_
  refine .seq (.reg (.sa R (.nil (.seqN (.ret (.seqR ?_))))))
  obtain rfl := oi hm
  exact WX.rt [] (.inl R) Tryz.results5 (.tmp R .nil) R (fun _ _ _ h => h) trivial
 ·refine .cF R hc ?_
  refine .skip (.seqN (.seq (.reg (.op (O.lg (l' := (lx30 p0)) ag30 Z R (.B R) R R R) R (.mv R (bS hm fun r2 er2 hm => .op (O.ca (r' := .g [lF qI r2.1.1, lI r2.1.2.1, lF qI r2.1.2.2.1, lF qT r2.1.2.2.2, lH 1, lI r2.2.1.2.1, lH 2, lH 3, lH 4]) [1, 2, 3, 4] [(0, ROW qI 3 r2.2.1.1), (1, ROW qI 3 r2.2.1.2.2.1), (2, ROW qT 124 r2.2.1.2.2.2), (3, ROW qI 3 r2.2.2)] (some 5) (y7r er2) cf16 R R Z R R R R ⟨⟨_, R, fun _ _ _ _ h => h⟩, ⟨_, R, fun _ _ _ _ h => h⟩, ⟨_, R, fun _ _ _ _ h => h⟩, ⟨_, R, fun _ _ _ _ h => h⟩, trivial⟩ (fun _ _ _ h => h) R) R (.op (O.al 5 R zz37 R Z R) R (.op (O.st ag37.sz Z R R R R R) R (.nil (.seqN (.seq (.reg (.op (O.lg (l' := [lF qI r2.1.1, lI r2.1.2.1, lF qI r2.1.2.2.1, lF qT r2.1.2.2.2, lH 1, lI r2.2.1.2.1, lH 2, lH 3, lH 4]) ag37 Z R (.B R) R R R) R (.fz 1 [27] [5] R R fR R R (.fz 2 [27] [5] R R fR R R (.fz 3 [27] [5] R R fR R R (.fz 4 [27] [5] R R fR R R (bS hm fun r3 er3 hm => .op (O.ca (r' := .tp [.a [lI r3.1.1, lH 6, lF qI r3.1.2.2], .b r3.2.1, .i r3.2.2]) [6] [(0, ROW qI 3 r3.1.2.1)] (some 7) (y9H er3) cf30 R R Z R R R R ⟨⟨_, R, fun _ _ _ _ h => h⟩, trivial⟩ (fun _ _ _ h => h) R) R (.mv R (.op (O.ex Z R R R) R (.op (O.ex Z R R R) R (.op (O.ex Z R R R) R (.op (O.al 7 R zz44 R Z R) R (.op (O.st ag44.sz Z R R R R R) R (.sa R (.sa R (.nil (.seqN (.seq (.seq (.reg (.mv R (.bi R (.mv R (bS hm fun b4 eb4 hm => ?_)))))))))))))))))))))))))))))))))))
  refine .cut 7 (fun (v5 : Bool) => b4 = v5) (fun v5 => ⟨[(41, .b v5), (7, .b r3.2.1), (6, .q 7 0), (5, .q 5 0)], [(7, .bx 44 [lI r3.1.1, lH 6, lF qI r3.1.2.2]), (6, ROW qI 3 r3.1.2.1), (5, .bx 37 [lF qI r2.1.1, lI r2.1.2.1, lF qI r2.1.2.2.1, lF qT r2.1.2.2.2, lF qI r2.2.1.1, lI r2.2.1.2.1, lF qI r2.2.1.2.2.1, lF qT r2.2.1.2.2.2, lF qI r2.2.2])], 8⟩) ?_ ?_
  ·rintro _ rfl
   refine .mv R (bS hm fun b7 eb7 hm => ?_)
   refine .cut 14 (fun (v8 : Bool) => b7 = v8) (fun v8 => ⟨[(56, .b v8), (7, .b r3.2.1), (6, .q 7 0), (5, .q 5 0)], [(7, .bx 44 [lI r3.1.1, lH 6, lF qI r3.1.2.2]), (6, ROW qI 3 r3.1.2.1), (5, .bx 37 [lF qI r2.1.1, lI r2.1.2.1, lF qI r2.1.2.2.1, lF qT r2.1.2.2.2, lF qI r2.2.1.1, lI r2.2.1.2.1, lF qI r2.2.1.2.2.1, lF qT r2.2.1.2.2.2, lF qI r2.2.2])], 8⟩) ?_ ?_
   ·rintro _ rfl
    refine .nil (.seqN ?_)
    rcases ifS hm with ⟨hc, hm⟩ | ⟨hc, hm⟩
    ·refine .cT R hc ?_
     refine .seq (.reg (.sa R (.nil (.seqN (.ret (.seqR ?_))))))
     obtain rfl := oi hm
     exact WX.rt [] (.inl R) Tryz.results5 (.tmp R .nil) R (fun _ _ _ h => h) trivial
    ·refine .cF R hc ?_
     refine .skip (.seqN (.seq (.reg (.op (O.faP y4O Z R R) R (.op (O.lg (l' := [lF qI r2.1.1, lI r2.1.2.1, lF qI r2.1.2.2.1, lF qT r2.1.2.2.2]) ag35 Z R (.B R) R R R) R (.op (O.faP y6V Z R R) R (.op (O.lg (l' := [lF qI r2.2.1.1, lI r2.2.1.2.1, lF qI r2.2.1.2.2.1, lF qT r2.2.1.2.2.2]) ag35 Z R (.B R) R R R) R (.op (O.bsF (r := rE35) (zs := ([r2.1, r2.2.1] : List AutT)) bs66 R R Z R R R (.c (.p .l (.p .k (.p .l .l))) (.c (.p .l (.p .k (.p .l .l))) .n)) R R R) R (bS hm fun r10 er10 hm => .op (O.ca (r' := .tp [.a [lH 8, lI r10.1.2.1, lH 9, lH 10], .h 11, .i r10.2.2]) [8, 9, 10, 11] [(0, ROW qI 3 r10.1.1), (1, ROW qI 3 r10.1.2.2.1), (2, ROW qT 124 r10.1.2.2.2), (3, ROW (rL qI) 32 r10.2.1)] (some 12) (y4B er10) cf32 R R Z R R R R ⟨⟨_, R, fun _ _ _ _ h => h⟩, ⟨_, R, fun _ _ _ _ h => h⟩, ⟨_, R, fun _ _ _ _ h => h⟩, ⟨_, R, fun _ _ _ _ h => h⟩, trivial⟩ (fun _ _ _ h => h) R) R (.mv R (.op (O.ex Z R R R) R (.op (O.ex Z R R R) R (.op (O.ex Z R R R) R (.op (O.al 12 R zz35 R Z R) R (.op (O.st ag35.sz Z R R R R R) R (.sa R (.sa R (.nil (.seqN (.seq (.seq (.reg (.mv R (.bi R (.nil (.seqN ?_))))))))))))))))))))))))))
     rcases ifS hm with ⟨hc, hm⟩ | ⟨hc, hm⟩
     ·refine .cT R hc ?_
      refine .seq (.reg (.sa R (.nil (.seqN (.ret (.seqR ?_))))))
      obtain rfl := oi hm
      exact WX.rt [] (.inl R) Tryz.results5 (.tmp R .nil) R (fun _ _ _ h => h) trivial
     ·refine .cF R hc ?_
      refine .skip (.seqN (.seq (.reg (.sa R (.nil (.seqN (.seq (.seq (.reg (.sa R (.nil (.seqN (.block (bS hm fun o20 eo20 hm => ?_))))))))))))))
      refine .cut1 (z := .exit 0) o20 (fun (o20 : Bool) => ⟨[(12, .b o20), (10, .h 0), (9, .q 1 0), (7, .b r3.2.1), (6, .q 5 0), (5, .q 7 0)], [(0, ROW (rL qI) 32 r10.2.1), (1, .bx 35 [lH 2, lI r10.1.2.1, lH 3, lH 4]), (2, ROW qI 3 r10.1.1), (3, ROW qI 3 r10.1.2.2.1), (4, ROW qT 124 r10.1.2.2.2), (5, .bx 44 [lI r3.1.1, lH 6, lF qI r3.1.2.2]), (6, ROW qI 3 r3.1.2.1), (7, .bx 37 [lF qI r2.1.1, lI r2.1.2.1, lF qI r2.1.2.2.1, lF qT r2.1.2.2.2, lF qI r2.2.1.1, lI r2.2.1.2.1, lF qI r2.2.1.2.2.1, lF qT r2.2.1.2.2.2, lF qI r2.2.2])], 8⟩) ?_ fun K22 => ?_
      ·skip
       refine .blkE (.seqN (.seq (.seq (.reg (.mv R (.mv R (.op (O.beq Tryz.underlying4 Z R R R) R (.nil (.seqN ?_)))))))))
       rcases ifS hm with ⟨hc, hm⟩ | ⟨hc, hm⟩
       ·refine .cT R hc ?_
        refine .seq (.reg (.sa R (.nil (.seqN (.ret (.seqR ?_))))))
        obtain rfl := oi hm
        exact WX.rt [] (.inl R) Tryz.results5 (.tmp R .nil) R (fun _ _ _ h => h) trivial
       ·refine .cF R hc ?_
        refine .skip (.seqN (.seq (.reg (.op (O.lg (l' := [lH 2, lI r10.1.2.1, lH 3, lH 4]) ag35 Z R (.B R) R R R) R (.fz 2 [90] [1] R R fR R R (.fz 3 [90] [1] R R fR R R (.fz 4 [90] [1] R R fR R R (bS hm fun r23 er23 hm => .op (O.ca (r' := .tp [.h 8, .i r23.2]) [8] [(0, ROW (rL qI) 32 r23.1)] (some 9) (y8w er23) cf34 R R Z R R R R ⟨⟨_, R, fun _ _ _ _ h => h⟩, trivial⟩ (fun _ _ _ h => h) R) R (.mv R (.op (O.ex Z R R R) R (.op (O.ex Z R R R) R (.sa R (.sa R (.nil (.seqN (.seq (.seq (.reg (.mv R (.bi R (.nil (.seqN ?_))))))))))))))))))))))
        rcases ifS hm with ⟨hc, hm⟩ | ⟨hc, hm⟩
        ·refine .cT R hc ?_
         refine .seq (.reg (.mv R (.bi R (.sa R (.nil (.seqN (.ret (.seqR ?_))))))))
         obtain rfl := oi hm
         exact WX.rt [] (.inl R) Tryz.results5 (.tmp R .nil) R (fun _ _ _ h => h) trivial
        ·refine .cF R hc ?_
         refine .skip (.seqN (.seq (.seq (.reg (.sa R (.nil (.seqN (.block (bS hm fun o36 eo36 hm => ?_)))))))))
         refine .cutU (z := .exit 2) (fun u38 => .inl u38 = o36) (fun (u38 : Unit) => ⟨[(7, .b r3.2.1), (6, .q 0 0)], [(0, .bx 44 [lI r3.1.1, lH 1, lF qI r3.1.2.2]), (1, ROW qI 3 r3.1.2.1)], 2⟩) ?_ fun K39 => ?_
         ·rintro u38 rfl
          dsimp only at hm
          refine .blkE (.seqN (.seq (.reg (.mv R (.mv R ?_)))))
          refine .cut 5 (fun (v40 : Bool) => (r3.2.1 || (decide ((r3.1.2.1.length : Int) > 3))) = v40) (fun v40 => ⟨[(142, .b v40)], [], 2⟩) ?_ ?_
          ·rintro _ rfl
           refine .sa R (.nil (.seqN (.ret ?_)))
           obtain rfl := oi hm
           exact WX.rt [] (.inl R) Tryz.results5 (.tmp R .nil) R (fun _ _ _ h => h) trivial
          ·intro J41
           rcases Bool.eq_false_or_eq_true r3.2.1 with hc | hc
           ·refine .know (d := 137) R hc ?_
            exact .sk R (.sk R (.sk R (.sk R (.op (O.pkT Z R R R R) R ((J41 true (orT hc).symm).sub [] R)))))
           ·refine .know (d := 137) R hc ?_
            exact .op (O.faP y5Z (Gu.mk R R) R R) R (.op (O.ld nag32 (Gu.mk R R) R (.B R) R R) R (.op (O.lenH sl32 (Gu.mk R R) R R R) R (.op (O.bi (Gu.mk R R) R R R R) R (.op (O.pkF Z R R R R) R ((J41 (decide ((r3.1.2.1.length : Int) > 3)) (orF hc).symm).sub [] R)))))
         refine .cutU (z := .ret) (fun u42 => .inr (u42) = o36) (fun (u42 : Bool) => ⟨[(4, .b u42)], [], 0⟩) ?_ fun K43 => ?_
         ·rintro u42 rfl
          dsimp only at hm
          refine .blkR (.seqR ?_)
          obtain rfl := oi hm
          exact WX.rt [] (.inl R) Tryz.results5 (.tmp R .nil) R (fun _ _ _ h => h) trivial
         refine .iter (fun (st36 : Int) => ⟨[(16, .i st36), (14, .h 0), (10, .h 1), (9, .q 2 0), (7, .b r3.2.1), (6, .q 3 0), (5, .q 5 0)], [(0, ROW (rL qI) 32 r23.1), (1, ROW (rL qI) 32 r10.2.1), (2, .bx 35 [lF qI r10.1.1, lI r10.1.2.1, lF qI r10.1.2.2.1, lF qT r10.1.2.2.2]), (3, .bx 44 [lI r3.1.1, lH 4, lF qI r3.1.2.2]), (4, ROW qI 3 r3.1.2.1), (5, .bx 37 [lF qI r2.1.1, lI r2.1.2.1, lF qI r2.1.2.2.1, lF qT r2.1.2.2.2, lF qI r2.2.1.1, lI r2.2.1.2.1, lF qI r2.2.1.2.2.1, lF qT r2.2.1.2.2.2, lF qI r2.2.2])], 6⟩) eo36 [(0, 8), (1, 0), (2, 1), (3, 5), (4, 6), (5, 7)] R ?_
         intro st36 res36 hm ih36 ho36
         unfold yt at hm
         refine .seq (.seq (.reg (.mv R (.mv R (.op (O.lenH sl53 Z R R R) R (.bi R (.nil (.seqN ?_))))))))
         rcases ifS hm with ⟨hc, hm⟩ | ⟨hc, hm⟩
         ·refine .cT R hc ?_
          refine .skip (.seqN (.seq (.block (.seq ?_))))
          refine .sub (τ := ⟨[(16, .i st36), (14, .h 0), (10, .h 1), (9, .q 2 0), (7, .b r3.2.1), (6, .q 3 0), (5, .q 5 0)], [(0, ROW (rL qI) 32 r23.1), (1, ROW (rL qI) 32 r10.2.1), (2, .bx 35 [lF qI r10.1.1, lI r10.1.2.1, lF qI r10.1.2.2.1, lF qT r10.1.2.2.2]), (3, .bx 44 [lI r3.1.1, lH 4, lF qI r3.1.2.2]), (4, ROW qI 3 r3.1.2.1), (5, .bx 37 [lF qI r2.1.1, lI r2.1.2.1, lF qI r2.1.2.2.1, lF qT r2.1.2.2.2, lF qI r2.2.1.1, lI r2.2.1.2.1, lF qI r2.2.1.2.2.1, lF qT r2.2.1.2.2.2, lF qI r2.2.2])], 6⟩) ?_ [] R
          refine bS hm fun x44 ex44 hm => bS hm fun r45 er45 hm => ?_
          refine .drw [(6, []), (6, []), (6, []), (6, [oF, oT, oT]), (6, [oF, oT, oT, oT]), (6, [oT, oT, oT, oT, oT]), (6, [oT, oT, oT, oT, oT, oT]), (6, [oT, oT, oT, oT, oT, oT, oT]), (6, [oT, oT, oT, oT, oT, oT, oT]), (6, [oT, oT, oT, oT, oT, oT, oT]), (6, [oT, oT, oT, oT, oT, oT, oT, oT]), (6, [oT, oT, oT, oT, oT, oT, oT, oT, oT, oF, oT]), (6, [oT, oT, oT, oT, oT, oT, oT, oT, oT, oT, oT, oT])] [_, _, _, _, _, _, _, _, _, _, _, _, _] ⟨[(17, .i r45.1), (16, .i st36), (14, .h 0), (10, .h 1), (9, .q 2 0), (7, .b r3.2.1), (6, .q 3 0), (5, .q 5 0)], [(0, ROW (rL qI) 32 r23.1), (1, ROW (rL qI) 32 r10.2.1), (2, .bx 35 [lF qI r10.1.1, lI r10.1.2.1, lF qI r10.1.2.2.1, lF qT r10.1.2.2.2]), (3, .bx 44 [lI r3.1.1, lH 4, lF qI r3.1.2.2]), (4, ROW qI 3 r3.1.2.1), (5, .bx 37 [lF qI r2.1.1, lI r2.1.2.1, lF qI r2.1.2.2.1, lF qT r2.1.2.2.2, lF qI r2.2.1.1, lI r2.2.1.2.1, lF qI r2.2.1.2.2.1, lF qT r2.2.1.2.2.2, lF qI r2.2.2])], 6⟩ ⟨O.lg (l' := [lF qI r10.1.1, lI r10.1.2.1, lF qI r10.1.2.2.1, lF qT r10.1.2.2.2]) ag35 Z R (.B R) R R R, O.mv Z R R, O.mv Z R R, O.ir sl53 Z R R R ex44 R, O.ld nag32 Z R (.R R ex44 lv32) R R, O.ca0 (y8S er45) cf35 R R Z R R R, O.mv Z R R, O.ex Z R R R, O.ex Z R R R, O.ex Z R R R, O.as Z R R, O.as Z R R, O.as Z R R, trivial⟩ (by kernel_rfl) R ?_
          refine .seqN (.seq ?_)
          refine .sub (τ := ⟨[(17, .i r45.1), (16, .i st36), (14, .h 0), (10, .h 1), (9, .q 2 0), (7, .b r3.2.1), (6, .q 3 0), (5, .q 5 0)], [(0, ROW (rL qI) 32 r23.1), (1, ROW (rL qI) 32 r10.2.1), (2, .bx 35 [lF qI r10.1.1, lI r10.1.2.1, lF qI r10.1.2.2.1, lF qT r10.1.2.2.2]), (3, .bx 44 [lI r3.1.1, lH 4, lF qI r3.1.2.2]), (4, ROW qI 3 r3.1.2.1), (5, .bx 37 [lF qI r2.1.1, lI r2.1.2.1, lF qI r2.1.2.2.1, lF qT r2.1.2.2.2, lF qI r2.2.1.1, lI r2.2.1.2.1, lF qI r2.2.1.2.2.1, lF qT r2.2.1.2.2.2, lF qI r2.2.2])], 6⟩) ?_ [] R
          refine bS hm fun x46 ex46 hm => bS hm fun r47 er47 hm => ?_
          refine .drw [(6, []), (6, []), (6, []), (6, [oF, oT, oT]), (6, [oF, oT, oT, oT]), (6, [oT, oT, oT, oT, oT]), (6, [oT, oT, oT, oT, oT, oT])] [_, _, _, _, _, _, _] ⟨[(20, .f qI r47), (16, .i st36), (14, .h 0), (10, .h 1), (9, .q 2 0), (7, .b r3.2.1), (6, .q 3 0), (5, .q 5 0)], [(0, ROW (rL qI) 32 r23.1), (1, ROW (rL qI) 32 r10.2.1), (2, .bx 35 [lF qI r10.1.1, lI r10.1.2.1, lF qI r10.1.2.2.1, lF qT r10.1.2.2.2]), (3, .bx 44 [lI r3.1.1, lH 4, lF qI r3.1.2.2]), (4, ROW qI 3 r3.1.2.1), (5, .bx 37 [lF qI r2.1.1, lI r2.1.2.1, lF qI r2.1.2.2.1, lF qT r2.1.2.2.2, lF qI r2.2.1.1, lI r2.2.1.2.1, lF qI r2.2.1.2.2.1, lF qT r2.2.1.2.2.2, lF qI r2.2.2])], 6⟩ ⟨O.lg (l' := [lF qI r2.1.1, lI r2.1.2.1, lF qI r2.1.2.2.1, lF qT r2.1.2.2.2, lF qI r2.2.1.1, lI r2.2.1.2.1, lF qI r2.2.1.2.2.1, lF qT r2.2.1.2.2.2, lF qI r2.2.2]) ag37 Z R (.B R) R R R, O.mv Z R R, O.mv Z R R, O.ir sl53 Z R R R ex46 R, O.ld nag32 Z R (.R R ex46 lv32) R R, O.ca0 (y5n er47) cf33 R R Z R R R, O.as Z R R, trivial⟩ (by kernel_rfl) R ?_
          refine .seqN (.seq (.reg (.mv R (.op (O.len sl32 Z R R) R (.bi R (.nil (.seqN ?_)))))))
          rcases ifS hm with ⟨hc, hm⟩ | ⟨hc, hm⟩
          ·refine .cT R hc ?_
           refine .join1 (fun (b48 : Bool) => y1x b48 = some res36) (fun b48 => ⟨[(4, .b b48)], [], 0⟩) ?_ ?_
           ·intro b48 hm
            unfold y1x at hm
            exact .ret (.blkR (.seqR (.seqR ((K43 _ (ho36 _ (oi hm).symm)).sub [] R))))
           ·intro Jj49
            refine .sub (τ := ⟨[(20, .f qI r47), (16, .i st36), (14, .h 0), (6, .q 3 0)], [(0, ROW (rL qI) 32 r23.1), (3, .bx 44 [lI r3.1.1, lH 4, lF qI r3.1.2.2]), (4, ROW qI 3 r3.1.2.1)], 6⟩) ?_ [] R
            refine bS hm fun x50 ex50 hm => bS hm fun r51 er51 hm => ?_
            rcases ifS hm with ⟨hc52, hm⟩ | ⟨hc52, hm⟩
            ·skip
             refine bS hm fun r53 er53 hm => ?_
             refine .drw [(6, []), (6, [oT]), (6, []), (6, []), (6, [oF, oF, oT, oT]), (6, [oF, oF, oT, oT, oT]), (6, [oT, oT, oT, oT, oT, oT]), (6, [oT, oT, oT, oT, oT, oT, oT]), (6, [oT, oT, oT, oT, oT, oT, oT, oT]), (6, [oT, oT, oT, oT, oT, oT, oT, oT, oT]), (6, [oT, oT, oT, oT, oT, oT, oT, oT]), (6, [oT, oT, oT, oT, oT, oT, oT, oT, oT, oT, oT]), (6, [oT, oT, oT, oT, oT, oT, oT, oT, oT, oT, oT, oT]), (6, [oT, oT, oT, oT, oT, oT, oT, oT, oT, oT, oT, oT, oT])] [_, _, _, _, _, _, _, _, _, _, _, _, _, _] ⟨[(4, .b r53)], [], 6⟩ ⟨O.faP y5Z Z R R, O.ld nag32 Z R (.B R) R R, O.mv Z R R, O.mv Z R R, O.ir sl53 Z R R R ex50 R, O.ld nag32 Z R (.R R ex50 lv32) R R, O.caZ (y3G er51) cf29 R R Z R ⟨⟨R, .hr R, trivial⟩, ⟨R, LnL.rf⟩, trivial⟩ (fun _ _ _ _ _ h => h) R, O.kn (O.mv Z R R) hc52, O.faP y3k (Gu.mk R R) R R, O.ld nag32 (Gu.mk R R) R (.B R) R R, O.mv (Gu.mk R R) R R, O.ca0 (y3G er53) cf29 R R (Gu.mk R R) R R R, O.pkT Z R R R R, O.as Z R R, trivial⟩ (by kernel_rfl) R ?_
             exact (Jj49 _ hm).sub [] R
            ·skip
             refine .drw [(6, []), (6, [oT]), (6, []), (6, []), (6, [oF, oF, oT, oT]), (6, [oF, oF, oT, oT, oT]), (6, [oT, oT, oT, oT, oT, oT]), (6, [oT, oT, oT, oT, oT, oT, oT]), (6, [oT, oT, oT, oT, oT, oT, oT, oT]), (6, [oT, oT, oT, oT, oT, oT, oT, oT, oT]), (6, [oT, oT, oT, oT, oT, oT, oT, oT]), (6, [oT, oT, oT, oT, oT, oT, oT, oT, oT, oT, oT]), (6, [oT, oT, oT, oT, oT, oT, oT, oT, oT, oT, oT, oT]), (6, [oT, oT, oT, oT, oT, oT, oT, oT, oT, oT, oT, oT, oT])] [_, _, _, _, _, _, _, _, _, _, _, _, _, _] ⟨[(4, .b false)], [], 6⟩ ⟨O.faP y5Z Z R R, O.ld nag32 Z R (.B R) R R, O.mv Z R R, O.mv Z R R, O.ir sl53 Z R R R ex50 R, O.ld nag32 Z R (.R R ex50 lv32) R R, O.caZ (y3G er51) cf29 R R Z R ⟨⟨R, .hr R, trivial⟩, ⟨R, LnL.rf⟩, trivial⟩ (fun _ _ _ _ _ h => h) R, O.kn (O.mv Z R R) hc52, O.skip R R R R, O.skip R R R R, O.skip R R R R, O.skip R R R R, O.pkF Z R R R R, O.as Z R R, trivial⟩ (by kernel_rfl) R ?_
             exact (Jj49 _ hm).sub [] R
          ·refine .cF R hc ?_
           exact .skip (.blkN (.seqN (.reg (.mv R (.bi R (.sa R (.nil ((ih36 _ (oi hm).symm).sub [] R))))))))
         ·refine .cF R hc ?_
          exact .exit (.seqX (.seqX ((K39 _ (ho36 _ (oi hm).symm)).sub [(0, 3), (1, 4)] R)))
      refine .iter (fun (st20 : Int × Bool) => ⟨[(13, .i st20.1), (12, .b st20.2), (10, .h 0), (9, .q 1 0), (7, .b r3.2.1), (6, .q 5 0), (5, .q 7 0)], [(0, ROW (rL qI) 32 r10.2.1), (1, .bx 35 [lH 2, lI r10.1.2.1, lH 3, lH 4]), (2, ROW qI 3 r10.1.1), (3, ROW qI 3 r10.1.2.2.1), (4, ROW qT 124 r10.1.2.2.2), (5, .bx 44 [lI r3.1.1, lH 6, lF qI r3.1.2.2]), (6, ROW qI 3 r3.1.2.1), (7, .bx 37 [lF qI r2.1.1, lI r2.1.2.1, lF qI r2.1.2.2.1, lF qT r2.1.2.2.2, lF qI r2.2.1.1, lI r2.2.1.2.1, lF qI r2.2.1.2.2.1, lF qT r2.2.1.2.2.2, lF qI r2.2.2])], 8⟩) eo20 [(0, 11), (1, 12), (2, 8), (3, 9), (4, 10), (5, 7), (7, 5)] R ?_
      intro st20 res20 hm ih20 ho20
      unfold yZ at hm
      refine .seq (.seq (.reg (.mv R (.mv R (.op (O.lenH sl53 Z R R R) R (.bi R (.nil (.seqN ?_))))))))
      rcases ifS hm with ⟨hc, hm⟩ | ⟨hc, hm⟩
      ·refine .cT R hc ?_
       refine .skip (.seqN ?_)
       refine .join1 (fun (b54 : Bool) => yY st20 b54 = some res20) (fun b54 => ⟨[(12, .b b54), (13, .i st20.1), (10, .h 0), (9, .q 1 0), (7, .b r3.2.1), (6, .q 5 0), (5, .q 7 0)], [(0, ROW (rL qI) 32 r10.2.1), (1, .bx 35 [lH 2, lI r10.1.2.1, lH 3, lH 4]), (2, ROW qI 3 r10.1.1), (3, ROW qI 3 r10.1.2.2.1), (4, ROW qT 124 r10.1.2.2.2), (5, .bx 44 [lI r3.1.1, lH 6, lF qI r3.1.2.2]), (6, ROW qI 3 r3.1.2.1), (7, .bx 37 [lF qI r2.1.1, lI r2.1.2.1, lF qI r2.1.2.2.1, lF qT r2.1.2.2.2, lF qI r2.2.1.1, lI r2.2.1.2.1, lF qI r2.2.1.2.2.1, lF qT r2.2.1.2.2.2, lF qI r2.2.2])], 8⟩) ?_ ?_
       ·intro b54 hm
        unfold yY at hm
        exact .reg (.mv R (.bi R (.sa R (.nil ((ih20 _ (oi hm).symm).sub [] R)))))
       ·intro Jj55
        refine .block ?_
        refine .sub (τ := ⟨[(13, .i st20.1), (12, .b st20.2), (10, .h 0), (9, .q 1 0), (7, .b r3.2.1), (6, .q 5 0), (5, .q 7 0)], [(0, ROW (rL qI) 32 r10.2.1), (1, .bx 35 [lH 2, lI r10.1.2.1, lH 3, lH 4]), (2, ROW qI 3 r10.1.1), (3, ROW qI 3 r10.1.2.2.1), (4, ROW qT 124 r10.1.2.2.2), (5, .bx 44 [lI r3.1.1, lH 6, lF qI r3.1.2.2]), (6, ROW qI 3 r3.1.2.1), (7, .bx 37 [lF qI r2.1.1, lI r2.1.2.1, lF qI r2.1.2.2.1, lF qT r2.1.2.2.2, lF qI r2.2.1.1, lI r2.2.1.2.1, lF qI r2.2.1.2.2.1, lF qT r2.2.1.2.2.2, lF qI r2.2.2])], 8⟩) ?_ [] R
        rcases ifS hm with ⟨hc56, hm⟩ | ⟨hc56, hm⟩
        ·skip
         refine .drg 8 [(8, []), (8, [oT]), (8, [oT, oT]), (8, [oT, oT]), (8, [oT, oT]), (8, [oT, oT, oF, oT, oT]), (8, [oT, oT, oF, oT, oT, oT]), (8, [oT, oT, oT, oT, oT, oT, oT]), (8, [oT, oT, oT, oT, oT, oT, oT, oT]), (8, [oT, oT, oT, oT, oT, oT, oT, oT, oT]), (8, [oT, oT, oT, oT, oT, oT, oT, oT, oT, oT]), (8, [oT, oT, oT, oT, oT, oT, oT, oT, oT, oT, oT])] [_, _, _, _, _, _, _, _, _, _, _, _] ⟨[(12, .b true), (13, .i st20.1), (10, .h 0), (9, .q 1 0), (7, .b r3.2.1), (6, .q 5 0), (5, .q 7 0)], [(0, ROW (rL qI) 32 r10.2.1), (1, .bx 35 [lH 2, lI r10.1.2.1, lH 3, lH 4]), (2, ROW qI 3 r10.1.1), (3, ROW qI 3 r10.1.2.2.1), (4, ROW qT 124 r10.1.2.2.2), (5, .bx 44 [lI r3.1.1, lH 6, lF qI r3.1.2.2]), (6, ROW qI 3 r3.1.2.1), (7, .bx 37 [lF qI r2.1.1, lI r2.1.2.1, lF qI r2.1.2.2.1, lF qT r2.1.2.2.2, lF qI r2.2.1.1, lI r2.2.1.2.1, lF qI r2.2.1.2.2.1, lF qT r2.2.1.2.2.2, lF qI r2.2.2])], 8⟩ ⟨O.mv Z R R, O.kn (O.mv Z R R) hc56, O.skip R R R R, O.skip R R R R, O.skip R R R R, O.skip R R R R, O.skip R R R R, O.skip R R R R, O.skip R R R R, O.skip R R R R, O.pkT Z R R R R, O.as Z R R, trivial⟩ (by kernel_rfl) R ?_
         exact .blkN ((Jj55 _ hm).sub [] R)
        ·skip
         refine bS hm fun x57 ex57 hm => bS hm fun r58 er58 hm => ?_
         refine .drg 8 [(8, []), (8, [oT]), (8, [oT, oT]), (8, [oT, oT]), (8, [oT, oT]), (8, [oT, oT, oF, oT, oT]), (8, [oT, oT, oF, oT, oT, oT]), (8, [oT, oT, oT, oT, oT, oT, oT]), (8, [oT, oT, oT, oT, oT, oT, oT, oT]), (8, [oT, oT, oT, oT, oT, oT, oT, oT, oT]), (8, [oT, oT, oT, oT, oT, oT, oT, oT, oT, oT]), (8, [oT, oT, oT, oT, oT, oT, oT, oT, oT, oT, oT])] [_, _, _, _, _, _, _, _, _, _, _, _] ⟨[(12, .b (decide ((r58.length : Int) > 0))), (13, .i st20.1), (10, .h 0), (9, .q 1 0), (7, .b r3.2.1), (6, .q 5 0), (5, .q 7 0)], [(0, ROW (rL qI) 32 r10.2.1), (1, .bx 35 [lH 2, lI r10.1.2.1, lH 3, lH 4]), (2, ROW qI 3 r10.1.1), (3, ROW qI 3 r10.1.2.2.1), (4, ROW qT 124 r10.1.2.2.2), (5, .bx 44 [lI r3.1.1, lH 6, lF qI r3.1.2.2]), (6, ROW qI 3 r3.1.2.1), (7, .bx 37 [lF qI r2.1.1, lI r2.1.2.1, lF qI r2.1.2.2.1, lF qT r2.1.2.2.2, lF qI r2.2.1.1, lI r2.2.1.2.1, lF qI r2.2.1.2.2.1, lF qT r2.2.1.2.2.2, lF qI r2.2.2])], 8⟩ ⟨O.mv Z R R, O.kn (O.mv Z R R) hc56, O.lg (l' := [lF qI r2.1.1, lI r2.1.2.1, lF qI r2.1.2.2.1, lF qT r2.1.2.2.2, lF qI r2.2.1.1, lI r2.2.1.2.1, lF qI r2.2.1.2.2.1, lF qT r2.2.1.2.2.2, lF qI r2.2.2]) ag37 (Gu.mk R R) R (.B R) R R R, O.mv (Gu.mk R R) R R, O.mv (Gu.mk R R) R R, O.ir sl53 (Gu.mk R R) R R R ex57 R, O.ld nag32 (Gu.mk R R) R (.R R ex57 lv32) R R, O.ca0 (y5n er58) cf33 R R (Gu.mk R R) R R R, O.len sl32 (Gu.mk R R) R R, O.bi (Gu.mk R R) R R R R, O.pkF Z R R R R, O.as Z R R, trivial⟩ (by kernel_rfl) R ?_
         exact .blkN ((Jj55 _ hm).sub [] R)
      ·refine .cF R hc ?_
       exact .exit (.seqX (.seqX ((K22 _ (ho20 _ (oi hm).symm)).sub [] R)))
   ·intro J9
    rcases ifS eb7 with ⟨hc, hm⟩ | ⟨hc, hm⟩
    ·refine .know (d := 42) R hc ?_
     exact .sk R (.sk R (.sk R (.op (O.skipU R R R) R (.op (O.skipU R R R) R (.op (O.skipU R R R) R (.op (O.skipU R R R) R (.op (O.skipU R R R) R (.op (O.skipU R R R) R (.op (O.skipU R R R) R (.op (O.skipU R R R) R (.op (O.skipU R R R) R (.sk R (.op (O.pkT Z R R R R) R ((J9 true (oi hm).symm).sub [] R))))))))))))))
    ·refine .know (d := 42) R hc ?_
     refine .op (O.mv (Gu.mk R R) R R) R (.op (O.not (Gu.mk R R) R R) R (.op (O.mv (Gu.mk R R) R R) R (bS hm fun b59 eb59 hm => ?_)))
     refine .cut 10 (fun (v60 : Bool) => b59 = v60) (fun v60 => ⟨[(55, .b v60), (42, .b false), (7, .b r3.2.1), (6, .q 7 0), (5, .q 5 0)], [(7, .bx 44 [lI r3.1.1, lH 6, lF qI r3.1.2.2]), (6, ROW qI 3 r3.1.2.1), (5, .bx 37 [lF qI r2.1.1, lI r2.1.2.1, lF qI r2.1.2.2.1, lF qT r2.1.2.2.2, lF qI r2.2.1.1, lI r2.2.1.2.1, lF qI r2.2.1.2.2.1, lF qT r2.2.1.2.2.2, lF qI r2.2.2])], 8⟩) ?_ ?_
     ·rintro _ rfl
      exact .op (O.pkF Z R R R R) R ((J9 b59 (oi hm).symm).sub [] R)
     ·intro J61
      rcases ifS eb59 with ⟨hc, hm⟩ | ⟨hc, hm⟩
      ·refine .know (d := 45) R hc ?_
       refine .op (O.faP y7N (Gu.mk R R) R R) R (.op (O.ld nag3 (Gu.mk R R) R (.B R) R R) R (.op (O.bi (Gu.mk R R) R R R R) R (.op (O.mv (Gu.mk R R) R R) R (bS hm fun b62 eb62 hm => ?_))))
       refine .cut 5 (fun (v63 : Bool) => b62 = v63) (fun v63 => ⟨[(54, .b v63), (45, .b true), (42, .b false), (7, .b r3.2.1), (6, .q 7 0), (5, .q 5 0)], [(7, .bx 44 [lI r3.1.1, lH 6, lF qI r3.1.2.2]), (6, ROW qI 3 r3.1.2.1), (5, .bx 37 [lF qI r2.1.1, lI r2.1.2.1, lF qI r2.1.2.2.1, lF qT r2.1.2.2.2, lF qI r2.2.1.1, lI r2.2.1.2.1, lF qI r2.2.1.2.2.1, lF qT r2.2.1.2.2.2, lF qI r2.2.2])], 8⟩) ?_ ?_
       ·rintro _ rfl
        exact .op (O.pkT (Gu.mk R R) R R R R) R ((J61 b62 (oi hm).symm).sub [] R)
       ·intro J64
        rcases ifS eb62 with ⟨hc, hm⟩ | ⟨hc, hm⟩
        ·refine .know (d := 49) R hc ?_
         exact .sk R (.sk R (.sk R (.sk R (.op (O.pkT (Gu.mk R R) R R R R) R ((J64 true (oi hm).symm).sub [] R)))))
        ·refine .know (d := 49) R hc ?_
         exact .op (O.lg (l' := [lF qI r2.1.1, lI r2.1.2.1, lF qI r2.1.2.2.1, lF qT r2.1.2.2.2, lF qI r2.2.1.1, lI r2.2.1.2.1, lF qI r2.2.1.2.2.1, lF qT r2.2.1.2.2.2, lF qI r2.2.2]) ag37 (Gu.mk R R) R (.B R) R R R) R (.op (O.lg (l' := [lI r3.1.1, lH 6, lF qI r3.1.2.2]) ag44 (Gu.mk R R) R (.B R) R R R) R (bS hm fun r65 er65 hm => .op (O.caZ (y9I er65) cf31 R R (Gu.mk R R) R ⟨⟨R, LnL.rf⟩, ⟨R, (.cv .rf (.nf (r := qI))), trivial⟩, ⟨R, .rf, .hr R, .rf, trivial⟩, trivial⟩ (fun _ _ _ _ _ h => h) R) R (.op (O.bi (Gu.mk R R) R R R R) R (.op (O.pkF (Gu.mk R R) R R R R) R ((J64 (r65 != 0) (oi hm).symm).sub [] R)))))
      ·refine .know (d := 45) R hc ?_
       exact .sk R (.sk R (.sk R (.sk R (.op (O.skipU R R R) R (.op (O.skipU R R R) R (.op (O.skipU R R R) R (.op (O.skipU R R R) R (.sk R (.op (O.pkF (Gu.mk R R) R R R R) R ((J61 false (oi hm).symm).sub [] R))))))))))
  ·intro J6
   rcases ifS eb4 with ⟨hc, hm⟩ | ⟨hc, hm⟩
   ·refine .know (d := 34) R hc ?_
    exact .sk R (.sk R (.op (O.skipU R R R) R (.op (O.skipU R R R) R (.op (O.skipU R R R) R (.sk R (.op (O.pkT Z R R R R) R ((J6 true (oi hm).symm).sub [] R)))))))
   ·refine .know (d := 34) R hc ?_
    refine .op (O.mv (Gu.mk R R) R R) R (.op (O.mv (Gu.mk R R) R R) R (bS hm fun b66 eb66 hm => ?_))
    refine .cut 4 (fun (v67 : Bool) => b66 = v67) (fun v67 => ⟨[(40, .b v67), (34, .b false), (7, .b r3.2.1), (6, .q 7 0), (5, .q 5 0)], [(7, .bx 44 [lI r3.1.1, lH 6, lF qI r3.1.2.2]), (6, ROW qI 3 r3.1.2.1), (5, .bx 37 [lF qI r2.1.1, lI r2.1.2.1, lF qI r2.1.2.2.1, lF qT r2.1.2.2.2, lF qI r2.2.1.1, lI r2.2.1.2.1, lF qI r2.2.1.2.2.1, lF qT r2.2.1.2.2.2, lF qI r2.2.2])], 8⟩) ?_ ?_
    ·rintro _ rfl
     exact .op (O.pkF Z R R R R) R ((J6 b66 (oi hm).symm).sub [] R)
    ·intro J68
     rcases ifS eb66 with ⟨hc, hm⟩ | ⟨hc, hm⟩
     ·refine .know (d := 36) R hc ?_
      exact .op (O.lg (l' := [lI r3.1.1, lH 6, lF qI r3.1.2.2]) ag44 (Gu.mk R R) R (.B R) R R R) R (bS hm fun r69 er69 hm => .op (O.caZ (y7t er69) cf22 R R (Gu.mk R R) R ⟨⟨R, .rf, .hr R, .rf, trivial⟩, trivial⟩ (fun _ _ _ _ _ h => h) R) R (.op (O.not (Gu.mk R R) R R) R (.op (O.pkT (Gu.mk R R) R R R R) R ((J68 (!r69) (oi hm).symm).sub [] R))))
     ·refine .know (d := 36) R hc ?_
      exact .sk R (.sk R (.sk R (.op (O.pkF (Gu.mk R R) R R R R) R ((J68 false (oi hm).symm).sub [] R))))
end
end Go.Proofs.YtecmobjeeonmaaaGreatDoor
namespace Go.Proofs.YtecmobjeeonmaaaGreatDoor
def wval (u : List Int) : Int := u.foldl (fun acc e => 33 * acc + e + 1) 0
theorem y5o (u : List Int) (e : Int) : wval (u ++ [e]) = 33 * wval u + e + 1 := by simp [wval, List.foldl_append]
def Evs (u : List Int) : Prop := ∀ e ∈ u, 0 ≤ e ∧ e < 32
theorem Evs.nil : Evs [] := fun e h => by cases h
theorem Evs.snoc {u : List Int} {e : Int} (h : Evs u) (h0 : 0 ≤ e) (h1 : e < 32) : Evs (u ++ [e]) := by
 intro x hx
 rcases List.mem_append.1 hx with h2 | h2
 ·exact h x h2
 ·rw [List.mem_singleton.1 h2]; exact ⟨h0, h1⟩
theorem Evs.of_snoc {u : List Int} {e : Int} (h : Evs (u ++ [e])) : Evs u ∧ 0 ≤ e ∧ e < 32 :=
 ⟨fun x hx => h x (List.mem_append_left _ hx), h e (by simp)⟩
theorem y8f {α : Type} {P : List α → Prop} (h0 : P []) (h1 : ∀ u e, P u → P (u ++ [e])) (u : List α) : P u := by
 have h2 : ∀ n (u : List α), u.length = n → P u := by
  intro n
  induction n with
  | zero => intro u hu; rw [List.eq_nil_of_length_eq_zero hu]; exact h0
  | succ n ih =>
   intro u hu
   rcases List.eq_nil_or_concat u with rfl | ⟨l, b, rfl⟩
   ·cases hu
   ·have hl : l.length = n := by simpa using hu
    simpa using h1 l b (ih l hl)
 exact h2 _ u rfl
theorem y8Z (u : List Int) : Evs u → 0 ≤ wval u := by
 refine y8f (P := fun u => Evs u → 0 ≤ wval u) (fun _ => Int.le_refl 0) (fun u e ih h => ?_) u
 have h1 := h.of_snoc
 have := ih h1.1
 rw [y5o]; omega
def wlo : Nat → Int
 | 0 => 0
 | n + 1 => 33 * wlo n + 1
def whi : Nat → Int
 | 0 => 0
 | n + 1 => 33 * whi n + 32
theorem ycp (u : List Int) : Evs u → wlo u.length ≤ wval u ∧ wval u ≤ whi u.length := by
 refine y8f (P := fun u => Evs u → wlo u.length ≤ wval u ∧ wval u ≤ whi u.length) (fun _ => ⟨Int.le_refl _, Int.le_refl _⟩) (fun u e ih h => ?_) u
 have h1 := h.of_snoc
 have := ih h1.1
 rw [y5o, List.length_append, List.length_singleton, wlo, whi]; omega
theorem ye7 (n : Nat) : whi n < wlo (n + 1) := by
 induction n with
 | zero => decide
 | succ n ih => rw [whi, wlo]; omega
theorem yd0 {m n : Nat} (h : m ≤ n) : wlo m ≤ wlo n := by
 induction n with
 | zero =>
  obtain rfl : m = 0 := by omega
  exact Int.le_refl _
 | succ n ih =>
  by_cases e : m = n + 1
  ·rw [e]; exact Int.le_refl _
  ·have h1 := ih (by omega)
   have h2 : 0 ≤ wlo n := by
    clear h1 ih h e
    induction n with
    | zero => exact Int.le_refl _
    | succ n ih => rw [wlo]; omega
   rw [wlo]; omega
theorem yb0 {u v : List Int} (hu : Evs u) (hv : Evs v) (h : wval u ≤ wval v) : u.length ≤ v.length := by
 by_cases hlt : v.length < u.length
 ·have h1 := (ycp u hu).1
  have h2 := (ycp v hv).2
  have h3 := ye7 v.length
  have h4 := yd0 (show v.length + 1 ≤ u.length by omega)
  omega
 ·omega
def Leads (es : List Ed) (perm : Ed → Bool) (s : Int) : List Int → Int → Prop
 | [], t => s = t
 | e :: u, t => ∃ x ∈ es, x.f = s ∧ x.e = e ∧ perm x = true ∧ Leads es perm x.t u t
theorem Leads.snoc {es : List Ed} {perm : Ed → Bool} : ∀ {u : List Int} {s t : Int}, Leads es perm s u t → ∀ {x : Ed}, x ∈ es → x.f = t → perm x = true → Leads es perm s (u ++ [x.e]) x.t
 | [], s, t, h, x, hx, hf, hp => ⟨x, hx, by rw [hf]; exact h.symm, rfl, hp, rfl⟩
 | e :: u, s, t, ⟨y, hy, h1, h2, h3, h4⟩, x, hx, hf, hp => ⟨y, hy, h1, h2, h3, h4.snoc hx hf hp⟩
theorem Leads.of_snoc {es : List Ed} {perm : Ed → Bool} {e : Int} : ∀ {u : List Int} {s t : Int}, Leads es perm s (u ++ [e]) t → ∃ x ∈ es, Leads es perm s u x.f ∧ x.e = e ∧ x.t = t ∧ perm x = true
 | [], s, t, ⟨y, hy, h1, h2, h3, h4⟩ => ⟨y, hy, h1.symm, h2, h4, h3⟩
 | a :: u, s, t, ⟨y, hy, h1, h2, h3, h4⟩ => by
  obtain ⟨x, hx, g1, g2, g3, g4⟩ := Leads.of_snoc (u := u) h4
  exact ⟨x, hx, ⟨y, hy, h1, h2, h3, g1⟩, g2, g3, g4⟩
def EvEs (es : List Ed) : Prop := ∀ x ∈ es, 0 ≤ x.e ∧ x.e < 32
theorem Leads.evs {es : List Ed} {perm : Ed → Bool} (he : EvEs es) : ∀ {u : List Int} {s t : Int}, Leads es perm s u t → Evs u
 | [], _, _, _ => Evs.nil
 | e :: u, s, t, ⟨y, hy, h1, h2, h3, h4⟩ => by
  intro z hz
  rcases List.mem_cons.1 hz with rfl | hz
  ·rw [← h2]; exact he y hy
  ·exact Leads.evs he h4 z hz
def edLt (x y : Ed) : Prop := x.f < y.f ∨ (x.f = y.f ∧ x.e < y.e)
def y8I (es : List Ed) : Prop := es.Pairwise edLt
end Go.Proofs.YtecmobjeeonmaaaGreatDoor
