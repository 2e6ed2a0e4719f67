/- Parts of the proof, without what nothing here names. -/
import Derived.Test.YtecmobjeeonmaaaGreatDoorProg
import Derived.Test.YtecmobjeeonmaaaGreatDoorQo4
set_option maxRecDepth 100000
set_option maxHeartbeats 8000000
namespace Go.Proofs.YtecmobjeeonmaaaGreatDoor
open Go Go.RowKit
noncomputable section
def y1q (st32:Int×List Int) (st48:Int) (b52:Bool):Option (Int ⊕ (List Int)):=
 if b52 then
  (app st32.2 ([st32.1]:List Int)).bind fun x54=>
  some (.inr x54)
 else
  some (.inl (W (st48 + 1)))
def y2f (r1:AutT×AutT×List Int) (r2:AutT×List (List Int)×Int) (st32:Int×List Int) (st48:Int):Option (Int ⊕ (List Int)):=
 if decide (st48 < (r1.2.2.length:Int)) then
  (idx r1.2.2 st48).bind fun x51=>
  (idx r2.2.1 st32.1).bind fun x55=>
  (idx x55 0).bind fun x56=>
  (y1v r1.1 x56 x51).bind fun r57=>
  if decide (r57≥0) then
   (y1v r2.1 st32.1 x51).bind fun r60=>
   y1q st32 st48 (decide (r60 < 0))
  else
   y1q st32 st48 false
 else
  some (.inr st32.2)
def y1r (r1:AutT×AutT×List Int) (r2:AutT×List (List Int)×Int) (st32:Int×List Int):Option ((Int×List Int) ⊕ (List Int)):=
 if decide (st32.1 < (r2.2.1.length:Int)) then
  (iter (y2f r1 r2 st32) 0).bind fun o48=>
  some (.inl (W (st32.1 + 1),o48))
 else
  some (.inr st32.2)
def y3P (p0:(Int×y2h)×(Int×y2h)×Int) (p1:Bool):Option (AutT×AutT×List Int):=
 (y3M p0).bind fun r1=>
 if(!p1) then
  some r1
 else
  (yj ([r1.1,r1.2.1]:List AutT)).bind fun r2=>
  (iter (y1r r1 r2) (0,([]:List Int))).bind fun o32=>
  (y2m r2.1 o32 r1.2.2).bind fun r35=>
  some (r1.1,r35.1.2.2.1,r1.2.2)
theorem y7I {p0:(Int×y2h)×(Int×y2h)×Int} {p1:Bool} {r:(AutT×AutT×List Int)} (hm:y3P p0 p1=some r):
  Fw Tryz.prog 16 ⟨0,[]⟩ [.a (lx30 p0),.b p1] [] (.g [lF qI r.1.1,lI r.1.2.1,lF qI r.1.2.2.1,lF qT r.1.2.2.2,lH 0,lI r.2.1.2.1,lH 1,lH 2,lH 3]) [ROW qI 3 r.2.1.1,ROW qI 3 r.2.1.2.2.1,ROW qT 124 r.2.1.2.2.2,ROW qI 3 r.2.2]:=by
 unfold y3P at hm
 refine Fw.mk' Tryz.func16 R Tryz.ntmps16 R R (fun C=>?_) R R
 refine .seq (.reg (.op (O.box 0 R Z R R R) R (.op (O.al 1 R zz37 R Z R) R (.nil (.seqN (.seq (.reg (.op (O.lg (l':=(lx30 p0)) ag30 Z R (.B R) R R R) R (bS hm fun r1 er1 hm=> .op (O.ca (r':= .tp [.a [lH 2,lI r1.1.2.1,lH 3,lH 4],.a [lH 5,lI r1.2.1.2.1,lH 6,lH 7],.h 8]) [2,3,4,5,6,7,8] [(0,ROW qI 3 r1.1.1),(1,ROW qI 3 r1.1.2.2.1),(2,ROW qT 124 r1.1.2.2.2),(3,ROW qI 3 r1.2.1.1),(4,ROW qI 3 r1.2.1.2.2.1),(5,ROW qT 124 r1.2.1.2.2.2),(6,ROW qI 3 r1.2.2)] (some 9) (y7H er1) cf72 R R Z R R R R ⟨⟨_,R,fun _ _ _ _ h=>h⟩,⟨_,R,fun _ _ _ _ h=>h⟩,⟨_,R,fun _ _ _ _ h=>h⟩,⟨_,R,fun _ _ _ _ h=>h⟩,⟨_,R,fun _ _ _ _ h=>h⟩,⟨_,R,fun _ _ _ _ h=>h⟩,⟨_,R,fun _ _ _ _ h=>h⟩,trivial⟩ (fun _ _ _ h=>h) R) R (.mv R (.op (O.ex Z R R R) R (.op (O.ex Z R R R) R (.op (O.ex Z R R R) R (.op (O.al 9 R zz35 R Z R) R (.op (O.al 10 R zz35 R Z R) R (.op (O.st ag35.sz Z R R R R R) R (.op (O.st ag35.sz Z R R R R R) R (.sa R (.nil (.seqN (.seq (.reg (.op (O.lg (l':=[lH 2,lI r1.1.2.1,lH 3,lH 4]) ag35 Z R (.B R) R R R) R (.op (O.lg (l':=[lH 5,lI r1.2.1.2.1,lH 6,lH 7]) ag35 Z R (.B R) R R R) R (.mv R (.op (O.bu (l:=[lH 2,lI r1.1.2.1,lH 3,lH 4,lH 5,lI r1.2.1.2.1,lH 6,lH 7,lH 8]) pl37 R Z R R R) R (.op (O.al 11 R zz37 R Z R) R (.op (O.st ag37.sz Z R R R R R) R (.nil (.seqN (.seq (.seq (.reg (.mv R (.op (O.not Z R R) R (.nil (.seqN ?_)))))))))))))))))))))))))))))))))))))
 rcases ifS hm with ⟨hc,hm⟩ | ⟨hc,hm⟩
 ·refine .cT R hc ?_
  refine .seq (.reg (.op (O.lg (l':=[lH 2,lI r1.1.2.1,lH 3,lH 4,lH 5,lI r1.2.1.2.1,lH 6,lH 7,lH 8]) ag37 Z R (.B R) R R R) R (.op (O.st ag37.sz Z R R R R R) R (.nil (.seqN (.ret (.seqR (.fz 2 [] [1,9,11] R R fR R R (.fz 3 [] [1,9,11] R R fR R R (.fz 4 [] [1,9,11] R R fR R R ?_))))))))))
  obtain rfl:=oi hm
  exact WX.rt [5,6,7,8] (.inl R) Tryz.results16 (.cell R R ag37 R .nil) R (fun _ _ _ h=>h) ⟨⟨_,R,fun _ _ _ _ h=>h⟩,⟨_,R,fun _ _ _ _ h=>h⟩,⟨_,R,fun _ _ _ _ h=>h⟩,⟨_,R,fun _ _ _ _ h=>h⟩,trivial⟩
 ·refine .cF R hc ?_
  refine .skip (.seqN (.seq (.reg (.op (O.lg (l':=[lH 2,lI r1.1.2.1,lH 3,lH 4]) ag35 Z R (.B R) R R R) R (.op (O.lg (l':=[lH 5,lI r1.2.1.2.1,lH 6,lH 7]) ag35 Z R (.B R) R R R) R (.fz 2 [32] [9,11] R R fR R R (.fz 3 [32] [9,11] R R fR R R (.fz 4 [32] [9,11] R R fR R R (.fz 5 [33] [10,11] R R fR R R (.fz 6 [33] [10,11] R R fR R R (.fz 7 [33] [10,11] R R fR R R (.op (O.bsF (r:=rE35) (zs:=([r1.1,r1.2.1]:List AutT)) bs66 R R Z R R R (.c (.p .l (.p .k (.p .l .l))) (.c (.p .l (.p .k (.p .l .l))) .n)) R R R) R (bS hm fun r2 er2 hm=> .op (O.ca (r':= .tp [.a [lH 12,lI r2.1.2.1,lH 13,lH 14],.h 15,.i r2.2.2]) [12,13,14,15] [(0,ROW qI 3 r2.1.1),(1,ROW qI 3 r2.1.2.2.1),(2,ROW qT 124 r2.1.2.2.2),(3,ROW (rL qI) 32 r2.2.1)] (some 16) (y4Q er2) cf32 R R Z R R R R ⟨⟨_,R,fun _ _ _ _ h=>h⟩,⟨_,R,fun _ _ _ _ h=>h⟩,⟨_,R,fun _ _ _ _ h=>h⟩,⟨_,R,fun _ _ _ _ h=>h⟩,trivial⟩ (fun _ _ _ h=>h) R) R (.mv R (.op (O.ex Z R R R) R (.op (O.ex Z R R R) R (.op (O.ex Z R R R) R (.op (O.al 16 R zz35 R Z R) R (.op (O.st ag35.sz Z R R R R R) R (.sa R (.sa R (.nil (.seqN (.seq (.reg (.sa R (.nil (.seqN (.seq (.seq (.reg (.sa R (.nil (.seqN (.block (bS hm fun o32 eo32 hm=>?_))))))))))))))))))))))))))))))))))))
  refine .cut1 (z:= .exit 0) o32 (fun (o32:List Int)=>⟨[(12,.h 0),(9,.q 1 0),(8,.q 5 0),(7,.h 6),(4,.q 7 0)],[(0,ROW qI 3 o32),(1,.bx 35 [lH 2,lI r2.1.2.1,lH 3,lH 4]),(2,ROW qI 3 r2.1.1),(3,ROW qI 3 r2.1.2.2.1),(4,ROW qT 124 r2.1.2.2.2),(5,.bx 37 [lF qI r1.1.1,lI r1.1.2.1,lF qI r1.1.2.2.1,lF qT r1.1.2.2.2,lF qI r1.2.1.1,lI r1.2.1.2.1,lF qI r1.2.1.2.2.1,lF qT r1.2.1.2.2.2,lH 6]),(6,ROW qI 3 r1.2.2),(7,.bx 37 [lN,lI 0,lN,lN,lN,lI 0,lN,lN,lN])],8⟩) ?_ fun K34=>?_
  ·skip
   refine .blkE (.seqN (.seq (.reg (.op (O.lg (l':=[lH 2,lI r2.1.2.1,lH 3,lH 4]) ag35 Z R (.B R) R R R) R (.mv R (.mv R (bS hm fun r35 er35 hm=> .op (O.caY (r':= .tp [.a [lH 8,lH 9,lH 10,lI r35.1.2.1,lH 11,lI r35.1.2.2.1.2.1,lH 12,lH 13,lH 14],.i r35.2]) [8,9,10,11,12,13,14] [(0,ROW qI 3 r35.1.1.1),(1,ROW qI 3 r35.1.1.2.1),(2,ROW rE286 286 r35.1.1.2.2),(3,ROW qI 3 r35.1.2.2.1.1),(4,ROW qI 3 r35.1.2.2.1.2.2.1),(5,ROW qT 124 r35.1.2.2.1.2.2.2),(6,ROW qI 3 r35.1.2.2.2)] (some 15) (y7p er35) cf74 R R Z R R ⟨⟨R,.hr R,.rf,.hr R,.hr R,trivial⟩,⟨R,.hr R,trivial⟩,⟨R,.hr R,trivial⟩,trivial⟩ R ⟨.row flr3,.row flr3,.row ycP,.row flr3,.row flr3,.row y5f,.row flr3,trivial⟩ (fun _ _ _ _ h=>h) ⟨⟨_,R,fun _ _ _ _ h=>h⟩,⟨_,R,fun _ _ _ _ h=>h⟩,⟨_,R,fun _ _ _ _ h=>h⟩,⟨_,R,fun _ _ _ _ h=>h⟩,⟨_,R,fun _ _ _ _ h=>h⟩,⟨_,R,fun _ _ _ _ h=>h⟩,⟨_,R,fun _ _ _ _ h=>h⟩,trivial⟩ (fun _ _ _ h=>h) R) R (.mv R (.op (O.ex Z R R R) R (.op (O.ex Z R R R) R (.op (O.al 15 R zz131 R Z R) R (.op (O.st ag131.sz Z R R R R R) R (.sa R (.nil (.seqN (.seq (.reg (.op (O.faP ybS Z R R) R (.op (O.lg (l':=[lH 11,lI r35.1.2.2.1.2.1,lH 12,lH 13]) ag35 Z R (.B R) R R R) R (.op (O.faP y6L Z R R) R (.op (O.st ag35.sz Z R R R R R) R (.nil (.seqN (.seq (.reg (.op (O.lg (l':=[lF qI r1.1.1,lI r1.1.2.1,lF qI r1.1.2.2.1,lF qT r1.1.2.2.2,lH 11,lI r35.1.2.2.1.2.1,lH 12,lH 13,lH 6]) ag37 Z R (.B R) R R R) R (.op (O.st ag37.sz Z R R R R R) R (.nil (.seqN (.ret ?_))))))))))))))))))))))))))))))
   obtain rfl:=oi hm
   exact WX.rt [11,12,13,6] (.inl R) Tryz.results16 (.cell R R ag37 R .nil) R (fun _ _ _ h=>h) ⟨⟨_,R,fun _ _ _ _ h=>h⟩,⟨_,R,fun _ _ _ _ h=>h⟩,⟨_,R,fun _ _ _ _ h=>h⟩,⟨_,R,fun _ _ _ _ h=>h⟩,trivial⟩
  refine .nlg qI 3 12 0 R R (.iter (fun (st32:Int×List Int)=>⟨[(13,.i st32.1),(12,.h 0),(10,.h 1),(9,.q 2 0),(8,.q 6 0),(7,.h 7),(5,.q 8 0),(4,.q 9 0)],[(0,ROW qI 3 st32.2),(1,ROW (rL qI) 32 r2.2.1),(2,.bx 35 [lH 3,lI r2.1.2.1,lH 4,lH 5]),(3,ROW qI 3 r2.1.1),(4,ROW qI 3 r2.1.2.2.1),(5,ROW qT 124 r2.1.2.2.2),(6,.bx 37 [lF qI r1.1.1,lI r1.1.2.1,lF qI r1.1.2.2.1,lF qT r1.1.2.2.2,lF qI r1.2.1.1,lI r1.2.1.2.1,lF qI r1.2.1.2.2.1,lF qT r1.2.1.2.2.2,lH 7]),(7,ROW qI 3 r1.2.2),(8,.bx 35 [lF qI r1.1.1,lI r1.1.2.1,lF qI r1.1.2.2.1,lF qT r1.1.2.2.2]),(9,.bx 37 [lN,lI 0,lN,lN,lN,lI 0,lN,lN,lN])],10⟩) eo32 [(0,17),(1,15),(2,16),(3,12),(4,13),(5,14),(6,11),(7,8),(8,9),(9,1)] R ?_)
  intro st32 res32 hm ih32 ho32
  unfold y1r at hm
  refine .seq (.seq (.reg (.mv R (.mv R (.op (O.lenH sl53 Z R R R) R (.bi R (.nil (.seqN ?_))))))))
  rcases ifS hm with ⟨hc,hm⟩ | ⟨hc,hm⟩
  ·refine .cT R hc ?_
   refine .skip (.seqN (.seq (.block (.seq (.reg (.mv R (.op (O.lenH sl32 Z R R R) R (.mv R (.nil (.seqN (.block (bS hm fun o48 eo48 hm=>?_))))))))))))
   refine .cut1 (z:= .exit 2) o48 (fun (o48:List Int)=>⟨[(12,.h 0),(13,.i st32.1),(10,.h 1),(9,.q 2 0),(8,.q 6 0),(7,.h 7),(5,.q 8 0),(4,.q 9 0)],[(0,ROW qI 3 o48),(1,ROW (rL qI) 32 r2.2.1),(2,.bx 35 [lH 3,lI r2.1.2.1,lH 4,lH 5]),(3,ROW qI 3 r2.1.1),(4,ROW qI 3 r2.1.2.2.1),(5,ROW qT 124 r2.1.2.2.2),(6,.bx 37 [lF qI r1.1.1,lI r1.1.2.1,lF qI r1.1.2.2.1,lF qT r1.1.2.2.2,lF qI r1.2.1.1,lI r1.2.1.2.1,lF qI r1.2.1.2.2.1,lF qT r1.2.1.2.2.2,lH 7]),(7,ROW qI 3 r1.2.2),(8,.bx 35 [lF qI r1.1.1,lI r1.1.2.1,lF qI r1.1.2.2.1,lF qT r1.1.2.2.2]),(9,.bx 37 [lN,lI 0,lN,lN,lN,lI 0,lN,lN,lN])],10⟩) ?_ fun K50=>?_
   ·skip
    exact .blkE (.blkN (.seqN (.reg (.mv R (.bi R (.sa R (.nil ((ih32 _ (oi hm).symm).sub [] R))))))))
   refine .iter (fun (st48:Int)=>⟨[(47,.i st48),(46,.i (r1.2.2.length:Int)),(45,.h 0),(13,.i st32.1),(12,.h 1),(10,.h 2),(9,.q 3 0),(8,.q 7 0),(7,.h 0),(5,.q 8 0),(4,.q 9 0)],[(0,ROW qI 3 r1.2.2),(1,ROW qI 3 st32.2),(2,ROW (rL qI) 32 r2.2.1),(3,.bx 35 [lH 4,lI r2.1.2.1,lH 5,lH 6]),(4,ROW qI 3 r2.1.1),(5,ROW qI 3 r2.1.2.2.1),(6,ROW qT 124 r2.1.2.2.2),(7,.bx 37 [lF qI r1.1.1,lI r1.1.2.1,lF qI r1.1.2.2.1,lF qT r1.1.2.2.2,lF qI r1.2.1.1,lI r1.2.1.2.1,lF qI r1.2.1.2.2.1,lF qT r1.2.1.2.2.2,lH 0]),(8,.bx 35 [lF qI r1.1.1,lI r1.1.2.1,lF qI r1.1.2.2.1,lF qT r1.1.2.2.2]),(9,.bx 37 [lN,lI 0,lN,lN,lN,lI 0,lN,lN,lN])],10⟩) eo48 [(0,7),(1,0),(2,1),(3,2),(4,3),(5,4),(6,5),(7,6)] R ?_
   intro st48 res48 hm ih48 ho48
   unfold y2f at hm
   refine .seq (.reg (.bi R (.nil (.seqN (.seq ?_)))))
   rcases ifS hm with ⟨hc,hm⟩ | ⟨hc,hm⟩
   ·refine .cT R hc ?_
    refine .skip (.seqN (.seq (.block (.seq (.reg (bS hm fun x51 ex51 hm=> .op (O.ir sl32 Z R R R ex51 R) R (.op (O.ld nag3 Z R (.R R ex51 lv3) R R) R (.sa R (.nil (.seqN ?_))))))))))
    refine .join1 (fun (b52:Bool)=>y1q st32 st48 b52=some res48) (fun b52=>⟨[(67,.b b52),(47,.i st48),(46,.i (r1.2.2.length:Int)),(45,.h 0),(13,.i st32.1),(12,.h 1),(10,.h 2),(9,.q 3 0),(8,.q 7 0),(7,.h 0),(5,.q 8 0),(4,.q 9 0)],[(0,ROW qI 3 r1.2.2),(1,ROW qI 3 st32.2),(2,ROW (rL qI) 32 r2.2.1),(3,.bx 35 [lH 4,lI r2.1.2.1,lH 5,lH 6]),(4,ROW qI 3 r2.1.1),(5,ROW qI 3 r2.1.2.2.1),(6,ROW qT 124 r2.1.2.2.2),(7,.bx 37 [lF qI r1.1.1,lI r1.1.2.1,lF qI r1.1.2.2.1,lF qT r1.1.2.2.2,lF qI r1.2.1.1,lI r1.2.1.2.1,lF qI r1.2.1.2.2.1,lF qT r1.2.1.2.2.2,lH 0]),(8,.bx 35 [lF qI r1.1.1,lI r1.1.2.1,lF qI r1.1.2.2.1,lF qT r1.1.2.2.2]),(9,.bx 37 [lN,lI 0,lN,lN,lN,lI 0,lN,lN,lN])],10⟩) ?_ ?_
    ·intro b52 hm
     unfold y1q at hm
     rcases ifS hm with ⟨hc,hm⟩ | ⟨hc,hm⟩
     ·refine .cT R hc ?_
      exact .seq (.reg (.mv R (.mv R (.op (O.bsF (r:=qI) (zs:=([st32.1]:List Int)) bs32 R R Z R R R (.c .k .n) R R R) R (bS hm fun x54 ex54 hm=> .op (O.ap 10 Tryz.underlying32 el3 R R Z R R (.fr R) ex54 R) R (.sa R (.nil (.seqN (.exit (.blkX R (.seqX (.seqX ((K50 _ (ho48 _ (oi hm).symm)).sub [(0,10),(1,2),(2,3),(3,4),(4,5),(5,6),(6,7),(7,0)] R)))))))))))))
     ·refine .cF R hc ?_
      exact .skip (.blkN (.seqN (.reg (.bi R (.mv R (.nil ((ih48 _ (oi hm).symm).sub [] R)))))))
    ·intro Jj53
     refine .sub (τ:=⟨[(15,.i x51),(47,.i st48),(46,.i (r1.2.2.length:Int)),(45,.h 0),(13,.i st32.1),(12,.h 1),(10,.h 2),(9,.q 3 0),(8,.q 7 0),(7,.h 0),(5,.q 8 0),(4,.q 9 0)],[(0,ROW qI 3 r1.2.2),(1,ROW qI 3 st32.2),(2,ROW (rL qI) 32 r2.2.1),(3,.bx 35 [lH 4,lI r2.1.2.1,lH 5,lH 6]),(4,ROW qI 3 r2.1.1),(5,ROW qI 3 r2.1.2.2.1),(6,ROW qT 124 r2.1.2.2.2),(7,.bx 37 [lF qI r1.1.1,lI r1.1.2.1,lF qI r1.1.2.2.1,lF qT r1.1.2.2.2,lF qI r1.2.1.1,lI r1.2.1.2.1,lF qI r1.2.1.2.2.1,lF qT r1.2.1.2.2.2,lH 0]),(8,.bx 35 [lF qI r1.1.1,lI r1.1.2.1,lF qI r1.1.2.2.1,lF qT r1.1.2.2.2]),(9,.bx 37 [lN,lI 0,lN,lN,lN,lI 0,lN,lN,lN])],10⟩) ?_ [] R
     refine bS hm fun x55 ex55 hm=>bS hm fun x56 ex56 hm=>bS hm fun r57 er57 hm=> .drP 10 [(10,[]),(10,[]),(10,[]),(10,[oF,oT,oT]),(10,fA 1 (tT 3)),(10,fA 1 (tT 4)),(10,fA 1 (tT 5)),(10,[]),(10,tT 8),(10,tT 9)] [_,_,_,_,_,_,_,_,_,_] ⟨O.lg (l':=[lF qI r1.1.1,lI r1.1.2.1,lF qI r1.1.2.2.1,lF qT r1.1.2.2.2]) ag35 Z R (.B R) R R R,O.mv Z R R,O.mv Z R R,O.ir sl53 Z R R R ex55 R,O.ld nag32 Z R (.R R ex55 lv32) R R,O.ix sl32 Z R R ex56 R,O.ld nag3 Z R (.E lv3) R R,O.mv Z R R,O.ca0 (y4k er57) cf73 R R Z R R R,O.bi Z R R R R,trivial⟩ fun hp58=>?_
     rcases ifS hm with ⟨hc59,hm⟩ | ⟨hc59,hm⟩
     ·skip
      exact bS hm fun r60 er60 hm=> .drF hp58 [(10,tT 10),(10,tT 11),(10,tT 11),(10,tT 11),(10,tT 14),(10,tT 15),(10,tT 16)] [_,_,_,_,_,_,_] ⟨[(67,.b (decide (r60 < 0))),(47,.i st48),(46,.i (r1.2.2.length:Int)),(45,.h 0),(13,.i st32.1),(12,.h 1),(10,.h 2),(9,.q 3 0),(8,.q 7 0),(7,.h 0),(5,.q 8 0),(4,.q 9 0)],[(0,ROW qI 3 r1.2.2),(1,ROW qI 3 st32.2),(2,ROW (rL qI) 32 r2.2.1),(3,.bx 35 [lH 4,lI r2.1.2.1,lH 5,lH 6]),(4,ROW qI 3 r2.1.1),(5,ROW qI 3 r2.1.2.2.1),(6,ROW qT 124 r2.1.2.2.2),(7,.bx 37 [lF qI r1.1.1,lI r1.1.2.1,lF qI r1.1.2.2.1,lF qT r1.1.2.2.2,lF qI r1.2.1.1,lI r1.2.1.2.1,lF qI r1.2.1.2.2.1,lF qT r1.2.1.2.2.2,lH 0]),(8,.bx 35 [lF qI r1.1.1,lI r1.1.2.1,lF qI r1.1.2.2.1,lF qT r1.1.2.2.2]),(9,.bx 37 [lN,lI 0,lN,lN,lN,lI 0,lN,lN,lN])],10⟩ ⟨O.kn (O.mv Z R R) hc59,O.lg (l':=[lH 4,lI r2.1.2.1,lH 5,lH 6]) ag35 (Gu.mk R R) R (.B R) R R R,O.mv (Gu.mk R R) R R,O.mv (Gu.mk R R) R R,O.caZ (y4k er60) cf73 R R (Gu.mk R R) R ⟨⟨R,.hr R,.rf,.hr R,.hr R,trivial⟩,⟨R,LnL.rf⟩,⟨R,LnL.rf⟩,trivial⟩ (fun _ _ _ _ _ h=>h) R,O.bi (Gu.mk R R) R R R R,O.pkT Z R R R R,trivial⟩ (by kernel_rfl) R ((Jj53 _ hm).sub [] R)
     ·skip
      exact .drF hp58 [(10,tT 10),(10,tT 11),(10,tT 11),(10,tT 11),(10,tT 14),(10,tT 15),(10,tT 16)] [_,_,_,_,_,_,_] ⟨[(67,.b false),(47,.i st48),(46,.i (r1.2.2.length:Int)),(45,.h 0),(13,.i st32.1),(12,.h 1),(10,.h 2),(9,.q 3 0),(8,.q 7 0),(7,.h 0),(5,.q 8 0),(4,.q 9 0)],[(0,ROW qI 3 r1.2.2),(1,ROW qI 3 st32.2),(2,ROW (rL qI) 32 r2.2.1),(3,.bx 35 [lH 4,lI r2.1.2.1,lH 5,lH 6]),(4,ROW qI 3 r2.1.1),(5,ROW qI 3 r2.1.2.2.1),(6,ROW qT 124 r2.1.2.2.2),(7,.bx 37 [lF qI r1.1.1,lI r1.1.2.1,lF qI r1.1.2.2.1,lF qT r1.1.2.2.2,lF qI r1.2.1.1,lI r1.2.1.2.1,lF qI r1.2.1.2.2.1,lF qT r1.2.1.2.2.2,lH 0]),(8,.bx 35 [lF qI r1.1.1,lI r1.1.2.1,lF qI r1.1.2.2.1,lF qT r1.1.2.2.2]),(9,.bx 37 [lN,lI 0,lN,lN,lN,lI 0,lN,lN,lN])],10⟩ ⟨O.kn (O.mv Z R R) hc59,O.skip R R R R,O.skip R R R R,O.skip R R R R,O.skip R R R R,O.skip R R R R,O.pkF Z R R R R,trivial⟩ (by kernel_rfl) R ((Jj53 _ hm).sub [] R)
   ·refine .cF R hc ?_
    exact .exit (.seqX (.seqX ((K50 _ (ho48 _ (oi hm).symm)).sub [(0,1),(1,2),(2,3),(3,4),(4,5),(5,6),(6,7),(7,0)] R)))
  ·refine .cF R hc ?_
   exact .exit (.seqX (.seqX ((K34 _ (ho32 _ (oi hm).symm)).sub [(1,2),(2,3),(3,4),(4,5),(5,6),(6,7),(7,9)] R)))
def y5l (p0:Int×List Int×List Int) (p1:Int×List Int×List Int):Option Bool:=
 (if (p0.1 == p1.1) then
  (y3g p0.2.1 p1.2.1).bind fun r8=>
  some r8
 else
  some false).bind fun b1=>
 (if b1 then
  (y3g p0.2.2 p1.2.2).bind fun r7=>
  some r7
 else
  some false).bind fun b4=>
 some b4
theorem y7J {p0:Int×List Int×List Int} {p1:Int×List Int×List Int} {r:Bool} (hm:y5l p0 p1=some r):
  Fw Tryz.prog 84 ⟨0,[]⟩ [.a [lI p0.1,lF qI p0.2.1,lF qI p0.2.2],.a [lI p1.1,lF qI p1.2.1,lF qI p1.2.2]] [] (.b r) []:=by
 unfold y5l at hm
 refine Fw.mk' Tryz.func84 R Tryz.ntmps84 R R (fun C=>?_) R R
 refine .seq (.reg (.op (O.box 0 R Z R R R) R (.op (O.box 1 R Z R R R) R (.sa R (.nil (.seqN (.seq (.reg (.op (O.faP y8a Z R R) R (.op (O.ld nag3 Z R (.B R) R R) R (.op (O.faP y8a Z R R) R (.op (O.ld nag3 Z R (.B R) R R) R (.bi R (.mv R (bS hm fun b1 eb1 hm=>?_)))))))))))))))
 refine .cut 6 (fun (v2:Bool)=>b1=v2) (fun v2=>⟨[(16,.b v2),(3,.q 1 0),(2,.q 0 0)],[(1,.bx 44 [lI p1.1,lF qI p1.2.1,lF qI p1.2.2]),(0,.bx 44 [lI p0.1,lF qI p0.2.1,lF qI p0.2.2])],2⟩) ?_ ?_
 ·rintro _ rfl
  refine .mv R (bS hm fun b4 eb4 hm=>?_)
  refine .cut 6 (fun (v5:Bool)=>b4=v5) (fun v5=>⟨[(23,.b v5)],[],2⟩) ?_ ?_
  ·rintro _ rfl
   refine .sa R (.nil (.seqN (.ret ?_)))
   obtain rfl:=oi hm
   exact WX.rt [] (.inl R) Tryz.results84 (.tmp R .nil) R (fun _ _ _ h=>h) trivial
  ·intro J6
   rcases ifS eb4 with ⟨hc,hm⟩ | ⟨hc,hm⟩
   ·refine .know (d:=17) R hc ?_
    exact .op (O.faP y4W (Gu.mk R R) R R) R (.op (O.ld nag32 (Gu.mk R R) R (.B R) R R) R (.op (O.faP y4W (Gu.mk R R) R R) R (.op (O.ld nag32 (Gu.mk R R) R (.B R) R R) R (bS hm fun r7 er7 hm=> .op (O.ca0 (y4K er7) cf29 R R (Gu.mk R R) R R R) R (.op (O.pkT Z R R R R) R ((J6 r7 (oi hm).symm).sub [] R))))))
   ·refine .know (d:=17) R hc ?_
    exact .sk R (.sk R (.sk R (.sk R (.sk R (.op (O.pkF Z R R R R) R ((J6 false (oi hm).symm).sub [] R))))))
 ·intro J3
  rcases ifS eb1 with ⟨hc,hm⟩ | ⟨hc,hm⟩
  ·refine .know (d:=10) R hc ?_
   exact .op (O.faP y6M (Gu.mk R R) R R) R (.op (O.ld nag32 (Gu.mk R R) R (.B R) R R) R (.op (O.faP y6M (Gu.mk R R) R R) R (.op (O.ld nag32 (Gu.mk R R) R (.B R) R R) R (bS hm fun r8 er8 hm=> .op (O.ca0 (y4K er8) cf29 R R (Gu.mk R R) R R R) R (.op (O.pkT Z R R R R) R ((J3 r8 (oi hm).symm).sub [] R))))))
  ·refine .know (d:=10) R hc ?_
   exact .sk R (.sk R (.sk R (.sk R (.sk R (.op (O.pkF Z R R R R) R ((J3 false (oi hm).symm).sub [] R))))))
def y4G (p0:Int×List Int×List Int):Option Bool:=
 (y5l p0 (0,([]:List Int),([]:List Int))).bind fun r1=>
 some r1
theorem y7K {p0:Int×List Int×List Int} {r:Bool} (hm:y4G p0=some r):
  Fw Tryz.prog 22 ⟨0,[]⟩ [.a [lI p0.1,lF qI p0.2.1,lF qI p0.2.2]] [] (.b r) []:=by
 unfold y4G at hm
 refine Fw.mk' Tryz.func22 R Tryz.ntmps22 R R (fun C=>?_) R R
 refine .seq (.reg (.op (O.box 0 R Z R R R) R (.sa R (.nil (.seqN (.seq (.reg (.op (O.lg (l':=[lI p0.1,lF qI p0.2.1,lF qI p0.2.2]) ag44 Z R (.B R) R R R) R (.op (O.bu (l:=[lI 0,lN,lN]) pl44 R Z R R R) R (bS hm fun r1 er1 hm=> .op (O.ca0c (y7J er1) cf84 R R Z R ⟨⟨R,.rf⟩,⟨R,(.c .rf (.c (.nf (r:=qI)) (.c (.nf (r:=qI)) .n)))⟩,trivial⟩ R R) R (.sa R (.nil (.seqN (.ret ?_))))))))))))))
 obtain rfl:=oi hm
 exact WX.rt [] (.inl R) Tryz.results22 (.tmp R .nil) R (fun _ _ _ h=>h) trivial
def y2n (b2:Bool):Option Bool:=
 some b2
def y5u (p0:(AutT×(List KeyT))×(AutT×(List KeyT))×(AutT×(List KeyT))×List (List Int)×List Int×List Int) (p1:Int) (p2:Int) (p3:Int):Option Bool:=
 (yS p0.2.2.1 p1 p2).bind fun r1=>
 if(r1 != (-1)) then
  (yS p0.2.2.1 p1 p3).bind fun r6=>
  if(r6 != (-1)) then
   (yS p0.2.2.1 r1 p3).bind fun r9=>
   if(r9 == (-1)) then
    (idx p0.2.2.2.1 r1).bind fun x12=>
    (idx x12 0).bind fun x13=>
    (yS p0.1 x13 p3).bind fun r14=>
    y2n (r14 != (-1))
   else
    y2n false
  else
   y2n false
 else
  y2n false
theorem y8e {p0:(AutT×(List KeyT))×(AutT×(List KeyT))×(AutT×(List KeyT))×List (List Int)×List Int×List Int} {p1:Int} {p2:Int} {p3:Int} {r:Bool} (hm:y5u p0 p1 p2 p3=some r):
  Fw Tryz.prog 90 ⟨0,[]⟩ [.o (lQ 155 (lx155 p0) 0),.i p1,.i p2,.i p3] [] (.b r) []:=by
 unfold y5u at hm
 refine Fw.mk' Tryz.func90 R Tryz.ntmps90 R R (fun C=>?_) R R
 refine .seq (.reg (.sa R (.nil (.seqN (.seq (.reg (.mv R (.op (O.nc .Q Z R R) R (.op (O.faQ y5q Z R R) R (.op (O.lg (l':=[lF qI p0.2.2.1.1.1,lI p0.2.2.1.1.2.1,lF qI p0.2.2.1.1.2.2.1,lF qT p0.2.2.1.1.2.2.2,lM kvP qI p0.2.2.1.2]) ag141 Z R .Q R R R) R (.mv R (.mv R (bS hm fun r1 er1 hm=> .op (O.ca0 (y1I er1) cf150 R R Z R R R) R (.sa R (.nil (.seqN ?_))))))))))))))))
 refine .join1 (fun (b2:Bool)=>y2n b2=some r) (fun b2=>⟨[(8,.b b2)],[],0⟩) ?_ ?_
 ·intro b2 hm
  unfold y2n at hm
  refine .ret ?_
  obtain rfl:=oi hm
  exact WX.rt [] (.inl R) Tryz.results90 (.tmp R .nil) R (fun _ _ _ h=>h) trivial
 ·intro Jj3
  refine .sub (τ:=⟨[(9,.i r1),(0,.o (lQ 155 (lx155 p0) 0)),(1,.i p1),(3,.i p3)],[],0⟩) ?_ [] R
  refine .drP 2 [(0,[]),(0,[oT])] [_,_] ⟨O.mv Z R R,O.bi Z R R R R,trivial⟩ fun hp4=>?_
  rcases ifS hm with ⟨hc5,hm⟩ | ⟨hc5,hm⟩
  ·skip
   refine bS hm fun r6 er6 hm=> .drX hp4 12 [(0,[oT,oT]),(0,tT 3),(0,tT 4),(0,tT 5),(0,tT 6),(0,tT 3),(0,tT 3),(0,tT 9),(0,tT 10),(0,tT 11)] [_,_,_,_,_,_,_,_,_,_] ⟨O.kn (O.mv Z R R) hc5,O.mv (Gu.mk R R) R R,O.nc .Q (Gu.mk R R) R R,O.faQ y5q (Gu.mk R R) R R,O.lg (l':=[lF qI p0.2.2.1.1.1,lI p0.2.2.1.1.2.1,lF qI p0.2.2.1.1.2.2.1,lF qT p0.2.2.1.1.2.2.2,lM kvP qI p0.2.2.1.2]) ag141 (Gu.mk R R) R .Q R R R,O.mv (Gu.mk R R) R R,O.mv (Gu.mk R R) R R,O.ca0 (y1I er6) cf150 R R (Gu.mk R R) R R R,O.bi (Gu.mk R R) R R R R,O.pkT Z R R R R,trivial⟩ (by kernel_rfl) fun hp7=>?_
   rcases ifS hm with ⟨hc8,hm⟩ | ⟨hc8,hm⟩
   ·skip
    refine bS hm fun r9 er9 hm=> .drX hp7 22 [(0,tT 12),(0,tT 13),(0,tT 14),(0,tT 15),(0,tT 16),(0,tT 13),(0,tT 13),(0,tT 19),(0,tT 20),(0,tT 21)] [_,_,_,_,_,_,_,_,_,_] ⟨O.kn (O.mv Z R R) hc8,O.mv (Gu.mk R R) R R,O.nc .Q (Gu.mk R R) R R,O.faQ y5q (Gu.mk R R) R R,O.lg (l':=[lF qI p0.2.2.1.1.1,lI p0.2.2.1.1.2.1,lF qI p0.2.2.1.1.2.2.1,lF qT p0.2.2.1.1.2.2.2,lM kvP qI p0.2.2.1.2]) ag141 (Gu.mk R R) R .Q R R R,O.mv (Gu.mk R R) R R,O.mv (Gu.mk R R) R R,O.ca0 (y1I er9) cf150 R R (Gu.mk R R) R R R,O.bi (Gu.mk R R) R R R R,O.pkT Z R R R R,trivial⟩ (by kernel_rfl) fun hp10=>?_
    rcases ifS hm with ⟨hc11,hm⟩ | ⟨hc11,hm⟩
    ·skip
     exact bS hm fun x12 ex12 hm=>bS hm fun x13 ex13 hm=>bS hm fun r14 er14 hm=> .drF hp10 [(0,tT 22),(0,tT 23),(0,tT 24),(0,tT 25),(0,tT 26),(0,tT 23),(0,tA 23 (fA 4 (tT 1))),(0,tA 23 (fA 4 (tT 2))),(0,tA 23 (fA 4 (tT 3))),(0,tT 23),(0,tA 23 (fA 4 (tT 5))),(0,tA 23 (fA 4 (tT 6))),(0,tA 23 (fA 4 (tT 7))),(0,tA 23 (fA 4 (tT 8))),(0,tT 23),(0,tT 37),(0,tT 38),(0,tT 39),(0,tT 40)] [_,_,_,_,_,_,_,_,_,_,_,_,_,_,_,_,_,_,_] ⟨[(8,.b (r14 != (-1)))],[],0⟩ ⟨O.kn (O.mv Z R R) hc11,O.mv (Gu.mk R R) R R,O.nc .Q (Gu.mk R R) R R,O.faQ yan (Gu.mk R R) R R,O.lg (l':=[lF qI p0.1.1.1,lI p0.1.1.2.1,lF qI p0.1.1.2.2.1,lF qT p0.1.1.2.2.2,lM kvP qI p0.1.2]) ag141 (Gu.mk R R) R .Q R R R,O.mv (Gu.mk R R) R R,O.nc .Q (Gu.mk R R) R R,O.faQ y9d (Gu.mk R R) R R,O.ld nag53 (Gu.mk R R) R .Q R R,O.mv (Gu.mk R R) R R,O.ix sl53 (Gu.mk R R) R R ex12 R,O.ld nag32 (Gu.mk R R) R (.E lv32) R R,O.ix sl32 (Gu.mk R R) R R ex13 R,O.ld nag3 (Gu.mk R R) R (.E lv3) R R,O.mv (Gu.mk R R) R R,O.ca0 (y1I er14) cf150 R R (Gu.mk R R) R R R,O.bi (Gu.mk R R) R R R R,O.pkT Z R R R R,O.as Z R R,trivial⟩ (by kernel_rfl) R ((Jj3 _ hm).sub [] R)
    ·skip
     exact .drF hp10 [(0,tT 22),(0,tT 23),(0,tT 24),(0,tT 25),(0,tT 26),(0,tT 23),(0,tA 23 (fA 4 (tT 1))),(0,tA 23 (fA 4 (tT 2))),(0,tA 23 (fA 4 (tT 3))),(0,tT 23),(0,tA 23 (fA 4 (tT 5))),(0,tA 23 (fA 4 (tT 6))),(0,tA 23 (fA 4 (tT 7))),(0,tA 23 (fA 4 (tT 8))),(0,tT 23),(0,tT 37),(0,tT 38),(0,tT 39),(0,tT 40)] [_,_,_,_,_,_,_,_,_,_,_,_,_,_,_,_,_,_,_] ⟨[(8,.b false)],[],0⟩ ⟨O.kn (O.mv Z R R) hc11,O.skip R R R R,O.skip R R R R,O.skip R R R R,O.skip R R R R,O.skip R R R R,O.skip R R R R,O.skip R R R R,O.skip R R R R,O.skip R R R R,O.skip R R R R,O.skip R R R R,O.skip R R R R,O.skip R R R R,O.skip R R R R,O.skip R R R R,O.skip R R R R,O.pkF Z R R R R,O.as Z R R,trivial⟩ (by kernel_rfl) R ((Jj3 _ hm).sub [] R)
   ·skip
    exact .drF hp7 [(0,tT 12),(0,tT 13),(0,tT 14),(0,tT 15),(0,tT 16),(0,tT 13),(0,tT 13),(0,tT 19),(0,tT 20),(0,tT 21),(0,tT 22),(0,tT 23),(0,tT 24),(0,tT 25),(0,tT 26),(0,tT 23),(0,tA 23 (fA 4 (tT 1))),(0,tA 23 (fA 4 (tT 2))),(0,tA 23 (fA 4 (tT 3))),(0,tT 23),(0,tA 23 (fA 4 (tT 5))),(0,tA 23 (fA 4 (tT 6))),(0,tA 23 (fA 4 (tT 7))),(0,tA 23 (fA 4 (tT 8))),(0,tT 23),(0,tT 37),(0,tT 38),(0,tT 39),(0,tT 40)] [_,_,_,_,_,_,_,_,_,_,_,_,_,_,_,_,_,_,_,_,_,_,_,_,_,_,_,_,_] ⟨[(8,.b false)],[],0⟩ ⟨O.kn (O.mv Z R R) hc8,O.skip R R R R,O.skip R R R R,O.skip R R R R,O.skip R R R R,O.skip R R R R,O.skip R R R R,O.skip R R R R,O.skip R R R R,O.pkF Z R R R R,O.mv Z R R,O.skip R R R R,O.skip R R R R,O.skip R R R R,O.skip R R R R,O.skip R R R R,O.skip R R R R,O.skip R R R R,O.skip R R R R,O.skip R R R R,O.skip R R R R,O.skip R R R R,O.skip R R R R,O.skip R R R R,O.skip R R R R,O.skip R R R R,O.skip R R R R,O.pkF Z R R R R,O.as Z R R,trivial⟩ (by kernel_rfl) R ((Jj3 _ hm).sub [] R)
  ·skip
   exact .drF hp4 [(0,[oT,oT]),(0,tT 3),(0,tT 4),(0,tT 5),(0,tT 6),(0,tT 3),(0,tT 3),(0,tT 9),(0,tT 10),(0,tT 11),(0,tT 12),(0,tT 13),(0,tT 14),(0,tT 15),(0,tT 16),(0,tT 13),(0,tT 13),(0,tT 19),(0,tT 20),(0,tT 21),(0,tT 22),(0,tT 23),(0,tT 24),(0,tT 25),(0,tT 26),(0,tT 23),(0,tA 23 (fA 4 (tT 1))),(0,tA 23 (fA 4 (tT 2))),(0,tA 23 (fA 4 (tT 3))),(0,tT 23),(0,tA 23 (fA 4 (tT 5))),(0,tA 23 (fA 4 (tT 6))),(0,tA 23 (fA 4 (tT 7))),(0,tA 23 (fA 4 (tT 8))),(0,tT 23),(0,tT 37),(0,tT 38),(0,tT 39),(0,tT 40)] [_,_,_,_,_,_,_,_,_,_,_,_,_,_,_,_,_,_,_,_,_,_,_,_,_,_,_,_,_,_,_,_,_,_,_,_,_,_,_] ⟨[(8,.b false)],[],0⟩ ⟨O.kn (O.mv Z R R) hc5,O.skip R R R R,O.skip R R R R,O.skip R R R R,O.skip R R R R,O.skip R R R R,O.skip R R R R,O.skip R R R R,O.skip R R R R,O.pkF Z R R R R,O.mv Z R R,O.skip R R R R,O.skip R R R R,O.skip R R R R,O.skip R R R R,O.skip R R R R,O.skip R R R R,O.skip R R R R,O.skip R R R R,O.pkF Z R R R R,O.mv Z R R,O.skip R R R R,O.skip R R R R,O.skip R R R R,O.skip R R R R,O.skip R R R R,O.skip R R R R,O.skip R R R R,O.skip R R R R,O.skip R R R R,O.skip R R R R,O.skip R R R R,O.skip R R R R,O.skip R R R R,O.skip R R R R,O.skip R R R R,O.skip R R R R,O.pkF Z R R R R,O.as Z R R,trivial⟩ (by kernel_rfl) R ((Jj3 _ hm).sub [] R)
def y3z (p0:AutT×(List KeyT)) (p1:List Int) (st7:Int×Int):Option ((Int×Int) ⊕ (Int ⊕ Unit)):=
 if decide (st7.1 < (p1.length:Int)) then
  (idx p1 st7.1).bind fun x13=>
  (yS p0 st7.2 x13).bind fun r14=>
  if(r14 == (-1)) then
   some (.inr (.inr (())))
  else
   some (.inl (W (st7.1 + 1),r14))
 else
  some (.inr (.inl st7.2))
def y2L (p0:AutT×(List KeyT)) (p1:List Int):Option Int:=
 if(p0.1.2.1 == 0) then
  some (-1)
 else
  (iter (y3z p0 p1) (0,0)).bind fun o7=>
  match o7 with
  | .inl u9=>
   some u9
  | .inr (u11)=>
   some (-1)
theorem y6s {p0:AutT×(List KeyT)} {p1:List Int} {r:Int} (hm:y2L p0 p1=some r):
  Fw Tryz.prog 91 ⟨0,[]⟩ [.a [lF qI p0.1.1,lI p0.1.2.1,lF qI p0.1.2.2.1,lF qT p0.1.2.2.2,lM kvP qI p0.2],.f qI p1] [] (.i r) []:=by
 unfold y2L at hm
 refine Fw.mk' Tryz.func91 R Tryz.ntmps91 R R (fun C=>?_) R R
 refine .seq (.reg (.op (O.box 0 R Z R R R) R (.sa R (.nil (.seqN (.seq (.seq (.reg (.op (O.faP y4S Z R R) R (.op (O.faP y2i Z R R) R (.op (O.ld nag3 Z R (.B R) R R) R (.bi R (.nil (.seqN ?_))))))))))))))
 rcases ifS hm with ⟨hc,hm⟩ | ⟨hc,hm⟩
 ·refine .cT R hc ?_
  refine .seq (.reg (.sa R (.nil (.seqN (.ret (.seqR ?_))))))
  obtain rfl:=oi hm
  exact WX.rt [] (.inl R) Tryz.results91 (.tmp R .nil) R (fun _ _ _ h=>h) trivial
 ·refine .cF R hc ?_
  refine .skip (.seqN (.seq (.reg (.sa R (.nil (.seqN (.seq (.seq (.reg (.mv R (.op (O.len sl32 Z R R) R (.mv R (.nil (.seqN (.block (bS hm fun o7 eo7 hm=>?_))))))))))))))))
  refine .cutU (z:= .exit 0) (fun u9=> .inl u9=o7) (fun (u9:Int)=>⟨[(5,.i u9)],[],0⟩) ?_ fun K10=>?_
  ·rintro u9 rfl
   dsimp only at hm
   refine .blkE (.seqN (.seq (.reg (.mv R (.sa R (.nil (.seqN (.ret ?_))))))))
   obtain rfl:=oi hm
   exact WX.rt [] (.inl R) Tryz.results91 (.tmp R .nil) R (fun _ _ _ h=>h) trivial
  refine .cutU (z:= .ret) (fun u11=> .inr (u11)=o7) (fun (u11:Unit)=>⟨[(4,.i (-1))],[],0⟩) ?_ fun K12=>?_
  ·rintro u11 rfl
   dsimp only at hm
   refine .blkR (.seqR ?_)
   obtain rfl:=oi hm
   exact WX.rt [] (.inl R) Tryz.results91 (.tmp R .nil) R (fun _ _ _ h=>h) trivial
  refine .iter (fun (st7:Int×Int)=>⟨[(14,.i st7.1),(13,.i (p1.length:Int)),(12,.f qI p1),(5,.i st7.2),(2,.q 0 0)],[(0,.bx 141 [lF qI p0.1.1,lI p0.1.2.1,lF qI p0.1.2.2.1,lF qT p0.1.2.2.2,lM kvP qI p0.2])],1⟩) eo7 [] R ?_
  intro st7 res7 hm ih7 ho7
  unfold y3z at hm
  refine .seq (.reg (.bi R (.nil (.seqN (.seq ?_)))))
  rcases ifS hm with ⟨hc,hm⟩ | ⟨hc,hm⟩
  ·refine .cT R hc ?_
   refine .skip (.seqN (.seq (.block (.seq (.reg (bS hm fun x13 ex13 hm=> .op (O.ix sl32 Z R R ex13 R) R (.op (O.ld nag3 Z R (.E lv3) R R) R (.sa R (.nil (.seqN (.seq (.reg (.op (O.lg (l':=[lF qI p0.1.1,lI p0.1.2.1,lF qI p0.1.2.2.1,lF qT p0.1.2.2.2,lM kvP qI p0.2]) ag141 Z R (.B R) R R R) R (.mv R (.mv R (bS hm fun r14 er14 hm=> .op (O.ca0 (y1I er14) cf150 R R Z R R R) R (.sa R (.nil (.seqN (.seq (.reg (.mv R (.bi R (.nil (.seqN ?_)))))))))))))))))))))))))
   rcases ifS hm with ⟨hc,hm⟩ | ⟨hc,hm⟩
   ·refine .cT R hc ?_
    exact .seq (.reg (.sa R (.nil (.seqN (.ret (.blkR (.seqR (.seqR ((K12 _ (ho7 _ (oi hm).symm)).sub [] R)))))))))
   ·refine .cF R hc ?_
    exact .skip (.blkN (.seqN (.reg (.bi R (.mv R (.nil ((ih7 _ (oi hm).symm).sub [] R)))))))
  ·refine .cF R hc ?_
   exact .exit (.seqX (.seqX ((K10 _ (ho7 _ (oi hm).symm)).sub [] R)))
def y2p (q0:List Int) (p0:List Int):Option Bool:=
 (y1Y p0 q0).bind fun r1=>
 some r1
theorem y8f {q0:List Int} {p0:List Int} {r:Bool} (hm:y2p q0 p0=some r):
  Fw Tryz.prog 155 ⟨0,[]⟩ [.f qI p0,.o (lQ 32 [lF qI q0] 0)] [] (.b r) []:=by
 unfold y2p at hm
 refine Fw.mk' Tryz.func155 R Tryz.ntmps155 R R (fun C=>?_) R R
 refine .seq (.reg (.sa R (.nil (.seqN (.seq (.reg (.mv R (.op (O.ld nag32 Z R .Q R R) R (bS hm fun r1 er1 hm=> .op (O.ca0 (y6r er1) cf82 R R Z R R R) R (.sa R (.nil (.seqN (.ret ?_)))))))))))))
 obtain rfl:=oi hm
 exact WX.rt [] (.inl R) Tryz.results155 (.tmp R .nil) R (fun _ _ _ h=>h) trivial
def y3Z (p0:List (List Int)) (p1:(List Int)→Option Bool) (st5:Int):Option (Int ⊕ (Unit ⊕ Int)):=
 if decide (st5 < (p0.length:Int)) then
  (idx p0 st5).bind fun x11=>
  (p1 x11).bind fun r12=>
  if r12 then
   some (.inr (.inr (st5)))
  else
   some (.inl (W (st5 + 1)))
 else
  some (.inr (.inl ()))
def y3l (p0:List (List Int)) (p1:(List Int)→Option Bool):Option Int:=
 (iter (y3Z p0 p1) 0).bind fun o5=>
 match o5 with
 | .inl u7=>
  some (-1)
 | .inr (u9)=>
  some u9
theorem y6B {p0:List (List Int)} {p1:(List Int)→Option Bool} {r:Int} (hm:y3l p0 p1=some r):
  Fw Tryz.prog 204 ⟨0,[]⟩ [.f (rL qI) p0,.o (lW Tryz.prog (fun (x:List Int)=> [.f qI x]) (fun (r:Bool)=> .b r) p1)] [] (.i r) []:=by
 unfold y3l at hm
 refine Fw.mk' Tryz.func204 R Tryz.ntmps204 R R (fun C=>?_) R R
 refine .seq (.reg (.sa R (.nil (.seqN (.seq (.seq (.reg (.mv R (.op (O.len sl53 Z R R) R (.mv R (.nil (.seqN (.block (bS hm fun o5 eo5 hm=>?_))))))))))))))
 refine .cutU (z:= .exit 0) (fun u7=> .inl u7=o5) (fun (u7:Unit)=>⟨[],[],0⟩) ?_ fun K8=>?_
 ·rintro u7 rfl
  dsimp only at hm
  refine .blkE (.seqN (.seq (.reg (.sa R (.nil (.seqN (.ret ?_)))))))
  obtain rfl:=oi hm
  exact WX.rt [] (.inl R) Tryz.results204 (.tmp R .nil) R (fun _ _ _ h=>h) trivial
 refine .cutU (z:= .ret) (fun u9=> .inr (u9)=o5) (fun (u9:Int)=>⟨[(4,.i u9)],[],0⟩) ?_ fun K10=>?_
 ·rintro u9 rfl
  dsimp only at hm
  refine .blkR (.seqR ?_)
  obtain rfl:=oi hm
  exact WX.rt [] (.inl R) Tryz.results204 (.tmp R .nil) R (fun _ _ _ h=>h) trivial
 refine .iter (fun (st5:Int)=>⟨[(8,.i st5),(7,.i (p0.length:Int)),(0,.f (rL qI) p0),(1,.o (lW Tryz.prog (fun (x:List Int)=> [.f qI x]) (fun (r:Bool)=> .b r) p1))],[],0⟩) eo5 [] R ?_
 intro st5 res5 hm ih5 ho5
 unfold y3Z at hm
 refine .seq (.reg (.bi R (.nil (.seqN (.seq ?_)))))
 rcases ifS hm with ⟨hc,hm⟩ | ⟨hc,hm⟩
 ·refine .cT R hc ?_
  refine .skip (.seqN (.seq (.block (.seq (.reg (.mv R (.sa R (.nil (.seqN (.seq (.reg (.mv R (.mv R (.mv R (bS hm fun x11 ex11 hm=> .op (O.ix sl53 Z R R ex11 R) R (.op (O.ld nag32 Z R (.E lv32) R R) R (bS hm fun r12 er12 hm=>?_)))))))))))))))))
  refine .op (O.fv (y:=x11) R R R Z R er12 R R) R ?_
  refine .nil (.seqN ?_)
  rcases ifS hm with ⟨hc,hm⟩ | ⟨hc,hm⟩
  ·refine .cT R hc ?_
   exact .seq (.reg (.mv R (.sa R (.nil (.seqN (.ret (.blkR (.seqR (.seqR ((K10 _ (ho5 _ (oi hm).symm)).sub [] R))))))))))
  ·refine .cF R hc ?_
   exact .skip (.blkN (.seqN (.reg (.bi R (.mv R (.nil ((ih5 _ (oi hm).symm).sub [] R)))))))
 ·refine .cF R hc ?_
  exact .exit (.seqX (.seqX ((K8 _ (ho5 _ (oi hm).symm)).sub [] R)))
def y2D (p0:List (List Int)) (p1:(List Int)→Option Bool):Option Bool:=
 (y3l p0 p1).bind fun r1=>
 some (decide (r1≥0))
theorem y6e {p0:List (List Int)} {p1:(List Int)→Option Bool} {r:Bool} (hm:y2D p0 p1=some r):
  Fw Tryz.prog 154 ⟨0,[]⟩ [.f (rL qI) p0,.o (lW Tryz.prog (fun (x:List Int)=> [.f qI x]) (fun (r:Bool)=> .b r) p1)] [] (.b r) []:=by
 unfold y2D at hm
 refine Fw.mk' Tryz.func154 R Tryz.ntmps154 R R (fun C=>?_) R R
 refine .seq (.reg (.sa R (.nil (.seqN (.seq (.reg (.mv R (.mv R (bS hm fun r1 er1 hm=> .op (O.ca0 (y6B er1) cf204 R R Z R R R) R (.bi R (.sa R (.nil (.seqN (.ret ?_))))))))))))))
 obtain rfl:=oi hm
 exact WX.rt [] (.inl R) Tryz.results154 (.tmp R .nil) R (fun _ _ _ h=>h) trivial
def y4z (p0:(AutT×(List KeyT))×(AutT×(List KeyT))×(AutT×(List KeyT))×List (List Int)×List Int×List Int) (p1:Int) (p2:List Int):Option Bool:=
 if((decide ((p2.length:Int) < 2)) || (decide ((p2.length:Int) > 3))) then
  some false
 else
  (y2G p0 p1 (p2.length:Int)).bind fun r3=>
  (y2D r3 (y2p p2)).bind fun r4=>
  some r4
theorem y8G {p0:(AutT×(List KeyT))×(AutT×(List KeyT))×(AutT×(List KeyT))×List (List Int)×List Int×List Int} {p1:Int} {p2:List Int} {r:Bool} (hm:y4z p0 p1 p2=some r):
  Fw Tryz.prog 92 ⟨0,[]⟩ [.o (lQ 155 (lx155 p0) 0),.i p1,.f qI p2] [] (.b r) []:=by
 unfold y4z at hm
 refine Fw.mk' Tryz.func92 R Tryz.ntmps92 R R (fun C=>?_) R R
 refine .seq (.reg (.op (O.box 0 R Z R R R) R (.sa R (.nil (.seqN (.seq (.seq (.reg (.op (O.ld nag32 Z R (.B R) R R) R (.op (O.len sl32 Z R R) R (.bi R (.mv R ?_))))))))))))
 refine .cut 4 (fun (v1:Bool)=>((decide ((p2.length:Int) < 2)) || (decide ((p2.length:Int) > 3)))=v1) (fun v1=>⟨[(14,.b v1),(5,.q 0 0),(0,.o (lQ 155 (lx155 p0) 0)),(1,.i p1)],[(0,.bx 32 [lF qI p2])],1⟩) ?_ ?_
 ·rintro _ rfl
  refine .nil (.seqN ?_)
  rcases ifS hm with ⟨hc,hm⟩ | ⟨hc,hm⟩
  ·refine .cT R hc ?_
   refine .seq (.reg (.sa R (.nil (.seqN (.ret (.seqR ?_))))))
   obtain rfl:=oi hm
   exact WX.rt [] (.inl R) Tryz.results92 (.tmp R .nil) R (fun _ _ _ h=>h) trivial
  ·refine .cF R hc ?_
   refine .skip (.seqN (.seq (.reg (.mv R (.mv R (.op (O.ld nag32 Z R (.B R) R R) R (.op (O.len sl32 Z R R) R (bS hm fun r3 er3 hm=> .op (O.ca (r':= .h 1) [1] [(0,ROW (rL qI) 32 r3)] (some 2) (y6m er3) cf109 R R Z R R R R ⟨⟨_,R,fun _ _ _ _ h=>h⟩,trivial⟩ (fun _ _ _ h=>h) R) R (.fz 0 [5] [] R R fB R R (.op (O.mf (args:=(fun (x:List Int)=> [.f qI x])) (res:=(fun (r:Bool)=> .b r)) (m:=(y2p p2)) cf155 (fun x r h=>y8f h) (fun _=>R) R Z R R) R (bS hm fun r4 er4 hm=> .op (O.caZ (y6e er4) cf154 R R Z R ⟨⟨R,.hr R,trivial⟩,⟨R,LnL.rf⟩,trivial⟩ (fun _ _ _ _ _ h=>h) R) R (.sa R (.nil (.seqN (.ret ?_)))))))))))))))
   obtain rfl:=oi hm
   exact WX.rt [] (.inl R) Tryz.results92 (.tmp R .nil) R (fun _ _ _ h=>h) trivial
 ·intro J2
  rcases Bool.eq_false_or_eq_true (decide ((p2.length:Int) < 2)) with hc | hc
  ·refine .know (d:=10) R hc ?_
   exact .sk R (.sk R (.sk R (.op (O.pkT Z R R R R) R ((J2 true (orT hc).symm).sub [] R))))
  ·refine .know (d:=10) R hc ?_
   exact .op (O.ld nag32 (Gu.mk R R) R (.B R) R R) R (.op (O.len sl32 (Gu.mk R R) R R) R (.op (O.bi (Gu.mk R R) R R R R) R (.op (O.pkF Z R R R R) R ((J2 (decide ((p2.length:Int) > 3)) (orF hc).symm).sub [] R))))
def y2g (b4:Bool):Option Int:=
 if(!b4) then
  some 24
 else
  some 0
def y5o (p0:AutT×AutT×List Int) (p1:List Int) (p2:Int×List Int×List Int):Option Int:=
 (y5r p0 p1).bind fun r1=>
 if(r1.2 != 0) then
  some r1.2
 else
  r1.1.bind fun x2=>
  (y2L x2.2.2.1 p2.2.1).bind fun r3=>
  if(p2.1 == 1) then
   (if (r3 != (-1)) then
    (y4z x2 r3 p2.2.2).bind fun r13=>
    some r13
   else
    some false).bind fun b6=>
   (if b6 then
    (y3d x2 r3 p2.2.2).bind fun r12=>
    some (!r12)
   else
    some false).bind fun b9=>
   y2g b9
  else
   if(p2.1 == 2) then
    if(r3 != (-1)) then
     if((p2.2.2.length:Int) == 2) then
      (idx p2.2.2 0).bind fun x18=>
      (yr x2.2.2.2.2.1 x18).bind fun r19=>
      if r19 then
       (idx p2.2.2 1).bind fun x22=>
       (yr x2.2.2.2.2.2 x22).bind fun r23=>
       if r23 then
        (idx p2.2.2 0).bind fun x26=>
        (idx p2.2.2 1).bind fun x27=>
        (y5u x2 r3 x26 x27).bind fun r28=>
        y2g r28
       else
        y2g false
      else
       y2g false
     else
      y2g false
    else
     y2g false
   else
    if(p2.1 == 3) then
     (y4j x2 p1).bind fun r29=>
     (y2L r29 p2.2.1).bind fun r30=>
     (if ((r30 != (-1)) && ((p2.2.2.length:Int) == 0)) then
      (y5e r29).bind fun r36=>
      (idx r36 r30).bind fun x37=>
      some (!x37)
     else
      some false).bind fun b33=>
     y2g b33
    else
     some 11
theorem ya2 {p0:AutT×AutT×List Int} {p1:List Int} {p2:Int×List Int×List Int} {r:Int} (hm:y5o p0 p1 p2=some r):
  Fw Tryz.prog 31 ⟨0,[]⟩ [.a [lF qI p0.1.1,lI p0.1.2.1,lF qI p0.1.2.2.1,lF qT p0.1.2.2.2,lF qI p0.2.1.1,lI p0.2.1.2.1,lF qI p0.2.1.2.2.1,lF qT p0.2.1.2.2.2,lF qI p0.2.2],.f qI p1,.a [lI p2.1,lF qI p2.2.1,lF qI p2.2.2]] [] (.i r) []:=by
 unfold y5o at hm
 refine Fw.mk' Tryz.func31 R Tryz.ntmps31 R R (fun C=>?_) R R
 refine .seq (.reg (.op (O.box 0 R Z R R R) R (.op (O.box 1 R Z R R R) R (.sa R (.nil (.seqN (.seq (.reg (.op (O.lg (l':=[lF qI p0.1.1,lI p0.1.2.1,lF qI p0.1.2.2.1,lF qT p0.1.2.2.2,lF qI p0.2.1.1,lI p0.2.1.2.1,lF qI p0.2.1.2.2.1,lF qT p0.2.1.2.2.2,lF qI p0.2.2]) ag37 Z R (.B R) R R R) R (.mv R (bS hm fun r1 er1 hm=> .op (O.ca0 (y8A er1) cf77 R R Z R R R) R (.mv R (.op (O.ex Z R R R) R (.op (O.ex Z R R R) R (.sa R (.sa R (.nil (.seqN (.seq (.seq (.reg (.mv R (.bi R (.nil (.seqN ?_)))))))))))))))))))))))))
 rcases ifS hm with ⟨hc,hm⟩ | ⟨hc,hm⟩
 ·refine .cT R hc ?_
  refine .seq (.reg (.mv R (.sa R (.nil (.seqN (.ret (.seqR ?_)))))))
  obtain rfl:=oi hm
  exact WX.rt [] (.inl R) Tryz.results31 (.tmp R .nil) R (fun _ _ _ h=>h) trivial
 ·refine .cF R hc ?_
  refine .skip (.seqN (.seq (bS hm fun x2 ex2 hm=> .cnt 7 R (.c (.pd ex2 lv155) .n) R (.cnt 17 R (.c (.pd ex2 lv155) .n) R ?_))))
  refine .sub (τ:=⟨[(7,.o (lQ 155 (lx155 x2) 0)),(5,.q 1 0),(1,.f qI p1)],[(1,.bx 44 [lI p2.1,lF qI p2.2.1,lF qI p2.2.2])],2⟩) ?_ [] R
  refine bS hm fun r3 er3 hm=>?_
  refine .drw [(2,[]),(2,[oT]),(2,[oT,oT]),(2,tT 3),(2,[]),(2,[oF,oF,oF,oF,oT]),(2,tT 6),(2,tT 7)] [_,_,_,_,_,_,_,_] ⟨[(9,.i r3),(7,.o (lQ 155 (lx155 x2) 0)),(5,.q 1 0),(1,.f qI p1)],[(1,.bx 44 [lI p2.1,lF qI p2.2.1,lF qI p2.2.2])],2⟩ ⟨O.mv Z R R,O.nc .Q Z R R,O.faQ y5q Z R R,O.lg (l':=[lF qI x2.2.2.1.1.1,lI x2.2.2.1.1.2.1,lF qI x2.2.2.1.1.2.2.1,lF qT x2.2.2.1.1.2.2.2,lM kvP qI x2.2.2.1.2]) ag141 Z R .Q R R R,O.faP y6M Z R R,O.ld nag32 Z R (.B R) R R,O.ca0 (y6s er3) cf91 R R Z R R R,O.as Z R R,trivial⟩ (by kernel_rfl) R ?_
  refine .seqN (.seq (.reg (.sa R (.nil (.seqN ?_)))))
  refine .join1 (fun (b4:Bool)=>y2g b4=some r) (fun b4=>⟨[(10,.b b4)],[],0⟩) ?_ ?_
  ·intro b4 hm
   unfold y2g at hm
   refine .seq (.seq (.reg (.mv R (.op (O.not Z R R) R (.nil (.seqN ?_))))))
   rcases ifS hm with ⟨hc,hm⟩ | ⟨hc,hm⟩
   ·refine .cT R hc ?_
    refine .seq (.reg (.sa R (.nil (.seqN (.ret (.seqR ?_))))))
    obtain rfl:=oi hm
    exact WX.rt [] (.inl R) Tryz.results31 (.tmp R .nil) R (fun _ _ _ h=>h) trivial
   ·refine .cF R hc ?_
    refine .skip (.seqN (.seq (.reg (.sa R (.nil (.seqN (.ret ?_)))))))
    obtain rfl:=oi hm
    exact WX.rt [] (.inl R) Tryz.results31 (.tmp R .nil) R (fun _ _ _ h=>h) trivial
  ·intro Jj5
   refine .seq (.reg (.op (O.faP y8a Z R R) R (.op (O.ld nag3 Z R (.B R) R R) R (.nil (.seqN (.block (.seq (.reg (.bi R (.sa R (.nil (.seqN ?_))))))))))))
   rcases ifS hm with ⟨hc,hm⟩ | ⟨hc,hm⟩
   ·refine .cT R hc ?_
    refine .reg (.mv R (.bi R (.mv R (bS hm fun b6 eb6 hm=>?_))))
    refine .cut 6 (fun (v7:Bool)=>b6=v7) (fun v7=>⟨[(41,.b v7),(9,.i r3),(7,.o (lQ 155 (lx155 x2) 0)),(5,.q 1 0)],[(1,.bx 44 [lI p2.1,lF qI p2.2.1,lF qI p2.2.2])],2⟩) ?_ ?_
    ·rintro _ rfl
     refine .mv R (bS hm fun b9 eb9 hm=>?_)
     refine .cut 7 (fun (v10:Bool)=>b9=v10) (fun v10=>⟨[(49,.b v10)],[],2⟩) ?_ ?_
     ·rintro _ rfl
      exact .sa R (.nil (.blkN ((Jj5 _ hm).sub [] R)))
     ·intro J11
      rcases ifS eb9 with ⟨hc,hm⟩ | ⟨hc,hm⟩
      ·refine .know (d:=42) R hc ?_
       exact .op (O.mv (Gu.mk R R) R R) R (.op (O.mv (Gu.mk R R) R R) R (.op (O.faP y4W (Gu.mk R R) R R) R (.op (O.ld nag32 (Gu.mk R R) R (.B R) R R) R (bS hm fun r12 er12 hm=> .op (O.ca0 (y6a er12) cf93 R R (Gu.mk R R) R R R) R (.op (O.not (Gu.mk R R) R R) R (.op (O.pkT Z R R R R) R ((J11 (!r12) (oi hm).symm).sub [] R)))))))
      ·refine .know (d:=42) R hc ?_
       exact .sk R (.sk R (.sk R (.sk R (.sk R (.sk R (.op (O.pkF Z R R R R) R ((J11 false (oi hm).symm).sub [] R)))))))
    ·intro J8
     rcases ifS eb6 with ⟨hc,hm⟩ | ⟨hc,hm⟩
     ·refine .know (d:=35) R hc ?_
      exact .op (O.mv (Gu.mk R R) R R) R (.op (O.mv (Gu.mk R R) R R) R (.op (O.faP y4W (Gu.mk R R) R R) R (.op (O.ld nag32 (Gu.mk R R) R (.B R) R R) R (bS hm fun r13 er13 hm=> .op (O.ca0 (y8G er13) cf92 R R (Gu.mk R R) R R R) R (.op (O.pkT Z R R R R) R ((J8 r13 (oi hm).symm).sub [] R))))))
     ·refine .know (d:=35) R hc ?_
      exact .sk R (.sk R (.sk R (.sk R (.sk R (.op (O.pkF Z R R R R) R ((J8 false (oi hm).symm).sub [] R))))))
   ·refine .cF R hc ?_
    refine .seq (.reg (.bi R (.sa R (.nil (.seqN ?_)))))
    rcases ifS hm with ⟨hc,hm⟩ | ⟨hc,hm⟩
    ·refine .cT R hc ?_
     refine .sub (τ:=⟨[(9,.i r3),(7,.o (lQ 155 (lx155 x2) 0)),(5,.q 1 0)],[(1,.bx 44 [lI p2.1,lF qI p2.2.1,lF qI p2.2.2])],2⟩) ?_ [] R
     refine .drP 2 [(2,[]),(2,[oT])] [_,_] ⟨O.mv Z R R,O.bi Z R R R R,trivial⟩ fun hp14=>?_
     rcases ifS hm with ⟨hc15,hm⟩ | ⟨hc15,hm⟩
     ·skip
      refine .drX hp14 8 [(2,[oT,oT]),(2,tT 3),(2,tT 4),(2,tT 5),(2,tT 6),(2,tT 7)] [_,_,_,_,_,_] ⟨O.kn (O.mv Z R R) hc15,O.faP y4W (Gu.mk R R) R R,O.ld nag32 (Gu.mk R R) R (.B R) R R,O.len sl32 (Gu.mk R R) R R,O.bi (Gu.mk R R) R R R R,O.pkT Z R R R R,trivial⟩ (by kernel_rfl) fun hp16=>?_
      rcases ifS hm with ⟨hc17,hm⟩ | ⟨hc17,hm⟩
      ·skip
       refine bS hm fun x18 ex18 hm=>bS hm fun r19 er19 hm=> .drX hp16 19 [(2,tT 8),(2,tT 9),(2,tT 10),(2,tT 11),(2,tT 12),(2,tT 9),(2,tA 9 (fA 4 (tT 1))),(2,tA 9 (fA 4 (tT 2))),(2,tA 9 (fA 4 (tT 3))),(2,tT 17),(2,tT 18)] [_,_,_,_,_,_,_,_,_,_,_] ⟨O.kn (O.mv Z R R) hc17,O.mv (Gu.mk R R) R R,O.nc .Q (Gu.mk R R) R R,O.faQ y9e (Gu.mk R R) R R,O.ld nag32 (Gu.mk R R) R .Q R R,O.faP y4W (Gu.mk R R) R R,O.ld nag32 (Gu.mk R R) R (.B R) R R,O.ix sl32 (Gu.mk R R) R R ex18 R,O.ld nag3 (Gu.mk R R) R (.E lv3) R R,O.ca0 (yR er19) cf94 R R (Gu.mk R R) R R R,O.pkT Z R R R R,trivial⟩ (by kernel_rfl) fun hp20=>?_
       rcases ifS hm with ⟨hc21,hm⟩ | ⟨hc21,hm⟩
       ·skip
        refine bS hm fun x22 ex22 hm=>bS hm fun r23 er23 hm=> .drX hp20 30 [(2,tT 19),(2,tT 20),(2,tT 21),(2,tT 22),(2,tT 23),(2,tT 20),(2,tA 20 (fA 4 (tT 1))),(2,tA 20 (fA 4 (tT 2))),(2,tA 20 (fA 4 (tT 3))),(2,tT 28),(2,tT 29)] [_,_,_,_,_,_,_,_,_,_,_] ⟨O.kn (O.mv Z R R) hc21,O.mv (Gu.mk R R) R R,O.nc .Q (Gu.mk R R) R R,O.faQ yel (Gu.mk R R) R R,O.ld nag32 (Gu.mk R R) R .Q R R,O.faP y4W (Gu.mk R R) R R,O.ld nag32 (Gu.mk R R) R (.B R) R R,O.ix sl32 (Gu.mk R R) R R ex22 R,O.ld nag3 (Gu.mk R R) R (.E lv3) R R,O.ca0 (yR er23) cf94 R R (Gu.mk R R) R R R,O.pkT Z R R R R,trivial⟩ (by kernel_rfl) fun hp24=>?_
        rcases ifS hm with ⟨hc25,hm⟩ | ⟨hc25,hm⟩
        ·skip
         exact bS hm fun x26 ex26 hm=>bS hm fun x27 ex27 hm=>bS hm fun r28 er28 hm=> .drF hp24 [(2,tT 30),(2,tT 31),(2,tT 31),(2,tT 31),(2,tA 31 (fA 2 (tT 1))),(2,tA 31 (fA 2 (tT 2))),(2,tA 31 (fA 2 (tT 3))),(2,tT 31),(2,tA 31 (fA 6 (tT 1))),(2,tA 31 (fA 6 (tT 2))),(2,tA 31 (fA 6 (tT 3))),(2,tT 41),(2,tT 42),(2,tT 43)] [_,_,_,_,_,_,_,_,_,_,_,_,_,_] ⟨[(10,.b r28)],[],2⟩ ⟨O.kn (O.mv Z R R) hc25,O.mv (Gu.mk R R) R R,O.mv (Gu.mk R R) R R,O.faP y4W (Gu.mk R R) R R,O.ld nag32 (Gu.mk R R) R (.B R) R R,O.ix sl32 (Gu.mk R R) R R ex26 R,O.ld nag3 (Gu.mk R R) R (.E lv3) R R,O.faP y4W (Gu.mk R R) R R,O.ld nag32 (Gu.mk R R) R (.B R) R R,O.ix sl32 (Gu.mk R R) R R ex27 R,O.ld nag3 (Gu.mk R R) R (.E lv3) R R,O.ca0 (y8e er28) cf90 R R (Gu.mk R R) R R R,O.pkT Z R R R R,O.as Z R R,trivial⟩ (by kernel_rfl) R (.blkN ((Jj5 _ hm).sub [] R))
        ·skip
         exact .drF hp24 [(2,tT 30),(2,tT 31),(2,tT 31),(2,tT 31),(2,tA 31 (fA 2 (tT 1))),(2,tA 31 (fA 2 (tT 2))),(2,tA 31 (fA 2 (tT 3))),(2,tT 31),(2,tA 31 (fA 6 (tT 1))),(2,tA 31 (fA 6 (tT 2))),(2,tA 31 (fA 6 (tT 3))),(2,tT 41),(2,tT 42),(2,tT 43)] [_,_,_,_,_,_,_,_,_,_,_,_,_,_] ⟨[(10,.b false)],[],2⟩ ⟨O.kn (O.mv Z R R) hc25,O.skip R R R R,O.skip R R R R,O.skip R R R R,O.skip R R R R,O.skip R R R R,O.skip R R R R,O.skip R R R R,O.skip R R R R,O.skip R R R R,O.skip R R R R,O.skip R R R R,O.pkF Z R R R R,O.as Z R R,trivial⟩ (by kernel_rfl) R (.blkN ((Jj5 _ hm).sub [] R))
       ·skip
        exact .drF hp20 [(2,tT 19),(2,tT 20),(2,tT 21),(2,tT 22),(2,tT 23),(2,tT 20),(2,tA 20 (fA 4 (tT 1))),(2,tA 20 (fA 4 (tT 2))),(2,tA 20 (fA 4 (tT 3))),(2,tT 28),(2,tT 29),(2,tT 30),(2,tT 31),(2,tT 31),(2,tT 31),(2,tA 31 (fA 2 (tT 1))),(2,tA 31 (fA 2 (tT 2))),(2,tA 31 (fA 2 (tT 3))),(2,tT 31),(2,tA 31 (fA 6 (tT 1))),(2,tA 31 (fA 6 (tT 2))),(2,tA 31 (fA 6 (tT 3))),(2,tT 41),(2,tT 42),(2,tT 43)] [_,_,_,_,_,_,_,_,_,_,_,_,_,_,_,_,_,_,_,_,_,_,_,_,_] ⟨[(10,.b false)],[],2⟩ ⟨O.kn (O.mv Z R R) hc21,O.skip R R R R,O.skip R R R R,O.skip R R R R,O.skip R R R R,O.skip R R R R,O.skip R R R R,O.skip R R R R,O.skip R R R R,O.skip R R R R,O.pkF Z R R R R,O.mv Z R R,O.skip R R R R,O.skip R R R R,O.skip R R R R,O.skip R R R R,O.skip R R R R,O.skip R R R R,O.skip R R R R,O.skip R R R R,O.skip R R R R,O.skip R R R R,O.skip R R R R,O.pkF Z R R R R,O.as Z R R,trivial⟩ (by kernel_rfl) R (.blkN ((Jj5 _ hm).sub [] R))
      ·skip
       exact .drF hp16 [(2,tT 8),(2,tT 9),(2,tT 10),(2,tT 11),(2,tT 12),(2,tT 9),(2,tA 9 (fA 4 (tT 1))),(2,tA 9 (fA 4 (tT 2))),(2,tA 9 (fA 4 (tT 3))),(2,tT 17),(2,tT 18),(2,tT 19),(2,tT 20),(2,tT 21),(2,tT 22),(2,tT 23),(2,tT 20),(2,tA 20 (fA 4 (tT 1))),(2,tA 20 (fA 4 (tT 2))),(2,tA 20 (fA 4 (tT 3))),(2,tT 28),(2,tT 29),(2,tT 30),(2,tT 31),(2,tT 31),(2,tT 31),(2,tA 31 (fA 2 (tT 1))),(2,tA 31 (fA 2 (tT 2))),(2,tA 31 (fA 2 (tT 3))),(2,tT 31),(2,tA 31 (fA 6 (tT 1))),(2,tA 31 (fA 6 (tT 2))),(2,tA 31 (fA 6 (tT 3))),(2,tT 41),(2,tT 42),(2,tT 43)] [_,_,_,_,_,_,_,_,_,_,_,_,_,_,_,_,_,_,_,_,_,_,_,_,_,_,_,_,_,_,_,_,_,_,_,_] ⟨[(10,.b false)],[],2⟩ ⟨O.kn (O.mv Z R R) hc17,O.skip R R R R,O.skip R R R R,O.skip R R R R,O.skip R R R R,O.skip R R R R,O.skip R R R R,O.skip R R R R,O.skip R R R R,O.skip R R R R,O.pkF Z R R R R,O.mv Z R R,O.skip R R R R,O.skip R R R R,O.skip R R R R,O.skip R R R R,O.skip R R R R,O.skip R R R R,O.skip R R R R,O.skip R R R R,O.skip R R R R,O.pkF Z R R R R,O.mv Z R R,O.skip R R R R,O.skip R R R R,O.skip R R R R,O.skip R R R R,O.skip R R R R,O.skip R R R R,O.skip R R R R,O.skip R R R R,O.skip R R R R,O.skip R R R R,O.skip R R R R,O.pkF Z R R R R,O.as Z R R,trivial⟩ (by kernel_rfl) R (.blkN ((Jj5 _ hm).sub [] R))
     ·skip
      exact .drF hp14 [(2,[oT,oT]),(2,tT 3),(2,tT 4),(2,tT 5),(2,tT 6),(2,tT 7),(2,tT 8),(2,tT 9),(2,tT 10),(2,tT 11),(2,tT 12),(2,tT 9),(2,tA 9 (fA 4 (tT 1))),(2,tA 9 (fA 4 (tT 2))),(2,tA 9 (fA 4 (tT 3))),(2,tT 17),(2,tT 18),(2,tT 19),(2,tT 20),(2,tT 21),(2,tT 22),(2,tT 23),(2,tT 20),(2,tA 20 (fA 4 (tT 1))),(2,tA 20 (fA 4 (tT 2))),(2,tA 20 (fA 4 (tT 3))),(2,tT 28),(2,tT 29),(2,tT 30),(2,tT 31),(2,tT 31),(2,tT 31),(2,tA 31 (fA 2 (tT 1))),(2,tA 31 (fA 2 (tT 2))),(2,tA 31 (fA 2 (tT 3))),(2,tT 31),(2,tA 31 (fA 6 (tT 1))),(2,tA 31 (fA 6 (tT 2))),(2,tA 31 (fA 6 (tT 3))),(2,tT 41),(2,tT 42),(2,tT 43)] [_,_,_,_,_,_,_,_,_,_,_,_,_,_,_,_,_,_,_,_,_,_,_,_,_,_,_,_,_,_,_,_,_,_,_,_,_,_,_,_,_,_] ⟨[(10,.b false)],[],2⟩ ⟨O.kn (O.mv Z R R) hc15,O.skip R R R R,O.skip R R R R,O.skip R R R R,O.skip R R R R,O.pkF Z R R R R,O.mv Z R R,O.skip R R R R,O.skip R R R R,O.skip R R R R,O.skip R R R R,O.skip R R R R,O.skip R R R R,O.skip R R R R,O.skip R R R R,O.skip R R R R,O.pkF Z R R R R,O.mv Z R R,O.skip R R R R,O.skip R R R R,O.skip R R R R,O.skip R R R R,O.skip R R R R,O.skip R R R R,O.skip R R R R,O.skip R R R R,O.skip R R R R,O.pkF Z R R R R,O.mv Z R R,O.skip R R R R,O.skip R R R R,O.skip R R R R,O.skip R R R R,O.skip R R R R,O.skip R R R R,O.skip R R R R,O.skip R R R R,O.skip R R R R,O.skip R R R R,O.skip R R R R,O.pkF Z R R R R,O.as Z R R,trivial⟩ (by kernel_rfl) R (.blkN ((Jj5 _ hm).sub [] R))
    ·refine .cF R hc ?_
     refine .seq (.reg (.bi R (.sa R (.nil (.seqN ?_)))))
     rcases ifS hm with ⟨hc,hm⟩ | ⟨hc,hm⟩
     ·refine .cT R hc ?_
      refine .seq (.reg (.mv R (.mv R (bS hm fun r29 er29 hm=> .op (O.ca0 (y5E er29) cf78 R R Z R R R) R (.op (O.al 2 R zz141 R Z R) R (.op (O.st ag141.sz Z R R R R R) R (.nil (.seqN (.seq (.reg (.op (O.lg (l':=[lF qI r29.1.1,lI r29.1.2.1,lF qI r29.1.2.2.1,lF qT r29.1.2.2.2,lM kvP qI r29.2]) ag141 Z R (.B R) R R R) R (.op (O.faP y6M Z R R) R (.op (O.ld nag32 Z R (.B R) R R) R (bS hm fun r30 er30 hm=> .op (O.ca0 (y6s er30) cf91 R R Z R R R) R (.sa R (.nil (.seqN (.reg (.mv R (.bi R (.mv R ?_)))))))))))))))))))))
      refine .cut 5 (fun (v31:Bool)=>((r30 != (-1)) && ((p2.2.2.length:Int) == 0))=v31) (fun v31=>⟨[(111,.b v31),(12,.i r30),(11,.q 2 0)],[(2,.bx 141 [lF qI r29.1.1,lI r29.1.2.1,lF qI r29.1.2.2.1,lF qT r29.1.2.2.2,lM kvP qI r29.2])],3⟩) ?_ ?_
      ·rintro _ rfl
       refine .mv R (bS hm fun b33 eb33 hm=>?_)
       refine .cut 7 (fun (v34:Bool)=>b33=v34) (fun v34=>⟨[(119,.b v34)],[],4⟩) ?_ ?_
       ·rintro _ rfl
        exact .sa R (.nil (.blkN ((Jj5 _ hm).sub [] R)))
       ·intro J35
        rcases ifS eb33 with ⟨hc,hm⟩ | ⟨hc,hm⟩
        ·refine .know (d:=112) R hc ?_
         exact .op (O.lg (l':=[lF qI r29.1.1,lI r29.1.2.1,lF qI r29.1.2.2.1,lF qT r29.1.2.2.2,lM kvP qI r29.2]) ag141 (Gu.mk R R) R (.B R) R R R) R (bS hm fun r36 er36 hm=> .op (O.ca (r':= .h 3) [3] [(0,ROW rB 4 r36)] (some 4) (y6w er36) cf80 R R (Gu.mk R R) R R R R ⟨⟨_,R,fun _ _ _ _ h=>h⟩,trivial⟩ (fun _ _ _ h=>h) R) R (.op (O.mv (Gu.mk R R) R R) R (bS hm fun x37 ex37 hm=> .op (O.ir sl144 (Gu.mk R R) R R R ex37 R) R (.op (O.ld nag4 (Gu.mk R R) R (.R R ex37 lv4) R R) R (.op (O.not (Gu.mk R R) R R) R (.op (O.pkT Z R R R R) R ((J35 (!x37) (oi hm).symm).sub [] R)))))))
        ·refine .know (d:=112) R hc ?_
         exact .sk R (.sk R (.sk R (.sk R (.sk R (.sk R (.op (O.pkF Z R R R R) R ((J35 false (oi hm).symm).sub [] R)))))))
      ·intro J32
       rcases Bool.eq_false_or_eq_true (r30 != (-1)) with hc | hc
       ·refine .know (d:=106) R hc ?_
        exact .op (O.faP y4W (Gu.mk R R) R R) R (.op (O.ld nag32 (Gu.mk R R) R (.B R) R R) R (.op (O.len sl32 (Gu.mk R R) R R) R (.op (O.bi (Gu.mk R R) R R R R) R (.op (O.pkT Z R R R R) R ((J32 ((p2.2.2.length:Int) == 0) (andT hc).symm).sub [] R)))))
       ·refine .know (d:=106) R hc ?_
        exact .sk R (.sk R (.sk R (.sk R (.op (O.pkF Z R R R R) R ((J32 false (andF hc).symm).sub [] R)))))
     ·refine .cF R hc ?_
      refine .seq (.reg (.sa R (.nil (.seqN (.ret (.blkR (.seqR ?_)))))))
      obtain rfl:=oi hm
      exact WX.rt [] (.inl R) Tryz.results31 (.tmp R .nil) R (fun _ _ _ h=>h) trivial
def y3i (p0:List Int) (p1:Int) (st4:Int):Option (Int ⊕ (Unit ⊕ Unit)):=
 if decide (st4 < (p0.length:Int)) then
  (idx p0 st4).bind fun x9=>
  if(x9 == p1) then
   some (.inr (.inr (())))
  else
   some (.inl (W (st4 + 1)))
 else
  some (.inr (.inl ()))
def y2q (p0:List Int) (p1:Int):Option Bool:=
 (iter (y3i p0 p1) 0).bind fun o4=>
 match o4 with
 | .inl u5=>
  some false
 | .inr (u7)=>
  some true
theorem y5i {p0:List Int} {p1:Int} {r:Bool} (hm:y2q p0 p1=some r):
  Fw Tryz.prog 44 ⟨0,[]⟩ [.f qI p0,.i p1] [] (.b r) []:=by
 unfold y2q at hm
 refine Fw.mk' Tryz.func44 R Tryz.ntmps44 R R (fun C=>?_) R R
 refine .seq (.reg (.sa R (.nil (.seqN (.seq (.seq (.reg (.sa R (.nil (.seqN (.block (bS hm fun o4 eo4 hm=>?_))))))))))))
 refine .cutU (z:= .exit 0) (fun u5=> .inl u5=o4) (fun (u5:Unit)=>⟨[],[],0⟩) ?_ fun K6=>?_
 ·rintro u5 rfl
  dsimp only at hm
  refine .blkE (.seqN (.seq (.reg (.sa R (.nil (.seqN (.ret ?_)))))))
  obtain rfl:=oi hm
  exact WX.rt [] (.inl R) Tryz.results44 (.tmp R .nil) R (fun _ _ _ h=>h) trivial
 refine .cutU (z:= .ret) (fun u7=> .inr (u7)=o4) (fun (u7:Unit)=>⟨[(4,.b true)],[],0⟩) ?_ fun K8=>?_
 ·rintro u7 rfl
  dsimp only at hm
  refine .blkR (.seqR ?_)
  obtain rfl:=oi hm
  exact WX.rt [] (.inl R) Tryz.results44 (.tmp R .nil) R (fun _ _ _ h=>h) trivial
 refine .iter (fun (st4:Int)=>⟨[(5,.i st4),(0,.f qI p0),(1,.i p1)],[],0⟩) eo4 [] R ?_
 intro st4 res4 hm ih4 ho4
 unfold y3i at hm
 refine .seq (.seq (.reg (.mv R (.mv R (.op (O.len sl32 Z R R) R (.bi R (.nil (.seqN ?_))))))))
 rcases ifS hm with ⟨hc,hm⟩ | ⟨hc,hm⟩
 ·refine .cT R hc ?_
  refine .skip (.seqN (.seq (.block (.seq (.reg (.mv R (.mv R (bS hm fun x9 ex9 hm=> .op (O.ix sl32 Z R R ex9 R) R (.op (O.ld nag3 Z R (.E lv3) R R) R (.mv R (.bi R (.nil (.seqN ?_)))))))))))))
  rcases ifS hm with ⟨hc,hm⟩ | ⟨hc,hm⟩
  ·refine .cT R hc ?_
   exact .seq (.reg (.sa R (.nil (.seqN (.ret (.blkR (.seqR (.seqR ((K8 _ (ho4 _ (oi hm).symm)).sub [] R)))))))))
  ·refine .cF R hc ?_
   exact .skip (.blkN (.seqN (.reg (.mv R (.bi R (.sa R (.nil ((ih4 _ (oi hm).symm).sub [] R))))))))
 ·refine .cF R hc ?_
  exact .exit (.seqX (.seqX ((K6 _ (ho4 _ (oi hm).symm)).sub [] R)))
def yg (p0:List (Int×Int×Int)) (p1:Int) (p2:(Int×Int×Int)→Int→Option Int) (st7:Int×Int):Option ((Int×Int) ⊕ Int):=
 if decide (st7.2 < st7.1) then
  (idx p0 (W ((IntKind.u64.wrap (W (st7.2 + st7.1))).fdiv (2 ^ (min (1:Int).toNat 64))))).bind fun x15=>
  (p2 x15 p1).bind fun r16=>
  if decide (r16 < 0) then
   some (.inl (st7.1,W ((W ((IntKind.u64.wrap (W (st7.2 + st7.1))).fdiv (2 ^ (min (1:Int).toNat 64)))) + 1)))
  else
   some (.inl (W ((IntKind.u64.wrap (W (st7.2 + st7.1))).fdiv (2 ^ (min (1:Int).toNat 64))),st7.2))
 else
  some (.inr st7.2)
def ye (p0:List (Int×Int×Int)) (p1:Int) (p2:(Int×Int×Int)→Int→Option Int):Option (Int×Bool):=
 (iter (yg p0 p1 p2) ((p0.length:Int),0)).bind fun o7=>
 (if decide (o7 < (p0.length:Int)) then
  (idx p0 o7).bind fun x13=>
  (p2 x13 p1).bind fun r14=>
  some (r14 == 0)
 else
  some false).bind fun b10=>
 some (o7,b10)
theorem y2C {p0:List (Int×Int×Int)} {p1:Int} {p2:(Int×Int×Int)→Int→Option Int} {r:Int×Bool} (hm:ye p0 p1 p2=some r):
  Fw Tryz.prog 166 ⟨0,[]⟩ [.f qT p0,.i p1,.o (lW Tryz.prog (fun (x:(Int×Int×Int)×Int)=> [.a [lI x.1.1,lI x.1.2.1,lI x.1.2.2],.i x.2]) (fun (r:Int)=> .i r) (fun x=>p2 x.1 x.2))] [] (.tp [.i r.1,.b r.2]) []:=by
 unfold ye at hm
 refine Fw.mk' Tryz.func166 R Tryz.ntmps166 R R (fun C=>?_) R R
 refine .seq (.reg (.sa R (.sa R (.nil (.seqN (.seq (.reg (.mv R (.op (O.len sl33 Z R R) R (.sa R (.nil (.seqN (.seq (.reg (.mv R (.sa R (.sa R (.nil (.seqN (.seq (.block (bS hm fun o7 eo7 hm=>?_))))))))))))))))))))))
 refine .cut1 (z:= .exit 0) o7 (fun (o7:Int)=>⟨[(9,.i o7),(8,.i (p0.length:Int)),(0,.f qT p0),(1,.i p1),(2,.o (lW Tryz.prog (fun (x:(Int×Int×Int)×Int)=> [.a [lI x.1.1,lI x.1.2.1,lI x.1.2.2],.i x.2]) (fun (r:Int)=> .i r) (fun x=>p2 x.1 x.2)))],[],0⟩) ?_ fun K9=>?_
 ·skip
  refine .blkE (.seqN (.seq (.reg (.mv R (.mv R (.mv R (.bi R (.mv R (bS hm fun b10 eb10 hm=>?_)))))))))
  refine .cut 9 (fun (v11:Bool)=>b10=v11) (fun v11=>⟨[(48,.b v11),(35,.i o7)],[],0⟩) ?_ ?_
  ·rintro _ rfl
   refine .sa R (.sa R (.nil (.seqN (.ret ?_))))
   obtain rfl:=oi hm
   exact WX.rt [] (.inl R) Tryz.results166 (.tmp R (.tmp R .nil)) R (fun _ _ _ h=>h) trivial
  ·intro J12
   rcases ifS eb10 with ⟨hc,hm⟩ | ⟨hc,hm⟩
   ·refine .know (d:=39) R hc ?_
    refine .op (O.mv (Gu.mk R R) R R) R (.op (O.mv (Gu.mk R R) R R) R (.op (O.mv (Gu.mk R R) R R) R (bS hm fun x13 ex13 hm=> .op (O.ix sl33 (Gu.mk R R) R R ex13 R) R (.op (O.lg (l':=[lI x13.1,lI x13.2.1,lI x13.2.2]) ag124 (Gu.mk R R) R (.E lv124) R R R) R (.op (O.mv (Gu.mk R R) R R) R (bS hm fun r14 er14 hm=>?_))))))
    refine .op (O.fv (y:=(x13,p1)) R R R (Gu.mk R R) R er14 R R) R ?_
    exact .op (O.bi (Gu.mk R R) R R R R) R (.op (O.pkT Z R R R R) R ((J12 (r14 == 0) (oi hm).symm).sub [] R))
   ·refine .know (d:=39) R hc ?_
    exact .sk R (.sk R (.sk R (.sk R (.sk R (.sk R (.sk R (.sk R (.op (O.pkF Z R R R R) R ((J12 false (oi hm).symm).sub [] R)))))))))
 refine .iter (fun (st7:Int×Int)=>⟨[(10,.i st7.1),(9,.i st7.2),(8,.i (p0.length:Int)),(0,.f qT p0),(1,.i p1),(2,.o (lW Tryz.prog (fun (x:(Int×Int×Int)×Int)=> [.a [lI x.1.1,lI x.1.2.1,lI x.1.2.2],.i x.2]) (fun (r:Int)=> .i r) (fun x=>p2 x.1 x.2)))],[],0⟩) eo7 [] R ?_
 intro st7 res7 hm ih7 ho7
 unfold yg at hm
 refine .seq (.seq (.reg (.mv R (.mv R (.bi R (.nil (.seqN ?_)))))))
 rcases ifS hm with ⟨hc,hm⟩ | ⟨hc,hm⟩
 ·refine .cT R hc ?_
  refine .skip (.seqN (.block (.seq (.reg (.mv R (.mv R (.bi R (.op (O.cv Tryz.underlying3 Tryz.underlying295 Z R R) R (.op (O.shr Z R R (by decide) R) R (.op (O.cv Tryz.underlying295 Tryz.underlying3 Z R R) R (.sa R (.nil (.seqN (.seq (.reg (.mv R (.mv R (.mv R (bS hm fun x15 ex15 hm=> .op (O.ix sl33 Z R R ex15 R) R (.op (O.lg (l':=[lI x15.1,lI x15.2.1,lI x15.2.2]) ag124 Z R (.E lv124) R R R) R (.mv R (bS hm fun r16 er16 hm=>?_))))))))))))))))))))))
  refine .op (O.fv (y:=(x15,p1)) R R R Z R er16 R R) R ?_
  refine .bi R (.nil (.seqN ?_))
  rcases ifS hm with ⟨hc,hm⟩ | ⟨hc,hm⟩
  ·refine .cT R hc ?_
   exact .reg (.mv R (.bi R (.sa R (.nil (.blkN ((ih7 _ (oi hm).symm).sub [] R))))))
  ·refine .cF R hc ?_
   exact .reg (.mv R (.sa R (.nil (.blkN ((ih7 _ (oi hm).symm).sub [] R)))))
 ·refine .cF R hc ?_
  exact .exit (.seqX (.seqX ((K9 _ (ho7 _ (oi hm).symm)).sub [] R)))
def y4A (p0:Int×Int×Int) (p1:Int):Option Int:=
 some (W (p0.1 - p1))
theorem y8H {p0:Int×Int×Int} {p1:Int} {r:Int} (hm:y4A p0 p1=some r):
  Fw Tryz.prog 167 ⟨0,[]⟩ [.a [lI p0.1,lI p0.2.1,lI p0.2.2],.i p1] [] (.i r) []:=by
 unfold y4A at hm
 refine Fw.mk' Tryz.func167 R Tryz.ntmps167 R R (fun C=>?_) R R
 refine .seq (.reg (.op (O.box 0 R Z R R R) R (.sa R (.nil (.seqN (.seq (.reg (.op (O.faP y2k Z R R) R (.op (O.ld nag3 Z R (.B R) R R) R (.mv R (.bi R (.sa R (.nil (.seqN (.ret ?_)))))))))))))))
 obtain rfl:=oi hm
 exact WX.rt [] (.inl R) Tryz.results167 (.tmp R .nil) R (fun _ _ _ h=>h) trivial
def y4B (p0:Int×Int×Int) (p1:Int):Option Int:=
 some (W (p0.1 - p1))
theorem y8I {p0:Int×Int×Int} {p1:Int} {r:Int} (hm:y4B p0 p1=some r):
  Fw Tryz.prog 168 ⟨0,[]⟩ [.a [lI p0.1,lI p0.2.1,lI p0.2.2],.i p1] [] (.i r) []:=by
 unfold y4B at hm
 refine Fw.mk' Tryz.func168 R Tryz.ntmps168 R R (fun C=>?_) R R
 refine .seq (.reg (.op (O.box 0 R Z R R R) R (.sa R (.nil (.seqN (.seq (.reg (.op (O.faP y2k Z R R) R (.op (O.ld nag3 Z R (.B R) R R) R (.mv R (.bi R (.sa R (.nil (.seqN (.ret ?_)))))))))))))))
 obtain rfl:=oi hm
 exact WX.rt [] (.inl R) Tryz.results168 (.tmp R .nil) R (fun _ _ _ h=>h) trivial
def y3Q (p0:AutT) (p1:Int):Option EdgL:=
 (ye p0.2.2.2 p1 y4A).bind fun r1=>
 (ye p0.2.2.2 (W (p1 + 1)) y4B).bind fun r2=>
 (slc p0.2.2.2 r1.1 r2.1).bind fun x3=>
 some x3
theorem y7a {p0:AutT} {p1:Int} {r:EdgL} (hm:y3Q p0 p1=some r):
  Fw Tryz.prog 102 ⟨0,[]⟩ [.a [lF qI p0.1,lI p0.2.1,lF qI p0.2.2.1,lF qT p0.2.2.2],.i p1] [] (.f qT r) []:=by
 unfold y3Q at hm
 refine Fw.mk' Tryz.func102 R Tryz.ntmps102 R R (fun C=>?_) R R
 refine .seq (.reg (.op (O.box 0 R Z R R R) R (.sa R (.nil (.seqN (.seq (.reg (.op (O.faP y1c Z R R) R (.op (O.ld nag33 Z R (.B R) R R) R (.mv R (bS hm fun r1 er1 hm=> .op (O.ca0c (y2C er1) cf166 R R Z R ⟨⟨R,.rf⟩,⟨R,.rf⟩,⟨R,(.c (.fn cf167 (fun x r h=>y8H h) (fun _=>R)) .n)⟩,trivial⟩ R R) R (.mv R (.op (O.ex Z R R R) R (.op (O.ex Z R R R) R (.sa R (.sa R (.nil (.seqN (.seq (.reg (.op (O.faP y1c Z R R) R (.op (O.ld nag33 Z R (.B R) R R) R (.mv R (.bi R (bS hm fun r2 er2 hm=> .op (O.ca0c (y2C er2) cf166 R R Z R ⟨⟨R,.rf⟩,⟨R,.rf⟩,⟨R,(.c (.fn cf168 (fun x r h=>y8I h) (fun _=>R)) .n)⟩,trivial⟩ R R) R (.mv R (.op (O.ex Z R R R) R (.op (O.ex Z R R R) R (.sa R (.sa R (.nil (.seqN (.seq (.reg (.op (O.faP y1c Z R R) R (.op (O.ld nag33 Z R (.B R) R R) R (.mv R ?_)))))))))))))))))))))))))))))))))))))
 refine .mv R (bS hm fun x3 ex3 hm=> .op (O.sl sl33 Z R R R ex3 R) R (.sa R (.nil (.seqN (.ret ?_)))))
 obtain rfl:=oi hm
 exact WX.rt [] (.inl R) Tryz.results102 (.tmp R .nil) R (fun _ _ _ h=>h) trivial
def y3R (st45:Int×List (List Int)) (l48:List (List Int)):Option ((Int×List (List Int)) ⊕ (List (List Int))):=
 some (.inl (W (st45.1 + 1),l48))
def y3S (p0:AutT) (p2:Bool) (u30:(List (List Int×Int))) (st45:Int×List (List Int)):Option ((Int×List (List Int)) ⊕ (List (List Int))):=
 if decide (st45.1 < (u30.length:Int)) then
  (idx u30 st45.1).bind fun x50=>
  (if (!p2) then
   some true
  else
   (yo p0.2.2.1 x50.2).bind fun r56=>
   some r56).bind fun b51=>
  if b51 then
   (app ([]:List Int) x50.1).bind fun x54=>
   (app st45.2 ([x54]:List (List Int))).bind fun x55=>
   y3R st45 x55
  else
   y3R st45 st45.2
 else
  some (.inr st45.2)
def y2S (st28:Int×(List (List Int×Int))) (r61:EdgL) (st71:Int×(List (List Int×Int))):Option ((Int×(List (List Int×Int))) ⊕ (List (List Int×Int))):=
 if decide (st71.1 < (r61.length:Int)) then
  (idx r61 st71.1).bind fun x74=>
  (idx st71.2 st28.1).bind fun x75=>
  (y1d x75.1).bind fun r76=>
  (app r76 ([x74.2.1]:List Int)).bind fun x77=>
  (app st71.2 ([(x77,x74.2.2)]:List (List Int×Int))).bind fun x78=>
  some (.inl (W (st71.1 + 1),x78))
 else
  some (.inr st71.2)
def y3T (p0:AutT) (p1:Int) (st28:Int×(List (List Int×Int))):Option ((Int×(List (List Int×Int))) ⊕ ((List (List Int×Int)) ⊕ Unit)):=
 if decide (st28.1 < (st28.2.length:Int)) then
  (idx st28.2 st28.1).bind fun x59=>
  if((x59.1.length:Int) == p1) then
   some (.inr (.inl st28.2))
  else
   (idx st28.2 st28.1).bind fun x60=>
   (y3Q p0 x60.2).bind fun r61=>
   (iter (y2S st28 r61) (0,st28.2)).bind fun o71=>
   if decide ((o71.length:Int) > 1024) then
    some (.inr (.inr (())))
   else
    some (.inl (W (st28.1 + 1),o71))
 else
  some (.inr (.inl st28.2))
def y1o (p0:AutT) (p1:Int) (p2:Bool):Option (List (List Int)×Int):=
 (yW p0).bind fun r1=>
 if(r1 != 0) then
  some (([]:List (List Int)),r1)
 else
  if((decide (p1 < 0)) || (decide (p1 > 4096))) then
   some (([]:List (List Int)),2)
  else
   if(p0.2.1 == 0) then
    some (([]:List (List Int)),0)
   else
    (iter (y3T p0 p1) (0,([(([]:List Int),0)]:List (List Int×Int)))).bind fun o28=>
    match o28 with
    | .inl u30=>
     (iter (y3S p0 p2 u30) (0,([]:List (List Int)))).bind fun o45=>
     some (o45,0)
    | .inr (u57)=>
     some (([]:List (List Int)),3)
theorem y8J {p0:AutT} {p1:Int} {p2:Bool} {r:List (List Int)×Int} (hm:y1o p0 p1 p2=some r):
  Fw Tryz.prog 34 ⟨0,[]⟩ [.a [lF qI p0.1,lI p0.2.1,lF qI p0.2.2.1,lF qT p0.2.2.2],.i p1,.b p2] [] (.tp [.h 0,.i r.2]) [ROW (rL qI) 32 r.1]:=by
 unfold y1o at hm
 refine Fw.mk' Tryz.func34 R Tryz.ntmps34 R R (fun C=>?_) R R
 refine .seq (.reg (.op (O.box 0 R Z R R R) R (.sa R (.sa R (.nil (.seqN (.seq (.seq (.reg (.op (O.lg (l':=[lF qI p0.1,lI p0.2.1,lF qI p0.2.2.1,lF qT p0.2.2.2]) ag35 Z R (.B R) R R R) R (bS hm fun r1 er1 hm=> .op (O.ca0 (y4c er1) cf101 R R Z R R R) R (.sa R (.nil (.seqN (.seq (.reg (.mv R (.bi R (.nil (.seqN ?_))))))))))))))))))))
 rcases ifS hm with ⟨hc,hm⟩ | ⟨hc,hm⟩
 ·refine .cT R hc ?_
  refine .seq (.reg (.mv R (.sa R (.sa R (.nil (.seqN (.ret (.seqR (.nlg (rL qI) 32 6 0 R R ?_)))))))))
  obtain rfl:=oi hm
  exact WX.rt [1] (.inl R) Tryz.results34 (.tmp R (.tmp R .nil)) R (fun _ _ _ h=>h) ⟨⟨_,R,fun _ _ _ _ h=>h⟩,trivial⟩
 ·refine .cF R hc ?_
  refine .skip (.seqN (.seq (.seq (.reg (.mv R (.bi R (.mv R ?_)))))))
  refine .cut 3 (fun (v2:Bool)=>((decide (p1 < 0)) || (decide (p1 > 4096)))=v2) (fun v2=>⟨[(26,.b v2),(3,.q 0 0),(1,.i p1),(2,.b p2)],[(0,.bx 35 [lF qI p0.1,lI p0.2.1,lF qI p0.2.2.1,lF qT p0.2.2.2])],1⟩) ?_ ?_
  ·rintro _ rfl
   refine .nil (.seqN ?_)
   rcases ifS hm with ⟨hc,hm⟩ | ⟨hc,hm⟩
   ·refine .cT R hc ?_
    refine .seq (.reg (.sa R (.sa R (.nil (.seqN (.ret (.seqR (.nlg (rL qI) 32 6 0 R R ?_))))))))
    obtain rfl:=oi hm
    exact WX.rt [1] (.inl R) Tryz.results34 (.tmp R (.tmp R .nil)) R (fun _ _ _ h=>h) ⟨⟨_,R,fun _ _ _ _ h=>h⟩,trivial⟩
   ·refine .cF R hc ?_
    refine .skip (.seqN (.seq (.seq (.reg (.op (O.faP y2i Z R R) R (.op (O.ld nag3 Z R (.B R) R R) R (.bi R (.nil (.seqN ?_)))))))))
    rcases ifS hm with ⟨hc,hm⟩ | ⟨hc,hm⟩
    ·refine .cT R hc ?_
     refine .seq (.reg (.sa R (.sa R (.nil (.seqN (.ret (.seqR (.nlg (rL qI) 32 6 0 R R ?_))))))))
     obtain rfl:=oi hm
     exact WX.rt [1] (.inl R) Tryz.results34 (.tmp R (.tmp R .nil)) R (fun _ _ _ h=>h) ⟨⟨_,R,fun _ _ _ _ h=>h⟩,trivial⟩
    ·refine .cF R hc ?_
     refine .skip (.seqN (.seq (.reg (.op (O.bu (l:=[lN,lI 0]) pl173 R Z R R R) R (.op (O.bsO (r:=rE173) (zs:=([(([]:List Int),0)]:List (List Int×Int))) 1 R bs174 R R Z R R R (.c (.p .n .k) .n) R R R) R (.sa R (.nil (.seqN (.seq (.seq (.reg (.sa R (.nil (.seqN (.block (bS hm fun o28 eo28 hm=>?_))))))))))))))))
     refine .cutU (z:= .exit 0) (fun u30=> .inl u30=o28) (fun (u30:(List (List Int×Int)))=>⟨[(9,.h 0),(3,.q 1 0),(2,.b p2)],[(0,ROW rE173 173 u30),(1,.bx 35 [lF qI p0.1,lI p0.2.1,lF qI p0.2.2.1,lF qT p0.2.2.2])],2⟩) ?_ fun K31=>?_
     ·rintro u30 rfl
      dsimp only at hm
      refine .blkE (.seqN (.seq (.reg (.sa R (.nil (.seqN (.seq (.seq (.reg (.mv R (.op (O.lenH sl174 Z R R R) R (.mv R (.nil (.seqN (.block (bS hm fun o45 eo45 hm=>?_))))))))))))))))
      refine .cut1 (z:= .exit 4) o45 (fun (o45:List (List Int))=>⟨[(13,.h 0)],[(0,ROW (rL qI) 32 o45)],1⟩) ?_ fun K47=>?_
      ·skip
       refine .blkE (.seqN (.seq (.reg (.mv R (.sa R (.sa R (.nil (.seqN (.ret ?_)))))))))
       obtain rfl:=oi hm
       exact WX.rt [0] (.inl R) Tryz.results34 (.tmp R (.tmp R .nil)) R (fun _ _ _ h=>h) ⟨⟨_,R,fun _ _ _ _ h=>h⟩,trivial⟩
      refine .nlg (rL qI) 32 13 0 R R (.iter (fun (st45:Int×List (List Int))=>⟨[(80,.i st45.1),(79,.i (u30.length:Int)),(78,.h 0),(13,.h 1),(3,.q 2 0),(2,.b p2)],[(0,ROW rE173 173 u30),(1,ROW (rL qI) 32 st45.2),(2,.bx 35 [lF qI p0.1,lI p0.2.1,lF qI p0.2.2.1,lF qT p0.2.2.2])],3⟩) eo45 [(1,2),(2,1)] R ?_)
      intro st45 res45 hm ih45 ho45
      unfold y3S at hm
      refine .seq (.reg (.bi R (.nil (.seqN (.seq ?_)))))
      rcases ifS hm with ⟨hc,hm⟩ | ⟨hc,hm⟩
      ·refine .cT R hc ?_
       refine .skip (.seqN ?_)
       refine .join1 (fun (l48:List (List Int))=>y3R st45 l48=some res45) (fun l48=>⟨[(13,.h 0),(80,.i st45.1),(79,.i (u30.length:Int)),(78,.h 1),(3,.q 2 0),(2,.b p2)],[(0,ROW (rL qI) 32 l48),(1,ROW rE173 173 u30),(2,.bx 35 [lF qI p0.1,lI p0.2.1,lF qI p0.2.2.1,lF qT p0.2.2.2])],3⟩) ?_ ?_
       ·intro l48 hm
        unfold y3R at hm
        exact .reg (.bi R (.mv R (.nil ((ih45 _ (oi hm).symm).sub [(0,1),(1,0)] R))))
       ·intro Jj49
        refine .block (.seq (.reg (bS hm fun x50 ex50 hm=> .op (O.ir sl174 Z R R R ex50 R) R (.op (O.lg (l':=[lF qI x50.1,lI x50.2]) ag173 Z R (.R R ex50 lv173) R R R) R (.op (O.al 3 R zz173 R Z R) R (.op (O.st ag173.sz Z R R R R R) R (.nil (.seqN (.seq (.reg (.mv R (.op (O.not Z R R) R (.mv R (bS hm fun b51 eb51 hm=>?_))))))))))))))
        refine .cut 6 (fun (v52:Bool)=>b51=v52) (fun v52=>⟨[(92,.b v52),(15,.q 3 0),(80,.i st45.1),(79,.i (u30.length:Int)),(78,.h 0),(13,.h 1),(3,.q 2 0),(2,.b p2)],[(3,.bx 173 [lF qI x50.1,lI x50.2]),(0,ROW rE173 173 u30),(1,ROW (rL qI) 32 st45.2),(2,.bx 35 [lF qI p0.1,lI p0.2.1,lF qI p0.2.2.1,lF qT p0.2.2.2])],4⟩) ?_ ?_
        ·rintro _ rfl
         refine .nil (.seqN ?_)
         rcases ifS hm with ⟨hc,hm⟩ | ⟨hc,hm⟩
         ·refine .cT R hc ?_
          exact .reg (.mv R (.op (O.b0O (r:=qI) 4 R bs32 R Z R) R (.op (O.faP yap Z R R) R (.op (O.ld nag32 Z R (.B R) R R) R (bS hm fun x54 ex54 hm=> .op (O.ap 5 Tryz.underlying32 el3 R R Z R R (.fr R) ex54 R) R (.fz 5 [97] [] R R fR R R (.op (O.bsF (r:=(rL qI)) (zs:=([x54]:List (List Int))) bs53 R R Z R R R (.c .l .n) R R R) R (bS hm fun x55 ex55 hm=> .op (O.ap 6 Tryz.underlying53 el32 R R Z R R (.fr R) ex55 R) R (.sa R (.nil (.blkN ((Jj49 _ hm).sub [(0,6),(1,0)] R))))))))))))
         ·refine .cF R hc ?_
          exact .skip (.blkN ((Jj49 _ hm).sub [(0,1),(1,0)] R))
        ·intro J53
         rcases ifS eb51 with ⟨hc,hm⟩ | ⟨hc,hm⟩
         ·refine .know (d:=86) R hc ?_
          exact .sk R (.sk R (.sk R (.sk R (.sk R (.op (O.pkT Z R R R R) R ((J53 true (oi hm).symm).sub [] R))))))
         ·refine .know (d:=86) R hc ?_
          exact .op (O.faP y4b (Gu.mk R R) R R) R (.op (O.ld nag32 (Gu.mk R R) R (.B R) R R) R (.op (O.faP ybT (Gu.mk R R) R R) R (.op (O.ld nag3 (Gu.mk R R) R (.B R) R R) R (bS hm fun r56 er56 hm=> .op (O.ca0 (y1p er56) cf104 R R (Gu.mk R R) R R R) R (.op (O.pkF Z R R R R) R ((J53 r56 (oi hm).symm).sub [] R))))))
      ·refine .cF R hc ?_
       exact .exit (.seqX (.seqX ((K47 _ (ho45 _ (oi hm).symm)).sub [(0,1)] R)))
     refine .cutU (z:= .ret) (fun u57=> .inr (u57)=o28) (fun (u57:Unit)=>⟨[(7,.i 3),(6,.o (lN))],[],0⟩) ?_ fun K58=>?_
     ·rintro u57 rfl
      dsimp only at hm
      refine .blkR (.seqR (.nlg (rL qI) 32 6 0 R R ?_))
      obtain rfl:=oi hm
      exact WX.rt [0] (.inl R) Tryz.results34 (.tmp R (.tmp R .nil)) R (fun _ _ _ h=>h) ⟨⟨_,R,fun _ _ _ _ h=>h⟩,trivial⟩
     refine .iter (fun (st28:Int×(List (List Int×Int)))=>⟨[(10,.i st28.1),(9,.h 0),(3,.q 1 0),(1,.i p1),(2,.b p2)],[(0,ROW rE173 173 st28.2),(1,.bx 35 [lF qI p0.1,lI p0.2.1,lF qI p0.2.2.1,lF qT p0.2.2.2])],2⟩) eo28 [(0,1),(1,0)] R ?_
     intro st28 res28 hm ih28 ho28
     unfold y3T at hm
     refine .seq (.seq (.reg (.mv R (.mv R (.op (O.lenH sl174 Z R R R) R (.bi R (.nil (.seqN ?_))))))))
     rcases ifS hm with ⟨hc,hm⟩ | ⟨hc,hm⟩
     ·refine .cT R hc ?_
      refine .skip (.seqN (.seq (.block (.seq (.seq (.reg (.mv R (.mv R (bS hm fun x59 ex59 hm=> .op (O.ir sl174 Z R R R ex59 R) R (.op (O.faR yap Z R R) R (.op (O.ld nag32 Z R (.R R ex59 lv173) R R) R (.op (O.len sl32 Z R R) R (.mv R (.bi R (.nil (.seqN ?_))))))))))))))))
      rcases ifS hm with ⟨hc,hm⟩ | ⟨hc,hm⟩
      ·refine .cT R hc ?_
       exact .exit (.seqX (.blkX R (.seqX (.seqX ((K31 _ (ho28 _ (oi hm).symm)).sub [] R)))))
      ·refine .cF R hc ?_
       refine .skip (.seqN (.seq (.seq ?_)))
       refine .sub (τ:=⟨[(10,.i st28.1),(9,.h 0),(3,.q 1 0),(1,.i p1),(2,.b p2)],[(0,ROW rE173 173 st28.2),(1,.bx 35 [lF qI p0.1,lI p0.2.1,lF qI p0.2.2.1,lF qT p0.2.2.2])],2⟩) ?_ [] R
       refine bS hm fun x60 ex60 hm=>bS hm fun r61 er61 hm=>?_
       refine .drw [(2,[]),(2,[]),(2,[]),(2,[oF,oT,oT]),(2,fA 1 (tT 3)),(2,fA 1 (tT 4)),(2,tT 6),(2,tT 7),(2,[])] [_,_,_,_,_,_,_,_,_] ⟨[(54,.i 0),(53,.i (r61.length:Int)),(52,.f qT r61),(10,.i st28.1),(9,.h 0),(3,.q 1 0),(1,.i p1),(2,.b p2)],[(0,ROW rE173 173 st28.2),(1,.bx 35 [lF qI p0.1,lI p0.2.1,lF qI p0.2.2.1,lF qT p0.2.2.2])],2⟩ ⟨O.lg (l':=[lF qI p0.1,lI p0.2.1,lF qI p0.2.2.1,lF qT p0.2.2.2]) ag35 Z R (.B R) R R R,O.mv Z R R,O.mv Z R R,O.ir sl174 Z R R R ex60 R,O.faR ybT Z R R,O.ld nag3 Z R (.R R ex60 lv173) R R,O.ca0 (y7a er61) cf102 R R Z R R R,O.len sl33 Z R R,O.mv Z R R,trivial⟩ (by kernel_rfl) R ?_
       refine .seqN (.block (bS hm fun o71 eo71 hm=>?_))
       refine .cut1 (z:= .exit 2) o71 (fun (o71:(List (List Int×Int)))=>⟨[(10,.i st28.1),(9,.h 0),(3,.q 1 0),(1,.i p1),(2,.b p2)],[(0,ROW rE173 173 o71),(1,.bx 35 [lF qI p0.1,lI p0.2.1,lF qI p0.2.2.1,lF qT p0.2.2.2])],2⟩) ?_ fun K73=>?_
       ·skip
        refine .blkE (.seqN (.seq (.reg (.mv R (.op (O.lenH sl174 Z R R R) R (.bi R (.nil (.seqN ?_))))))))
        rcases ifS hm with ⟨hc,hm⟩ | ⟨hc,hm⟩
        ·refine .cT R hc ?_
         exact .seq (.reg (.sa R (.sa R (.nil (.seqN (.ret (.blkR (.seqR (.seqR ((K58 _ (ho28 _ (oi hm).symm)).sub [] R))))))))))
        ·refine .cF R hc ?_
         exact .skip (.blkN (.seqN (.reg (.mv R (.bi R (.sa R (.nil ((ih28 _ (oi hm).symm).sub [] R))))))))
       refine .iter (fun (st71:Int×(List (List Int×Int)))=>⟨[(54,.i st71.1),(53,.i (r61.length:Int)),(52,.f qT r61),(10,.i st28.1),(9,.h 0),(3,.q 1 0),(1,.i p1),(2,.b p2)],[(0,ROW rE173 173 st71.2),(1,.bx 35 [lF qI p0.1,lI p0.2.1,lF qI p0.2.2.1,lF qT p0.2.2.2])],2⟩) eo71 [] R ?_
       intro st71 res71 hm ih71 ho71
       unfold y2S at hm
       refine .seq (.reg (.bi R (.nil (.seqN (.seq ?_)))))
       rcases ifS hm with ⟨hc,hm⟩ | ⟨hc,hm⟩
       ·refine .cT R hc ?_
        refine .skip (.seqN (.seq (.block (.seq (.reg (bS hm fun x74 ex74 hm=> .op (O.ix sl33 Z R R ex74 R) R (.op (O.lg (l':=[lI x74.1,lI x74.2.1,lI x74.2.2]) ag124 Z R (.E lv124) R R R) R (.op (O.al 2 R zz124 R Z R) R (.op (O.st ag124.sz Z R R R R R) R (.nil (.seqN ?_)))))))))))
        refine .sub (τ:=⟨[(12,.q 2 0),(54,.i st71.1),(53,.i (r61.length:Int)),(52,.f qT r61),(10,.i st28.1),(9,.h 0),(3,.q 1 0),(1,.i p1),(2,.b p2)],[(2,.bx 124 [lI x74.1,lI x74.2.1,lI x74.2.2]),(0,ROW rE173 173 st71.2),(1,.bx 35 [lF qI p0.1,lI p0.2.1,lF qI p0.2.2.1,lF qT p0.2.2.2])],3⟩) ?_ [] R
        refine bS hm fun x75 ex75 hm=>bS hm fun r76 er76 hm=>bS hm fun x77 ex77 hm=>bS hm fun x78 ex78 hm=>?_
        refine .drz 5 [(6,3)] [(3,[],[],[]),(3,[],[],[]),(3,[],[],[]),(3,[oF,oT,oT],[],[]),(3,[oF,oT,oT,oT],[],[]),(3,[oF,oT,oT,oT,oT],[],[]),(3,[oF,oT,oT,oT,oT,oT],[],[]),(3,[],[],[]),(3,[oF,oF,oF,oF,oF,oF,oF,oT],[],[]),(3,[oF,oF,oF,oF,oF,oF,oF,oT,oT],[],[]),(4,[oF,oT,oT,oT,oT,oT,oT,oT,oT,oT],[],[]),(3,[],[],[]),(3,[oF,oF,oF,oF,oF,oF,oF,oF,oF,oF,oF,oT],[],[]),(4,[oF,oT,oT,oT,oT,oT,oT,oT,oT,oT,oT,oT,oT],[],[(6,3)]),(4,[oF,oT,oT,oT,oT,oT,oT,oT,oT,oT,oT,oT,oT,oT],[],[(6,3)]),(4,[oT,oT,oT,oT,oT,oT,oT,oT,oT,oT,oT,oT,oT,oT,oT],[],[(6,3)]),(5,[oT,oT,oT,oT,oT,oT,oT,oT,oT,oT,oT,oT,oT,oT,oT,oT],[],[(6,3)])] [_,_,_,_,_,_,_,_,_,_,_,_,_,_,_,_,_] ⟨[(9,.h 4),(54,.i st71.1),(53,.i (r61.length:Int)),(52,.f qT r61),(10,.i st28.1),(3,.q 1 0),(1,.i p1),(2,.b p2)],[(4,ROW rE173 173 x78),(1,.bx 35 [lF qI p0.1,lI p0.2.1,lF qI p0.2.2.1,lF qT p0.2.2.2])],5⟩ ⟨O.mv Z R R,O.mv Z R R,O.mv Z R R,O.ir sl174 Z R R R ex75 R,O.faR yap Z R R,O.ld nag32 Z R (.R R ex75 lv173) R R,O.ca (r':= .h 3) [3] [(0,ROW qI 3 r76)] (some 4) (y3K er76) cf103 R R Z R R R R ⟨⟨_,R,fun _ _ _ _ h=>h⟩,trivial⟩ (fun _ _ _ h=>h) R,O.faP y4I Z R R,O.ld nag3 Z R (.B R) R R,O.bsF (r:=qI) (zs:=([x74.2.1]:List Int)) bs32 R R Z R R R (.c .k .n) R R R,O.apZ Tryz.underlying32 el3 R Z R R (.fr R) ex77 R,O.faP y3p Z R R,O.ld nag3 Z R (.B R) R R,O.bu (l:=[lF qI x77,lI x74.2.2]) pl173 R Z R R R,O.bsF (r:=rE173) (zs:=([(x77,x74.2.2)]:List (List Int×Int))) bs174 R R Z R R R (.c (.p .l .k) .n) R R R,O.ap 4 Tryz.underlying174 el173 R R Z R R (.fr R) ex78 R,O.as Z R R,trivial⟩ (by kernel_rfl) R ?_
        exact .blkN (.seqN (.reg (.bi R (.mv R (.nil ((ih71 _ (oi hm).symm).sub [(0,4)] R))))))
       ·refine .cF R hc ?_
        exact .exit (.seqX (.seqX ((K73 _ (ho71 _ (oi hm).symm)).sub [] R)))
     ·refine .cF R hc ?_
      exact .exit (.seqX (.seqX ((K31 _ (ho28 _ (oi hm).symm)).sub [] R)))
  ·intro J3
   rcases Bool.eq_false_or_eq_true (decide (p1 < 0)) with hc | hc
   ·refine .know (d:=23) R hc ?_
    exact .sk R (.sk R (.op (O.pkT Z R R R R) R ((J3 true (orT hc).symm).sub [] R)))
   ·refine .know (d:=23) R hc ?_
    exact .op (O.mv (Gu.mk R R) R R) R (.op (O.bi (Gu.mk R R) R R R R) R (.op (O.pkF Z R R R R) R ((J3 (decide (p1 > 4096)) (orF hc).symm).sub [] R)))
def y4l (p0:AutT) (p1:Int):Option Int:=
 (yW p0).bind fun r1=>
 if(r1 != 0) then
  some r1
 else
  if((decide (p1 < 0)) || (decide (p1≥p0.2.1))) then
   some 2
  else
   some 0
theorem y7q {p0:AutT} {p1:Int} {r:Int} (hm:y4l p0 p1=some r):
  Fw Tryz.prog 105 ⟨0,[]⟩ [.a [lF qI p0.1,lI p0.2.1,lF qI p0.2.2.1,lF qT p0.2.2.2],.i p1] [] (.i r) []:=by
 unfold y4l at hm
 refine Fw.mk' Tryz.func105 R Tryz.ntmps105 R R (fun C=>?_) R R
 refine .seq (.reg (.op (O.box 0 R Z R R R) R (.sa R (.nil (.seqN (.seq (.seq (.reg (.op (O.lg (l':=[lF qI p0.1,lI p0.2.1,lF qI p0.2.2.1,lF qT p0.2.2.2]) ag35 Z R (.B R) R R R) R (bS hm fun r1 er1 hm=> .op (O.ca0 (y4c er1) cf101 R R Z R R R) R (.sa R (.nil (.seqN (.seq (.reg (.mv R (.bi R (.nil (.seqN ?_)))))))))))))))))))
 rcases ifS hm with ⟨hc,hm⟩ | ⟨hc,hm⟩
 ·refine .cT R hc ?_
  refine .seq (.reg (.mv R (.sa R (.nil (.seqN (.ret (.seqR ?_)))))))
  obtain rfl:=oi hm
  exact WX.rt [] (.inl R) Tryz.results105 (.tmp R .nil) R (fun _ _ _ h=>h) trivial
 ·refine .cF R hc ?_
  refine .skip (.seqN (.seq (.seq (.reg (.mv R (.bi R (.mv R ?_)))))))
  refine .cut 5 (fun (v2:Bool)=>((decide (p1 < 0)) || (decide (p1≥p0.2.1)))=v2) (fun v2=>⟨[(18,.b v2)],[],1⟩) ?_ ?_
  ·rintro _ rfl
   refine .nil (.seqN ?_)
   rcases ifS hm with ⟨hc,hm⟩ | ⟨hc,hm⟩
   ·refine .cT R hc ?_
    refine .seq (.reg (.sa R (.nil (.seqN (.ret (.seqR ?_))))))
    obtain rfl:=oi hm
    exact WX.rt [] (.inl R) Tryz.results105 (.tmp R .nil) R (fun _ _ _ h=>h) trivial
   ·refine .cF R hc ?_
    refine .skip (.seqN (.seq (.reg (.sa R (.nil (.seqN (.ret ?_)))))))
    obtain rfl:=oi hm
    exact WX.rt [] (.inl R) Tryz.results105 (.tmp R .nil) R (fun _ _ _ h=>h) trivial
  ·intro J3
   rcases Bool.eq_false_or_eq_true (decide (p1 < 0)) with hc | hc
   ·refine .know (d:=13) R hc ?_
    exact .sk R (.sk R (.sk R (.sk R (.op (O.pkT Z R R R R) R ((J3 true (orT hc).symm).sub [] R)))))
   ·refine .know (d:=13) R hc ?_
    exact .op (O.mv (Gu.mk R R) R R) R (.op (O.faP y2i (Gu.mk R R) R R) R (.op (O.ld nag3 (Gu.mk R R) R (.B R) R R) R (.op (O.bi (Gu.mk R R) R R R R) R (.op (O.pkF Z R R R R) R ((J3 (decide (p1≥p0.2.1)) (orF hc).symm).sub [] R)))))
def y3V (q0:AutT) (p0:Int):Option Bool:=
 (yo q0.1 p0).bind fun r1=>
 some (!r1)
theorem y8K {q0:AutT} {p0:Int} {r:Bool} (hm:y3V q0 p0=some r):
  Fw Tryz.prog 107 ⟨0,[]⟩ [.i p0,.o (lQ 35 [lF qI q0.1,lI q0.2.1,lF qI q0.2.2.1,lF qT q0.2.2.2] 0)] [] (.b r) []:=by
 unfold y3V at hm
 refine Fw.mk' Tryz.func107 R Tryz.ntmps107 R R (fun C=>?_) R R
 refine .seq (.reg (.sa R (.nil (.seqN (.seq (.reg (.op (O.faQ y2E Z R R) R (.op (O.ld nag32 Z R .Q R R) R (.mv R (bS hm fun r1 er1 hm=> .op (O.ca0 (y1p er1) cf104 R R Z R R R) R (.op (O.not Z R R) R (.sa R (.nil (.seqN (.ret ?_)))))))))))))))
 obtain rfl:=oi hm
 exact WX.rt [] (.inl R) Tryz.results107 (.tmp R .nil) R (fun _ _ _ h=>h) trivial
def y3H (p0:List Int) (p1:Int→Option Bool):Option Bool:=
 (y2l p0 p1).bind fun r1=>
 some (decide (r1≥0))
theorem y6U {p0:List Int} {p1:Int→Option Bool} {r:Bool} (hm:y3H p0 p1=some r):
  Fw Tryz.prog 106 ⟨0,[]⟩ [.f qI p0,.o (lW Tryz.prog (fun (x:Int)=> [.i x]) (fun (r:Bool)=> .b r) p1)] [] (.b r) []:=by
 unfold y3H at hm
 refine Fw.mk' Tryz.func106 R Tryz.ntmps106 R R (fun C=>?_) R R
 refine .seq (.reg (.sa R (.nil (.seqN (.seq (.reg (.mv R (.mv R (bS hm fun r1 er1 hm=> .op (O.ca0 (y5C er1) cf136 R R Z R R R) R (.bi R (.sa R (.nil (.seqN (.ret ?_))))))))))))))
 obtain rfl:=oi hm
 exact WX.rt [] (.inl R) Tryz.results106 (.tmp R .nil) R (fun _ _ _ h=>h) trivial
def y4o (q0:Int) (p0:Int×Int×Int):Option Bool:=
 some (p0.2.1 == q0)
theorem y8r {q0:Int} {p0:Int×Int×Int} {r:Bool} (hm:y4o q0 p0=some r):
  Fw Tryz.prog 213 ⟨0,[]⟩ [.a [lI p0.1,lI p0.2.1,lI p0.2.2],.o (lQ 3 [lI q0] 0)] [] (.b r) []:=by
 unfold y4o at hm
 refine Fw.mk' Tryz.func213 R Tryz.ntmps213 R R (fun C=>?_) R R
 refine .seq (.reg (.op (O.box 0 R Z R R R) R (.sa R (.nil (.seqN (.seq (.reg (.op (O.faP y4I Z R R) R (.op (O.ld nag3 Z R (.B R) R R) R (.op (O.ld nag3 Z R .Q R R) R (.bi R (.sa R (.nil (.seqN (.ret ?_)))))))))))))))
 obtain rfl:=oi hm
 exact WX.rt [] (.inl R) Tryz.results213 (.tmp R .nil) R (fun _ _ _ h=>h) trivial
def y4M (p0:AutT) (p1:Int) (p2:Int):Option Int:=
 (y3Q p0 p1).bind fun r1=>
 (y2c r1 (y4o p2)).bind fun r2=>
 if decide (r2 < 0) then
  some (-1)
 else
  (idx r1 r2).bind fun x3=>
  some x3.2.2
theorem y8V {p0:AutT} {p1:Int} {p2:Int} {r:Int} (hm:y4M p0 p1 p2=some r):
  Fw Tryz.prog 170 ⟨0,[]⟩ [.a [lF qI p0.1,lI p0.2.1,lF qI p0.2.2.1,lF qT p0.2.2.2],.i p1,.i p2] [] (.i r) []:=by
 unfold y4M at hm
 refine Fw.mk' Tryz.func170 R Tryz.ntmps170 R R (fun C=>?_) R R
 refine .seq (.reg (.op (O.box 0 R Z R R R) R (.op (O.box 1 R Z R R R) R (.sa R (.nil (.seqN (.seq (.reg (.op (O.lg (l':=[lF qI p0.1,lI p0.2.1,lF qI p0.2.2.1,lF qT p0.2.2.2]) ag35 Z R (.B R) R R R) R (.mv R (bS hm fun r1 er1 hm=> .op (O.ca0 (y7a er1) cf102 R R Z R R R) R (.sa R (.nil (.seqN (.seq (.reg (.mv R (.fz 1 [5] [] R R fB R R (.op (O.mf (args:=(fun (x:(Int×Int×Int))=> [.a [lI x.1,lI x.2.1,lI x.2.2]])) (res:=(fun (r:Bool)=> .b r)) (m:=(y4o p2)) cf213 (fun x r h=>y8r h) (fun _=>R) R Z R R) R (bS hm fun r2 er2 hm=> .op (O.ca0 (y5v er2) cf140 R R Z R R R) R (.sa R (.nil (.seqN (.seq (.seq (.reg (.mv R (.bi R (.nil (.seqN ?_))))))))))))))))))))))))))))))
 rcases ifS hm with ⟨hc,hm⟩ | ⟨hc,hm⟩
 ·refine .cT R hc ?_
  refine .seq (.reg (.sa R (.nil (.seqN (.ret (.seqR ?_))))))
  obtain rfl:=oi hm
  exact WX.rt [] (.inl R) Tryz.results170 (.tmp R .nil) R (fun _ _ _ h=>h) trivial
 ·refine .cF R hc ?_
  refine .skip (.seqN (.seq (.reg (.mv R (.mv R (bS hm fun x3 ex3 hm=> .op (O.ix sl33 Z R R ex3 R) R (.op (O.faE y3p Z R R) R (.op (O.ld nag3 Z R (.E lv124) R R) R (.sa R (.nil (.seqN (.ret ?_))))))))))))
  obtain rfl:=oi hm
  exact WX.rt [] (.inl R) Tryz.results170 (.tmp R .nil) R (fun _ _ _ h=>h) trivial
def y3A (p0:AutT) (p2:List Int) (st7:Int×Int):Option ((Int×Int) ⊕ (Int ⊕ (Int×Int))):=
 if decide (st7.1 < (p2.length:Int)) then
  (idx p2 st7.1).bind fun x15=>
  (y4M p0 st7.2 x15).bind fun r16=>
  if decide (r16 < 0) then
   some (.inr (.inr (st7)))
  else
   some (.inl (W (st7.1 + 1),r16))
 else
  some (.inr (.inl st7.2))
def y4p (p0:AutT) (p1:Int) (p2:List Int):Option (Int×Int):=
 (iter (y3A p0 p2) (0,p1)).bind fun o7=>
 match o7 with
 | .inl u11=>
  some (u11,(p2.length:Int))
 | .inr (u13)=>
  some (u13.2,u13.1)
theorem y8s {p0:AutT} {p1:Int} {p2:List Int} {r:Int×Int} (hm:y4p p0 p1 p2=some r):
  Fw Tryz.prog 108 ⟨0,[]⟩ [.a [lF qI p0.1,lI p0.2.1,lF qI p0.2.2.1,lF qT p0.2.2.2],.i p1,.f qI p2] [] (.tp [.i r.1,.i r.2]) []:=by
 unfold y4p at hm
 refine Fw.mk' Tryz.func108 R Tryz.ntmps108 R R (fun C=>?_) R R
 refine .seq (.reg (.op (O.box 0 R Z R R R) R (.sa R (.sa R (.nil (.seqN (.seq (.seq (.reg (.mv R (.op (O.len sl32 Z R R) R (.mv R (.nil (.seqN (.block (bS hm fun o7 eo7 hm=>?_))))))))))))))))
 refine .cutU (z:= .exit 0) (fun u11=> .inl u11=o7) (fun (u11:Int)=>⟨[(1,.i u11),(2,.f qI p2)],[],0⟩) ?_ fun K12=>?_
 ·rintro u11 rfl
  dsimp only at hm
  refine .blkE (.seqN (.seq (.reg (.mv R (.mv R (.op (O.len sl32 Z R R) R (.sa R (.sa R (.nil (.seqN (.ret ?_)))))))))))
  obtain rfl:=oi hm
  exact WX.rt [] (.inl R) Tryz.results108 (.tmp R (.tmp R .nil)) R (fun _ _ _ h=>h) trivial
 refine .cutU (z:= .ret) (fun u13=> .inr (u13)=o7) (fun (u13:Int×Int)=>⟨[(7,.i u13.1),(6,.i u13.2)],[],0⟩) ?_ fun K14=>?_
 ·rintro u13 rfl
  dsimp only at hm
  refine .blkR (.seqR ?_)
  obtain rfl:=oi hm
  exact WX.rt [] (.inl R) Tryz.results108 (.tmp R (.tmp R .nil)) R (fun _ _ _ h=>h) trivial
 refine .iter (fun (st7:Int×Int)=>⟨[(13,.i st7.1),(12,.i (p2.length:Int)),(11,.f qI p2),(3,.q 0 0),(1,.i st7.2),(2,.f qI p2)],[(0,.bx 35 [lF qI p0.1,lI p0.2.1,lF qI p0.2.2.1,lF qT p0.2.2.2])],1⟩) eo7 [] R ?_
 intro st7 res7 hm ih7 ho7
 unfold y3A at hm
 refine .seq (.reg (.bi R (.nil (.seqN (.seq ?_)))))
 rcases ifS hm with ⟨hc,hm⟩ | ⟨hc,hm⟩
 ·refine .cT R hc ?_
  refine .skip (.seqN (.seq (.block (.seq (.reg (.mv R (bS hm fun x15 ex15 hm=> .op (O.ix sl32 Z R R ex15 R) R (.op (O.ld nag3 Z R (.E lv3) R R) R (.sa R (.sa R (.nil (.seqN (.seq (.reg (.op (O.lg (l':=[lF qI p0.1,lI p0.2.1,lF qI p0.2.2.1,lF qT p0.2.2.2]) ag35 Z R (.B R) R R R) R (.mv R (.mv R (bS hm fun r16 er16 hm=> .op (O.ca0 (y8V er16) cf170 R R Z R R R) R (.sa R (.nil (.seqN (.seq (.seq (.reg (.mv R (.bi R (.nil (.seqN ?_))))))))))))))))))))))))))))
  rcases ifS hm with ⟨hc,hm⟩ | ⟨hc,hm⟩
  ·refine .cT R hc ?_
   exact .seq (.reg (.mv R (.mv R (.sa R (.sa R (.nil (.seqN (.ret (.seqR (.blkR (.seqR (.seqR ((K14 _ (ho7 _ (oi hm).symm)).sub [] R)))))))))))))
  ·refine .cF R hc ?_
   exact .skip (.seqN (.reg (.mv R (.sa R (.nil (.blkN (.seqN (.reg (.bi R (.mv R (.nil ((ih7 _ (oi hm).symm).sub [] R))))))))))))
 ·refine .cF R hc ?_
  exact .exit (.seqX (.seqX ((K12 _ (ho7 _ (oi hm).symm)).sub [] R)))
def y5a (p0:AutT) (p1:Int) (p2:List Int):Option (Int×Int×Int):=
 (y4l p0 p1).bind fun r1=>
 if(r1 != 0) then
  some (0,0,r1)
 else
  (y3H p2 (y3V p0)).bind fun r2=>
  if r2 then
   some (0,0,9)
  else
   (y4p p0 p1 p2).bind fun r3=>
   some (r3.1,r3.2,0)
theorem y9h {p0:AutT} {p1:Int} {p2:List Int} {r:Int×Int×Int} (hm:y5a p0 p1 p2=some r):
  Fw Tryz.prog 35 ⟨0,[]⟩ [.a [lF qI p0.1,lI p0.2.1,lF qI p0.2.2.1,lF qT p0.2.2.2],.i p1,.f qI p2] [] (.tp [.i r.1,.i r.2.1,.i r.2.2]) []:=by
 unfold y5a at hm
 refine Fw.mk' Tryz.func35 R Tryz.ntmps35 R R (fun C=>?_) R R
 refine .seq (.reg (.op (O.box 0 R Z R R R) R (.sa R (.sa R (.sa R (.nil (.seqN (.seq (.seq (.reg (.op (O.lg (l':=[lF qI p0.1,lI p0.2.1,lF qI p0.2.2.1,lF qT p0.2.2.2]) ag35 Z R (.B R) R R R) R (.mv R (bS hm fun r1 er1 hm=> .op (O.ca0 (y7q er1) cf105 R R Z R R R) R (.sa R (.nil (.seqN (.seq (.reg (.mv R (.bi R (.nil (.seqN ?_))))))))))))))))))))))
 rcases ifS hm with ⟨hc,hm⟩ | ⟨hc,hm⟩
 ·refine .cT R hc ?_
  refine .seq (.reg (.mv R (.sa R (.sa R (.sa R (.nil (.seqN (.ret (.seqR ?_)))))))))
  obtain rfl:=oi hm
  exact WX.rt [] (.inl R) Tryz.results35 (.tmp R (.tmp R (.tmp R .nil))) R (fun _ _ _ h=>h) trivial
 ·refine .cF R hc ?_
  refine .skip (.seqN (.seq (.seq (.reg (.mv R (.fz 0 [3] [] R R fB R R (.op (O.mf (args:=(fun (x:Int)=> [.i x])) (res:=(fun (r:Bool)=> .b r)) (m:=(y3V p0)) cf107 (fun x r h=>y8K h) (fun _=>R) R Z R R) R (bS hm fun r2 er2 hm=> .op (O.ca0 (y6U er2) cf106 R R Z R R R) R (.nil (.seqN ?_))))))))))
  rcases ifS hm with ⟨hc,hm⟩ | ⟨hc,hm⟩
  ·refine .cT R hc ?_
   refine .seq (.reg (.sa R (.sa R (.sa R (.nil (.seqN (.ret (.seqR ?_))))))))
   obtain rfl:=oi hm
   exact WX.rt [] (.inl R) Tryz.results35 (.tmp R (.tmp R (.tmp R .nil))) R (fun _ _ _ h=>h) trivial
  ·refine .cF R hc ?_
   refine .skip (.seqN (.seq (.reg (.op (O.lg (l':=[lF qI p0.1,lI p0.2.1,lF qI p0.2.2.1,lF qT p0.2.2.2]) ag35 Z R .Q R R R) R (.mv R (.mv R (bS hm fun r3 er3 hm=> .op (O.ca0 (y8s er3) cf108 R R Z R R R) R (.mv R (.op (O.ex Z R R R) R (.op (O.ex Z R R R) R (.sa R (.sa R (.nil (.seqN (.seq (.reg (.mv R (.mv R (.sa R (.sa R (.sa R (.nil (.seqN (.ret ?_))))))))))))))))))))))))
   obtain rfl:=oi hm
   exact WX.rt [] (.inl R) Tryz.results35 (.tmp R (.tmp R (.tmp R .nil))) R (fun _ _ _ h=>h) trivial
def y1s (p0:AutT×AutT×List Int) (p2:List Int) (st17:Int×Int) (b22:Bool):Option ((Int×Int) ⊕ (Unit ⊕ Unit)):=
 if b22 then
  some (.inr (.inr (())))
 else
  (idx p2 st17.1).bind fun x24=>
  (y1v p0.1 st17.2 x24).bind fun r25=>
  if decide (r25 < 0) then
   some (.inr (.inr (())))
  else
   some (.inl (W (st17.1 + 1),r25))
def y2j (p0:AutT×AutT×List Int) (p2:List Int) (st17:Int×Int):Option ((Int×Int) ⊕ (Unit ⊕ Unit)):=
 if decide (st17.1 < (p2.length:Int)) then
  (idx p2 st17.1).bind fun x26=>
  (y2q p0.2.2 x26).bind fun r27=>
  if(!r27) then
   y1s p0 p2 st17 true
  else
   (slc p2 0 st17.1).bind fun x30=>
   (idx p2 st17.1).bind fun x31=>
   (y2q x30 x31).bind fun r32=>
   y1s p0 p2 st17 r32
 else
  some (.inr (.inl ()))
def y2X (p0:AutT×AutT×List Int) (p1:List Int) (p2:List Int):Option Bool:=
 (idx p1 0).bind fun x1=>
 (iter (y2j p0 p2) (0,x1)).bind fun o17=>
 match o17 with
 | .inl u18=>
  some (decide ((p2.length:Int)≥2))
 | .inr (u20)=>
  some false
theorem y7c {p0:AutT×AutT×List Int} {p1:List Int} {p2:List Int} {r:Bool} (hm:y2X p0 p1 p2=some r):
  Fw Tryz.prog 40 ⟨0,[]⟩ [.a [lF qI p0.1.1,lI p0.1.2.1,lF qI p0.1.2.2.1,lF qT p0.1.2.2.2,lF qI p0.2.1.1,lI p0.2.1.2.1,lF qI p0.2.1.2.2.1,lF qT p0.2.1.2.2.2,lF qI p0.2.2],.f qI p1,.f qI p2] [] (.b r) []:=by
 unfold y2X at hm
 refine Fw.mk' Tryz.func40 R Tryz.ntmps40 R R (fun C=>?_) R R
 refine .seq (.reg (.op (O.box 0 R Z R R R) R (.sa R (.nil (.seqN (.seq (.reg (.mv R (bS hm fun x1 ex1 hm=> .op (O.ix sl32 Z R R ex1 R) R (.op (O.ld nag3 Z R (.E lv3) R R) R (.sa R (.nil (.seqN (.seq (.seq (.reg (.sa R (.nil (.seqN (.block (bS hm fun o17 eo17 hm=>?_)))))))))))))))))))))
 refine .cutU (z:= .exit 0) (fun u18=> .inl u18=o17) (fun (u18:Unit)=>⟨[(2,.f qI p2)],[],0⟩) ?_ fun K19=>?_
 ·rintro u18 rfl
  dsimp only at hm
  refine .blkE (.seqN (.seq (.reg (.mv R (.op (O.len sl32 Z R R) R (.bi R (.sa R (.nil (.seqN (.ret ?_))))))))))
  obtain rfl:=oi hm
  exact WX.rt [] (.inl R) Tryz.results40 (.tmp R .nil) R (fun _ _ _ h=>h) trivial
 refine .cutU (z:= .ret) (fun u20=> .inr (u20)=o17) (fun (u20:Unit)=>⟨[(6,.b false)],[],0⟩) ?_ fun K21=>?_
 ·rintro u20 rfl
  dsimp only at hm
  refine .blkR (.seqR ?_)
  obtain rfl:=oi hm
  exact WX.rt [] (.inl R) Tryz.results40 (.tmp R .nil) R (fun _ _ _ h=>h) trivial
 refine .iter (fun (st17:Int×Int)=>⟨[(8,.i st17.1),(7,.i st17.2),(3,.q 0 0),(2,.f qI p2)],[(0,.bx 37 [lF qI p0.1.1,lI p0.1.2.1,lF qI p0.1.2.2.1,lF qT p0.1.2.2.2,lF qI p0.2.1.1,lI p0.2.1.2.1,lF qI p0.2.1.2.2.1,lF qT p0.2.1.2.2.2,lF qI p0.2.2])],1⟩) eo17 [] R ?_
 intro st17 res17 hm ih17 ho17
 unfold y2j at hm
 refine .seq (.seq (.reg (.mv R (.mv R (.op (O.len sl32 Z R R) R (.bi R (.nil (.seqN ?_))))))))
 rcases ifS hm with ⟨hc,hm⟩ | ⟨hc,hm⟩
 ·refine .cT R hc ?_
  refine .skip (.seqN (.seq (.block (.seq ?_))))
  refine .join1 (fun (b22:Bool)=>y1s p0 p2 st17 b22=some res17) (fun b22=>⟨[(35,.b b22),(8,.i st17.1),(7,.i st17.2),(3,.q 0 0),(2,.f qI p2)],[(0,.bx 37 [lF qI p0.1.1,lI p0.1.2.1,lF qI p0.1.2.2.1,lF qT p0.1.2.2.2,lF qI p0.2.1.1,lI p0.2.1.2.1,lF qI p0.2.1.2.2.1,lF qT p0.2.1.2.2.2,lF qI p0.2.2])],1⟩) ?_ ?_
  ·intro b22 hm
   unfold y1s at hm
   rcases ifS hm with ⟨hc,hm⟩ | ⟨hc,hm⟩
   ·refine .cT R hc ?_
    exact .seq (.reg (.sa R (.nil (.seqN (.ret (.seqR (.blkR (.seqR (.seqR ((K21 _ (ho17 _ (oi hm).symm)).sub [] R))))))))))
   ·refine .cF R hc ?_
    refine .skip (.seqN (.seq ?_))
    refine .sub (τ:=⟨[(8,.i st17.1),(7,.i st17.2),(3,.q 0 0),(2,.f qI p2)],[(0,.bx 37 [lF qI p0.1.1,lI p0.1.2.1,lF qI p0.1.2.2.1,lF qT p0.1.2.2.2,lF qI p0.2.1.1,lI p0.2.1.2.1,lF qI p0.2.1.2.2.1,lF qT p0.2.1.2.2.2,lF qI p0.2.2])],1⟩) ?_ [] R
    refine bS hm fun x24 ex24 hm=>bS hm fun r25 er25 hm=>?_
    refine .drg 1 [(1,[]),(1,[oT]),(1,[]),(1,[]),(1,[]),(1,[oF,oF,oF,oT,oT]),(1,fA 3 (tT 3)),(1,tT 7),(1,tT 8)] [_,_,_,_,_,_,_,_,_] ⟨[(7,.i r25),(8,.i st17.1),(3,.q 0 0),(2,.f qI p2)],[(0,.bx 37 [lF qI p0.1.1,lI p0.1.2.1,lF qI p0.1.2.2.1,lF qT p0.1.2.2.2,lF qI p0.2.1.1,lI p0.2.1.2.1,lF qI p0.2.1.2.2.1,lF qT p0.2.1.2.2.2,lF qI p0.2.2])],1⟩ ⟨O.faP y6K Z R R,O.lg (l':=[lF qI p0.1.1,lI p0.1.2.1,lF qI p0.1.2.2.1,lF qT p0.1.2.2.2]) ag35 Z R (.B R) R R R,O.mv Z R R,O.mv Z R R,O.mv Z R R,O.ix sl32 Z R R ex24 R,O.ld nag3 Z R (.E lv3) R R,O.ca0 (y4k er25) cf73 R R Z R R R,O.as Z R R,trivial⟩ (by kernel_rfl) R ?_
    refine .seqN (.seq (.reg (.mv R (.bi R (.nil (.seqN ?_))))))
    rcases ifS hm with ⟨hc,hm⟩ | ⟨hc,hm⟩
    ·refine .cT R hc ?_
     exact .seq (.reg (.sa R (.nil (.seqN (.ret (.blkR (.seqR (.seqR ((K21 _ (ho17 _ (oi hm).symm)).sub [] R)))))))))
    ·refine .cF R hc ?_
     exact .skip (.blkN (.seqN (.reg (.mv R (.bi R (.sa R (.nil ((ih17 _ (oi hm).symm).sub [] R))))))))
  ·intro Jj23
   refine .sub (τ:=⟨[(8,.i st17.1),(7,.i st17.2),(3,.q 0 0),(2,.f qI p2)],[(0,.bx 37 [lF qI p0.1.1,lI p0.1.2.1,lF qI p0.1.2.2.1,lF qT p0.1.2.2.2,lF qI p0.2.1.1,lI p0.2.1.2.1,lF qI p0.2.1.2.2.1,lF qT p0.2.1.2.2.2,lF qI p0.2.2])],1⟩) ?_ [] R
   refine bS hm fun x26 ex26 hm=>bS hm fun r27 er27 hm=> .drP 8 [(1,[]),(1,[oT]),(1,[]),(1,[]),(1,[oF,oF,oT,oT]),(1,fA 2 (tT 3)),(1,tT 6),(1,tT 7)] [_,_,_,_,_,_,_,_] ⟨O.faP y6k Z R R,O.ld nag32 Z R (.B R) R R,O.mv Z R R,O.mv Z R R,O.ix sl32 Z R R ex26 R,O.ld nag3 Z R (.E lv3) R R,O.ca0 (y5i er27) cf44 R R Z R R R,O.not Z R R,trivial⟩ fun hp28=>?_
   rcases ifS hm with ⟨hc29,hm⟩ | ⟨hc29,hm⟩
   ·skip
    exact .drF hp28 [(1,tT 8),(1,tT 9),(1,tT 9),(1,tT 11),(1,tT 9),(1,tT 9),(1,tA 9 (fA 3 (tT 2))),(1,tA 9 (fA 3 (tT 3))),(1,tT 16),(1,tT 17)] [_,_,_,_,_,_,_,_,_,_] ⟨[(35,.b true),(8,.i st17.1),(7,.i st17.2),(3,.q 0 0),(2,.f qI p2)],[(0,.bx 37 [lF qI p0.1.1,lI p0.1.2.1,lF qI p0.1.2.2.1,lF qT p0.1.2.2.2,lF qI p0.2.1.1,lI p0.2.1.2.1,lF qI p0.2.1.2.2.1,lF qT p0.2.1.2.2.2,lF qI p0.2.2])],1⟩ ⟨O.kn (O.mv Z R R) hc29,O.skip R R R R,O.skip R R R R,O.skip R R R R,O.skip R R R R,O.skip R R R R,O.skip R R R R,O.skip R R R R,O.skip R R R R,O.pkT Z R R R R,trivial⟩ (by kernel_rfl) R ((Jj23 _ hm).sub [] R)
   ·skip
    exact bS hm fun x30 ex30 hm=>bS hm fun x31 ex31 hm=>bS hm fun r32 er32 hm=> .drF hp28 [(1,tT 8),(1,tT 9),(1,tT 9),(1,tT 11),(1,tT 9),(1,tT 9),(1,tA 9 (fA 3 (tT 2))),(1,tA 9 (fA 3 (tT 3))),(1,tT 16),(1,tT 17)] [_,_,_,_,_,_,_,_,_,_] ⟨[(35,.b r32),(8,.i st17.1),(7,.i st17.2),(3,.q 0 0),(2,.f qI p2)],[(0,.bx 37 [lF qI p0.1.1,lI p0.1.2.1,lF qI p0.1.2.2.1,lF qT p0.1.2.2.2,lF qI p0.2.1.1,lI p0.2.1.2.1,lF qI p0.2.1.2.2.1,lF qT p0.2.1.2.2.2,lF qI p0.2.2])],1⟩ ⟨O.kn (O.mv Z R R) hc29,O.mv (Gu.mk R R) R R,O.mv (Gu.mk R R) R R,O.sh sl32 (Gu.mk R R) R R ex30 R,O.mv (Gu.mk R R) R R,O.mv (Gu.mk R R) R R,O.ix sl32 (Gu.mk R R) R R ex31 R,O.ld nag3 (Gu.mk R R) R (.E lv3) R R,O.ca0 (y5i er32) cf44 R R (Gu.mk R R) R R R,O.pkF Z R R R R,trivial⟩ (by kernel_rfl) R ((Jj23 _ hm).sub [] R)
 ·refine .cF R hc ?_
  exact .exit (.seqX (.seqX ((K19 _ (ho17 _ (oi hm).symm)).sub [] R)))
def y1C (st11:Int×Int) (n19:Int):Option ((Int×Int) ⊕ (Int ⊕ (Int×Int))):=
 some (.inl (W (st11.1 + 1),n19))
def y2t (p0:AutT) (p2:List Int) (st11:Int×Int):Option ((Int×Int) ⊕ (Int ⊕ (Int×Int))):=
 if decide (st11.1 < (p2.length:Int)) then
  (idx p2 st11.1).bind fun x21=>
  (y2q p0.1 x21).bind fun r22=>
  if(!r22) then
   y1C st11 st11.2
  else
   (idx p2 st11.1).bind fun x23=>
   (y1v p0 st11.2 x23).bind fun r24=>
   if decide (r24 < 0) then
    some (.inr (.inr (st11)))
   else
    y1C st11 r24
 else
  some (.inr (.inl st11.2))
def y2o (p0:AutT) (p1:Int) (p2:List Int):Option (Int×Int):=
 (iter (y2t p0 p2) (0,p1)).bind fun o11=>
 match o11 with
 | .inl u15=>
  some (u15,(p2.length:Int))
 | .inr (u17)=>
  some (u17.2,u17.1)
theorem y5F {p0:AutT} {p1:Int} {p2:List Int} {r:Int×Int} (hm:y2o p0 p1 p2=some r):
  Fw Tryz.prog 27 ⟨0,[]⟩ [.a [lF qI p0.1,lI p0.2.1,lF qI p0.2.2.1,lF qT p0.2.2.2],.i p1,.f qI p2] [] (.tp [.i r.1,.i r.2]) []:=by
 unfold y2o at hm
 refine Fw.mk' Tryz.func27 R Tryz.ntmps27 R R (fun C=>?_) R R
 refine .seq (.reg (.op (O.box 0 R Z R R R) R (.sa R (.sa R (.nil (.seqN (.seq (.seq (.reg (.sa R (.nil (.seqN (.block (bS hm fun o11 eo11 hm=>?_))))))))))))))
 refine .cutU (z:= .exit 0) (fun u15=> .inl u15=o11) (fun (u15:Int)=>⟨[(1,.i u15),(2,.f qI p2)],[],0⟩) ?_ fun K16=>?_
 ·rintro u15 rfl
  dsimp only at hm
  refine .blkE (.seqN (.seq (.reg (.mv R (.mv R (.op (O.len sl32 Z R R) R (.sa R (.sa R (.nil (.seqN (.ret ?_)))))))))))
  obtain rfl:=oi hm
  exact WX.rt [] (.inl R) Tryz.results27 (.tmp R (.tmp R .nil)) R (fun _ _ _ h=>h) trivial
 refine .cutU (z:= .ret) (fun u17=> .inr (u17)=o11) (fun (u17:Int×Int)=>⟨[(7,.i u17.1),(6,.i u17.2)],[],0⟩) ?_ fun K18=>?_
 ·rintro u17 rfl
  dsimp only at hm
  refine .blkR (.seqR ?_)
  obtain rfl:=oi hm
  exact WX.rt [] (.inl R) Tryz.results27 (.tmp R (.tmp R .nil)) R (fun _ _ _ h=>h) trivial
 refine .iter (fun (st11:Int×Int)=>⟨[(8,.i st11.1),(3,.q 0 0),(1,.i st11.2),(2,.f qI p2)],[(0,.bx 35 [lF qI p0.1,lI p0.2.1,lF qI p0.2.2.1,lF qT p0.2.2.2])],1⟩) eo11 [] R ?_
 intro st11 res11 hm ih11 ho11
 unfold y2t at hm
 refine .seq (.seq (.reg (.mv R (.mv R (.op (O.len sl32 Z R R) R (.bi R (.nil (.seqN ?_))))))))
 rcases ifS hm with ⟨hc,hm⟩ | ⟨hc,hm⟩
 ·refine .cT R hc ?_
  refine .skip (.seqN ?_)
  refine .join1 (fun (n19:Int)=>y1C st11 n19=some res11) (fun n19=>⟨[(8,.i st11.1),(3,.q 0 0),(1,.i n19),(2,.f qI p2)],[(0,.bx 35 [lF qI p0.1,lI p0.2.1,lF qI p0.2.2.1,lF qT p0.2.2.2])],1⟩) ?_ ?_
  ·intro n19 hm
   unfold y1C at hm
   exact .reg (.mv R (.bi R (.sa R (.nil ((ih11 _ (oi hm).symm).sub [] R)))))
  ·intro Jj20
   refine .block (.seq (.seq ?_))
   refine .sub (τ:=⟨[(8,.i st11.1),(3,.q 0 0),(1,.i st11.2),(2,.f qI p2)],[(0,.bx 35 [lF qI p0.1,lI p0.2.1,lF qI p0.2.2.1,lF qT p0.2.2.2])],1⟩) ?_ [] R
   refine bS hm fun x21 ex21 hm=>bS hm fun r22 er22 hm=>?_
   refine .drw [(1,[]),(1,[oT]),(1,[]),(1,[]),(1,[oF,oF,oT,oT]),(1,fA 2 (tT 3)),(1,tT 6),(1,tT 7)] [_,_,_,_,_,_,_,_] ⟨[(23,.b (!r22)),(8,.i st11.1),(3,.q 0 0),(1,.i st11.2),(2,.f qI p2)],[(0,.bx 35 [lF qI p0.1,lI p0.2.1,lF qI p0.2.2.1,lF qT p0.2.2.2])],1⟩ ⟨O.faP y2E Z R R,O.ld nag32 Z R (.B R) R R,O.mv Z R R,O.mv Z R R,O.ix sl32 Z R R ex21 R,O.ld nag3 Z R (.E lv3) R R,O.ca0 (y5i er22) cf44 R R Z R R R,O.not Z R R,trivial⟩ (by kernel_rfl) R ?_
   refine .seqN ?_
   rcases ifS hm with ⟨hc,hm⟩ | ⟨hc,hm⟩
   ·refine .cT R hc ?_
    exact .exit (.seqX (.blkE ((Jj20 _ hm).sub [] R)))
   ·refine .cF R hc ?_
    refine .skip (.seqN (.seq ?_))
    refine .sub (τ:=⟨[(8,.i st11.1),(3,.q 0 0),(1,.i st11.2),(2,.f qI p2)],[(0,.bx 35 [lF qI p0.1,lI p0.2.1,lF qI p0.2.2.1,lF qT p0.2.2.2])],1⟩) ?_ [] R
    refine bS hm fun x23 ex23 hm=>bS hm fun r24 er24 hm=>?_
    refine .drw [(1,[]),(1,[]),(1,[]),(1,[]),(1,[oF,oF,oT,oT]),(1,fA 2 (tT 3)),(1,tT 6),(1,tT 7)] [_,_,_,_,_,_,_,_] ⟨[(9,.i r24),(8,.i st11.1),(3,.q 0 0),(1,.i st11.2),(2,.f qI p2)],[(0,.bx 35 [lF qI p0.1,lI p0.2.1,lF qI p0.2.2.1,lF qT p0.2.2.2])],1⟩ ⟨O.lg (l':=[lF qI p0.1,lI p0.2.1,lF qI p0.2.2.1,lF qT p0.2.2.2]) ag35 Z R (.B R) R R R,O.mv Z R R,O.mv Z R R,O.mv Z R R,O.ix sl32 Z R R ex23 R,O.ld nag3 Z R (.E lv3) R R,O.ca0 (y4k er24) cf73 R R Z R R R,O.as Z R R,trivial⟩ (by kernel_rfl) R ?_
    refine .seqN (.seq (.seq (.reg (.mv R (.bi R (.nil (.seqN ?_)))))))
    rcases ifS hm with ⟨hc,hm⟩ | ⟨hc,hm⟩
    ·refine .cT R hc ?_
     exact .seq (.reg (.mv R (.mv R (.sa R (.sa R (.nil (.seqN (.ret (.seqR (.blkR (.seqR (.seqR ((K18 _ (ho11 _ (oi hm).symm)).sub [] R)))))))))))))
    ·refine .cF R hc ?_
     exact .skip (.seqN (.reg (.mv R (.sa R (.nil (.blkN ((Jj20 _ hm).sub [] R)))))))
 ·refine .cF R hc ?_
  exact .exit (.seqX (.seqX ((K16 _ (ho11 _ (oi hm).symm)).sub [] R)))
def y1D (st38:Int) (b46:Bool):Option (Int ⊕ Int):=
 if b46 then
  some (.inl (W (st38 - 1)))
 else
  some (.inr st38)
def y1E (p0:List Int) (st27:Int×List Int) (st38:Int):Option (Int ⊕ Int):=
 if decide (st38 > 0) then
  (idx st27.2 (W (st38 - 1))).bind fun x50=>
  (idx p0 st27.1).bind fun x51=>
  y1D st38 (decide (x50 > x51))
 else
  y1D st38 false
def y2u (p0:List Int) (st27:Int×List Int):Option ((Int×List Int) ⊕ (List Int)):=
 if decide (st27.1 < (p0.length:Int)) then
  (iter (y1E p0 st27) (st27.2.length:Int)).bind fun o38=>
  (slc3 st27.2 0 o38 o38).bind fun x41=>
  (idx p0 st27.1).bind fun x42=>
  (slc st27.2 o38 (st27.2.length:Int)).bind fun x43=>
  (app ([x42]:List Int) x43).bind fun x44=>
  (app x41 x44).bind fun x45=>
  some (.inl (W (st27.1 + 1),x45))
 else
  some (.inr st27.2)
def y3j (p0:List Int):Option (List Int):=
 (iter (y2u p0) (0,([]:List Int))).bind fun o27=>
 some o27
theorem y7r {p0:List Int} {r:List Int} (hm:y3j p0=some r):
  Fw Tryz.prog 113 ⟨0,[]⟩ [.f qI p0] [] (.f qI r) []:=by
 unfold y3j at hm
 refine Fw.mk' Tryz.func113 R Tryz.ntmps113 R R (fun C=>?_) R R
 refine .seq (.reg (.sa R (.nil (.seqN (.seq (.reg (.sa R (.nil (.seqN (.seq (.seq (.reg (.sa R (.nil (.seqN (.block (bS hm fun o27 eo27 hm=>?_)))))))))))))))))
 refine .cut1 (z:= .exit 0) o27 (fun (o27:List Int)=>⟨[(3,.f qI o27)],[],0⟩) ?_ fun K29=>?_
 ·skip
  refine .blkE (.seqN (.seq (.reg (.mv R (.sa R (.nil (.seqN (.ret ?_))))))))
  obtain rfl:=oi hm
  exact WX.rt [] (.inl R) Tryz.results113 (.tmp R .nil) R (fun _ _ _ h=>h) trivial
 refine .cnt 3 R (.c (.nf (r:=qI)) .n) R (.iter (fun (st27:Int×List Int)=>⟨[(4,.i st27.1),(3,.f qI st27.2),(0,.f qI p0)],[],0⟩) eo27 [] R ?_)
 intro st27 res27 hm ih27 ho27
 unfold y2u at hm
 refine .seq (.seq (.reg (.mv R (.mv R (.op (O.len sl32 Z R R) R (.bi R (.nil (.seqN ?_))))))))
 rcases ifS hm with ⟨hc,hm⟩ | ⟨hc,hm⟩
 ·refine .cT R hc ?_
  refine .skip (.seqN (.seq (.block (.seq (.reg (.mv R (.op (O.len sl32 Z R R) R (.sa R (.nil (.seqN (.seq (.block (bS hm fun o38 eo38 hm=>?_)))))))))))))
  refine .cut1 (z:= .exit 2) o38 (fun (o38:Int)=>⟨[(5,.i o38),(4,.i st27.1),(3,.f qI st27.2),(0,.f qI p0)],[],0⟩) ?_ fun K40=>?_
  ·skip
   refine .blkE (.seqN ?_)
   refine .sub (τ:=⟨[(5,.i o38),(4,.i st27.1),(3,.f qI st27.2),(0,.f qI p0)],[],0⟩) ?_ [] R
   refine bS hm fun x41 ex41 hm=>bS hm fun x42 ex42 hm=>bS hm fun x43 ex43 hm=>bS hm fun x44 ex44 hm=>bS hm fun x45 ex45 hm=>?_
   refine .drz 2 [(8,0)] [(0,[],[],[]),(0,[],[],[]),(0,[],[],[]),(0,[oT,oT,oT],[],[]),(0,[],[],[]),(0,[],[],[]),(0,[oF,oF,oF,oF,oT,oT],[],[]),(0,[oF,oF,oF,oF,oT,oT,oT],[],[]),(0,[oF,oF,oF,oF,oT,oT,oT,oT],[],[]),(0,[],[],[]),(0,[],[],[]),(0,[oF,oF,oF,oF,oF,oF,oF,oF,oF,oT,oT],[],[]),(1,[oF,oF,oF,oF,oT,oT,oT,oT,oT,oT,oT,oT],[],[]),(2,[oT,oT,oT,oT,oT,oT,oT,oT,oT,oT,oT,oT,oT],[],[(8,0)]),(2,[oT,oT,oT,oT,oT,oT,oT,oT,oT,oT,oT,oT,oT,oT],[],[(8,0)])] [_,_,_,_,_,_,_,_,_,_,_,_,_,_,_] ⟨[(3,.f qI x45),(4,.i st27.1),(0,.f qI p0)],[],2⟩ ⟨O.mv Z R R,O.mv Z R R,O.mv Z R R,O.s30f sl32 Z R R R R ex41 R,O.mv Z R R,O.mv Z R R,O.ix sl32 Z R R ex42 R,O.ld nag3 Z R (.E lv3) R R,O.bsO (r:=qI) (zs:=([x42]:List Int)) 0 R bs32 R R Z R R R (.c .k .n) R R R,O.mv Z R R,O.mv Z R R,O.sf sl32 Z R R ex43 R,O.ap 1 Tryz.underlying32 el3 R R Z R R (.fr R) ex44 R,O.apf Tryz.underlying32 el3 R Z R (.ow R R) ex45 R,O.as Z R R,trivial⟩ (by kernel_rfl) R ?_
   exact .blkN (.seqN (.reg (.mv R (.bi R (.sa R (.nil ((ih27 _ (oi hm).symm).sub [] R)))))))
  refine .iter (fun (st38:Int)=>⟨[(5,.i st38),(4,.i st27.1),(3,.f qI st27.2),(0,.f qI p0)],[],0⟩) eo38 [] R ?_
  intro st38 res38 hm ih38 ho38
  unfold y1E at hm
  refine .seq ?_
  refine .join1 (fun (b46:Bool)=>y1D st38 b46=some res38) (fun b46=>⟨[(27,.b b46),(5,.i st38),(4,.i st27.1),(3,.f qI st27.2),(0,.f qI p0)],[],0⟩) ?_ ?_
  ·intro b46 hm
   unfold y1D at hm
   rcases ifS hm with ⟨hc,hm⟩ | ⟨hc,hm⟩
   ·refine .cT R hc ?_
    exact .skip (.seqN (.block (.reg (.mv R (.bi R (.sa R (.nil (.blkN ((ih38 _ (oi hm).symm).sub [] R)))))))))
   ·refine .cF R hc ?_
    exact .exit (.seqX (.seqX ((K40 _ (ho38 _ (oi hm).symm)).sub [] R)))
  ·intro Jj47
   refine .sub (τ:=⟨[(5,.i st38),(4,.i st27.1),(3,.f qI st27.2),(0,.f qI p0)],[],0⟩) ?_ [] R
   refine .drP 2 [(0,[]),(0,[oT])] [_,_] ⟨O.mv Z R R,O.bi Z R R R R,trivial⟩ fun hp48=>?_
   rcases ifS hm with ⟨hc49,hm⟩ | ⟨hc49,hm⟩
   ·skip
    exact bS hm fun x50 ex50 hm=>bS hm fun x51 ex51 hm=> .drF hp48 [(0,[oT,oT]),(0,tT 3),(0,tT 3),(0,tA 3 (fA 1 (tT 1))),(0,tT 6),(0,tT 7),(0,tT 3),(0,tT 3),(0,tA 3 (fA 5 (tT 2))),(0,tA 3 (fA 5 (tT 3))),(0,tT 12),(0,tT 13)] [_,_,_,_,_,_,_,_,_,_,_,_] ⟨[(27,.b (decide (x50 > x51))),(5,.i st38),(4,.i st27.1),(3,.f qI st27.2),(0,.f qI p0)],[],0⟩ ⟨O.kn (O.mv Z R R) hc49,O.mv (Gu.mk R R) R R,O.mv (Gu.mk R R) R R,O.bi (Gu.mk R R) R R R R,O.ix sl32 (Gu.mk R R) R R ex50 R,O.ld nag3 (Gu.mk R R) R (.E lv3) R R,O.mv (Gu.mk R R) R R,O.mv (Gu.mk R R) R R,O.ix sl32 (Gu.mk R R) R R ex51 R,O.ld nag3 (Gu.mk R R) R (.E lv3) R R,O.bi (Gu.mk R R) R R R R,O.pkT Z R R R R,trivial⟩ (by kernel_rfl) R ((Jj47 _ hm).sub [] R)
   ·skip
    exact .drF hp48 [(0,[oT,oT]),(0,tT 3),(0,tT 3),(0,tA 3 (fA 1 (tT 1))),(0,tT 6),(0,tT 7),(0,tT 3),(0,tT 3),(0,tA 3 (fA 5 (tT 2))),(0,tA 3 (fA 5 (tT 3))),(0,tT 12),(0,tT 13)] [_,_,_,_,_,_,_,_,_,_,_,_] ⟨[(27,.b false),(5,.i st38),(4,.i st27.1),(3,.f qI st27.2),(0,.f qI p0)],[],0⟩ ⟨O.kn (O.mv Z R R) hc49,O.skip R R R R,O.skip R R R R,O.skip R R R R,O.skip R R R R,O.skip R R R R,O.skip R R R R,O.skip R R R R,O.skip R R R R,O.skip R R R R,O.skip R R R R,O.pkF Z R R R R,trivial⟩ (by kernel_rfl) R ((Jj47 _ hm).sub [] R)
 ·refine .cF R hc ?_
  exact .exit (.seqX (.seqX ((K29 _ (ho27 _ (oi hm).symm)).sub [] R)))
def y3k (p0:AutT×AutT×List Int) (p1:List Int) (p2:List Int):Option Bool:=
 (idx p1 1).bind fun x1=>
 (y2o p0.2.1 x1 p2).bind fun r2=>
 (idx p1 1).bind fun x3=>
 (y3j p2).bind fun r4=>
 (y2o p0.2.1 x3 r4).bind fun r5=>
 some (((decide (r2.2 < (p2.length:Int))) || (decide (r5.2 < (p2.length:Int)))) || (r2.1 != r5.1))
theorem y7s {p0:AutT×AutT×List Int} {p1:List Int} {p2:List Int} {r:Bool} (hm:y3k p0 p1 p2=some r):
  Fw Tryz.prog 41 ⟨0,[]⟩ [.a [lF qI p0.1.1,lI p0.1.2.1,lF qI p0.1.2.2.1,lF qT p0.1.2.2.2,lF qI p0.2.1.1,lI p0.2.1.2.1,lF qI p0.2.1.2.2.1,lF qT p0.2.1.2.2.2,lF qI p0.2.2],.f qI p1,.f qI p2] [] (.b r) []:=by
 unfold y3k at hm
 refine Fw.mk' Tryz.func41 R Tryz.ntmps41 R R (fun C=>?_) R R
 refine .seq (.reg (.op (O.box 0 R Z R R R) R (.sa R (.nil (.seqN (.seq ?_))))))
 refine .sub (τ:=⟨[(3,.q 0 0),(1,.f qI p1),(2,.f qI p2)],[(0,.bx 37 [lF qI p0.1.1,lI p0.1.2.1,lF qI p0.1.2.2.1,lF qT p0.1.2.2.2,lF qI p0.2.1.1,lI p0.2.1.2.1,lF qI p0.2.1.2.2.1,lF qT p0.2.1.2.2.2,lF qI p0.2.2])],1⟩) ?_ [] R
 refine bS hm fun x1 ex1 hm=>bS hm fun r2 er2 hm=>?_
 refine .drw [(1,[]),(1,[oT]),(1,[]),(1,[oF,oF,oT]),(1,[oF,oF,oT,oT]),(1,[]),(1,tT 6),(1,tT 7),(1,tT 8),(1,tT 8),(1,tT 9),(1,tT 11)] [_,_,_,_,_,_,_,_,_,_,_,_] ⟨[(8,.i r2.2),(7,.i r2.1),(3,.q 0 0),(1,.f qI p1),(2,.f qI p2)],[(0,.bx 37 [lF qI p0.1.1,lI p0.1.2.1,lF qI p0.1.2.2.1,lF qT p0.1.2.2.2,lF qI p0.2.1.1,lI p0.2.1.2.1,lF qI p0.2.1.2.2.1,lF qT p0.2.1.2.2.2,lF qI p0.2.2])],1⟩ ⟨O.faP y6L Z R R,O.lg (l':=[lF qI p0.2.1.1,lI p0.2.1.2.1,lF qI p0.2.1.2.2.1,lF qT p0.2.1.2.2.2]) ag35 Z R (.B R) R R R,O.mv Z R R,O.ix sl32 Z R R ex1 R,O.ld nag3 Z R (.E lv3) R R,O.mv Z R R,O.ca0 (y5F er2) cf27 R R Z R R R,O.mv Z R R,O.ex Z R R R,O.ex Z R R R,O.as Z R R,O.as Z R R,trivial⟩ (by kernel_rfl) R ?_
 refine .seqN (.seq ?_)
 refine .sub (τ:=⟨[(8,.i r2.2),(7,.i r2.1),(3,.q 0 0),(1,.f qI p1),(2,.f qI p2)],[(0,.bx 37 [lF qI p0.1.1,lI p0.1.2.1,lF qI p0.1.2.2.1,lF qT p0.1.2.2.2,lF qI p0.2.1.1,lI p0.2.1.2.1,lF qI p0.2.1.2.2.1,lF qT p0.2.1.2.2.2,lF qI p0.2.2])],1⟩) ?_ [] R
 refine bS hm fun x3 ex3 hm=>bS hm fun r4 er4 hm=>bS hm fun r5 er5 hm=>?_
 refine .drw [(1,[]),(1,[oT]),(1,[]),(1,[oF,oF,oT]),(1,[oF,oF,oT,oT]),(1,[]),(1,[oF,oF,oF,oF,oF,oT]),(1,tT 7),(1,tT 8),(1,tT 9),(1,tT 9),(1,tT 10),(1,tT 12)] [_,_,_,_,_,_,_,_,_,_,_,_,_] ⟨[(10,.i r5.2),(9,.i r5.1),(8,.i r2.2),(7,.i r2.1),(2,.f qI p2)],[],1⟩ ⟨O.faP y6L Z R R,O.lg (l':=[lF qI p0.2.1.1,lI p0.2.1.2.1,lF qI p0.2.1.2.2.1,lF qT p0.2.1.2.2.2]) ag35 Z R (.B R) R R R,O.mv Z R R,O.ix sl32 Z R R ex3 R,O.ld nag3 Z R (.E lv3) R R,O.mv Z R R,O.ca0 (y7r er4) cf113 R R Z R R R,O.ca0 (y5F er5) cf27 R R Z R R R,O.mv Z R R,O.ex Z R R R,O.ex Z R R R,O.as Z R R,O.as Z R R,trivial⟩ (by kernel_rfl) R ?_
 refine .seqN (.seq (.reg (.mv R (.mv R (.op (O.len sl32 Z R R) R (.bi R (.mv R ?_)))))))
 refine .cut 5 (fun (v6:Bool)=>((decide (r2.2 < (p2.length:Int))) || (decide (r5.2 < (p2.length:Int))))=v6) (fun v6=>⟨[(41,.b v6),(9,.i r5.1),(7,.i r2.1)],[],1⟩) ?_ ?_
 ·rintro _ rfl
  refine .mv R ?_
  refine .cut 4 (fun (v8:Bool)=>(((decide (r2.2 < (p2.length:Int))) || (decide (r5.2 < (p2.length:Int)))) || (r2.1 != r5.1))=v8) (fun v8=>⟨[(46,.b v8)],[],1⟩) ?_ ?_
  ·rintro _ rfl
   refine .sa R (.nil (.seqN (.ret ?_)))
   obtain rfl:=oi hm
   exact WX.rt [] (.inl R) Tryz.results41 (.tmp R .nil) R (fun _ _ _ h=>h) trivial
  ·intro J9
   rcases Bool.eq_false_or_eq_true ((decide (r2.2 < (p2.length:Int))) || (decide (r5.2 < (p2.length:Int)))) with hc | hc
   ·refine .know (d:=42) R hc ?_
    exact .sk R (.sk R (.sk R (.op (O.pkT Z R R R R) R ((J9 true (orT hc).symm).sub [] R))))
   ·refine .know (d:=42) R hc ?_
    exact .op (O.mv (Gu.mk R R) R R) R (.op (O.mv (Gu.mk R R) R R) R (.op (O.bi (Gu.mk R R) R R R R) R (.op (O.pkF Z R R R R) R ((J9 (r2.1 != r5.1) (orF hc).symm).sub [] R))))
 ·intro J7
  rcases Bool.eq_false_or_eq_true (decide (r2.2 < (p2.length:Int))) with hc | hc
  ·refine .know (d:=36) R hc ?_
   exact .sk R (.sk R (.sk R (.sk R (.op (O.pkT Z R R R R) R ((J7 true (orT hc).symm).sub [] R)))))
  ·refine .know (d:=36) R hc ?_
   exact .op (O.mv (Gu.mk R R) R R) R (.op (O.mv (Gu.mk R R) R R) R (.op (O.len sl32 (Gu.mk R R) R R) R (.op (O.bi (Gu.mk R R) R R R R) R (.op (O.pkF Z R R R R) R ((J7 (decide (r5.2 < (p2.length:Int))) (orF hc).symm).sub [] R)))))
def y3W (p0:Int) (p1:Int):Option Int:=
 (y1W p0).bind fun r1=>
 (y1W p1).bind fun r2=>
 if r1 then
  if r2 then
   some 0
  else
   some (-1)
 else
  if r2 then
   some 1
  else
   if decide (p0 < p1) then
    some (-1)
   else
    if decide (p0 > p1) then
     some 1
    else
     some 0
theorem y6x {p0:Int} {p1:Int} {r:Int} (hm:y3W p0 p1=some r):
  Fw Tryz.prog 172 ⟨0,[]⟩ [.i p0,.i p1] [] (.i r) []:=by
 unfold y3W at hm
 refine Fw.mk' Tryz.func172 R Tryz.ntmps172 R R (fun C=>?_) R R
 refine .seq (.reg (.sa R (.nil (.seqN (.seq (.reg (.mv R (bS hm fun r1 er1 hm=> .op (O.ca0 (y5d er1) cf214 R R Z R R R) R (.sa R (.nil (.seqN (.seq (.reg (.mv R (bS hm fun r2 er2 hm=> .op (O.ca0 (y5d er2) cf214 R R Z R R R) R (.sa R (.nil (.seqN (.seq (.seq (.reg (.mv R (.nil (.seqN ?_))))))))))))))))))))))))
 rcases ifS hm with ⟨hc,hm⟩ | ⟨hc,hm⟩
 ·refine .cT R hc ?_
  refine .seq (.seq (.reg (.mv R (.nil (.seqN ?_)))))
  rcases ifS hm with ⟨hc,hm⟩ | ⟨hc,hm⟩
  ·refine .cT R hc ?_
   refine .seq (.reg (.sa R (.nil (.seqN (.ret (.seqR (.seqR ?_)))))))
   obtain rfl:=oi hm
   exact WX.rt [] (.inl R) Tryz.results172 (.tmp R .nil) R (fun _ _ _ h=>h) trivial
  ·refine .cF R hc ?_
   refine .skip (.seqN (.seq (.reg (.sa R (.nil (.seqN (.ret (.seqR ?_))))))))
   obtain rfl:=oi hm
   exact WX.rt [] (.inl R) Tryz.results172 (.tmp R .nil) R (fun _ _ _ h=>h) trivial
 ·refine .cF R hc ?_
  refine .skip (.seqN (.seq (.seq (.reg (.mv R (.nil (.seqN ?_)))))))
  rcases ifS hm with ⟨hc,hm⟩ | ⟨hc,hm⟩
  ·refine .cT R hc ?_
   refine .seq (.reg (.sa R (.nil (.seqN (.ret (.seqR ?_))))))
   obtain rfl:=oi hm
   exact WX.rt [] (.inl R) Tryz.results172 (.tmp R .nil) R (fun _ _ _ h=>h) trivial
  ·refine .cF R hc ?_
   refine .skip (.seqN (.seq (.seq (.reg (.mv R (.mv R (.bi R (.nil (.seqN ?_)))))))))
   rcases ifS hm with ⟨hc,hm⟩ | ⟨hc,hm⟩
   ·refine .cT R hc ?_
    refine .seq (.reg (.sa R (.nil (.seqN (.ret (.seqR ?_))))))
    obtain rfl:=oi hm
    exact WX.rt [] (.inl R) Tryz.results172 (.tmp R .nil) R (fun _ _ _ h=>h) trivial
   ·refine .cF R hc ?_
    refine .skip (.seqN (.seq (.seq (.reg (.mv R (.mv R (.bi R (.nil (.seqN ?_)))))))))
    rcases ifS hm with ⟨hc,hm⟩ | ⟨hc,hm⟩
    ·refine .cT R hc ?_
     refine .seq (.reg (.sa R (.nil (.seqN (.ret (.seqR ?_))))))
     obtain rfl:=oi hm
     exact WX.rt [] (.inl R) Tryz.results172 (.tmp R .nil) R (fun _ _ _ h=>h) trivial
    ·refine .cF R hc ?_
     refine .skip (.seqN (.seq (.reg (.sa R (.nil (.seqN (.ret ?_)))))))
     obtain rfl:=oi hm
     exact WX.rt [] (.inl R) Tryz.results172 (.tmp R .nil) R (fun _ _ _ h=>h) trivial
def y2Y (p0:List Int) (p1:List Int) (st6:Int):Option (Int ⊕ (Unit ⊕ Int)):=
 if decide (st6 < (p0.length:Int)) then
  (idx p0 st6).bind fun x12=>
  if decide (st6≥(p1.length:Int)) then
   some (.inr (.inr (1)))
  else
   (idx p1 st6).bind fun x13=>
   (y3W x12 x13).bind fun r14=>
   if(r14 != 0) then
    some (.inr (.inr (r14)))
   else
    some (.inl (W (st6 + 1)))
 else
  some (.inr (.inl ()))
def y3U (p0:List Int) (p1:List Int):Option Int:=
 (iter (y2Y p0 p1) 0).bind fun o6=>
 match o6 with
 | .inl u8=>
  if decide ((p0.length:Int) < (p1.length:Int)) then
   some (-1)
  else
   some 0
 | .inr (u10)=>
  some u10
theorem y7L {p0:List Int} {p1:List Int} {r:Int} (hm:y3U p0 p1=some r):
  Fw Tryz.prog 173 ⟨0,[]⟩ [.f qI p0,.f qI p1] [] (.i r) []:=by
 unfold y3U at hm
 refine Fw.mk' Tryz.func173 R Tryz.ntmps173 R R (fun C=>?_) R R
 refine .seq (.reg (.sa R (.nil (.seqN (.seq (.seq (.reg (.mv R (.op (O.len sl32 Z R R) R (.mv R (.nil (.seqN (.block (bS hm fun o6 eo6 hm=>?_))))))))))))))
 refine .cutU (z:= .exit 0) (fun u8=> .inl u8=o6) (fun (u8:Unit)=>⟨[(0,.f qI p0),(1,.f qI p1)],[],0⟩) ?_ fun K9=>?_
 ·rintro u8 rfl
  dsimp only at hm
  refine .blkE (.seqN (.seq (.seq (.reg (.mv R (.op (O.len sl32 Z R R) R (.mv R (.op (O.len sl32 Z R R) R (.bi R (.nil (.seqN ?_)))))))))))
  rcases ifS hm with ⟨hc,hm⟩ | ⟨hc,hm⟩
  ·refine .cT R hc ?_
   refine .seq (.reg (.sa R (.nil (.seqN (.ret (.seqR ?_))))))
   obtain rfl:=oi hm
   exact WX.rt [] (.inl R) Tryz.results173 (.tmp R .nil) R (fun _ _ _ h=>h) trivial
  ·refine .cF R hc ?_
   refine .skip (.seqN (.seq (.reg (.sa R (.nil (.seqN (.ret ?_)))))))
   obtain rfl:=oi hm
   exact WX.rt [] (.inl R) Tryz.results173 (.tmp R .nil) R (fun _ _ _ h=>h) trivial
 refine .cutU (z:= .ret) (fun u10=> .inr (u10)=o6) (fun (u10:Int)=>⟨[(4,.i u10)],[],0⟩) ?_ fun K11=>?_
 ·rintro u10 rfl
  dsimp only at hm
  refine .blkR (.seqR ?_)
  obtain rfl:=oi hm
  exact WX.rt [] (.inl R) Tryz.results173 (.tmp R .nil) R (fun _ _ _ h=>h) trivial
 refine .iter (fun (st6:Int)=>⟨[(11,.i st6),(10,.i (p0.length:Int)),(9,.f qI p0),(0,.f qI p0),(1,.f qI p1)],[],0⟩) eo6 [] R ?_
 intro st6 res6 hm ih6 ho6
 unfold y2Y at hm
 refine .seq (.reg (.bi R (.nil (.seqN (.seq ?_)))))
 rcases ifS hm with ⟨hc,hm⟩ | ⟨hc,hm⟩
 ·refine .cT R hc ?_
  refine .skip (.seqN (.seq (.block (.seq (.reg (.mv R (bS hm fun x12 ex12 hm=> .op (O.ix sl32 Z R R ex12 R) R (.op (O.ld nag3 Z R (.E lv3) R R) R (.sa R (.sa R (.nil (.seqN (.seq (.seq (.reg (.mv R (.mv R (.op (O.len sl32 Z R R) R (.bi R (.nil (.seqN ?_)))))))))))))))))))))
  rcases ifS hm with ⟨hc,hm⟩ | ⟨hc,hm⟩
  ·refine .cT R hc ?_
   exact .seq (.reg (.sa R (.nil (.seqN (.ret (.seqR (.blkR (.seqR (.seqR ((K11 _ (ho6 _ (oi hm).symm)).sub [] R))))))))))
  ·refine .cF R hc ?_
   refine .skip (.seqN (.seq (.reg (.mv R (.mv R (bS hm fun x13 ex13 hm=> .op (O.ix sl32 Z R R ex13 R) R (.op (O.ld nag3 Z R (.E lv3) R R) R (.sa R (.nil (.seqN (.seq (.reg (.mv R (.mv R (bS hm fun r14 er14 hm=> .op (O.ca0 (y6x er14) cf172 R R Z R R R) R (.sa R (.nil (.seqN (.seq (.reg (.mv R (.bi R (.nil (.seqN ?_))))))))))))))))))))))))
   rcases ifS hm with ⟨hc,hm⟩ | ⟨hc,hm⟩
   ·refine .cT R hc ?_
    exact .seq (.reg (.mv R (.sa R (.nil (.seqN (.ret (.blkR (.seqR (.seqR ((K11 _ (ho6 _ (oi hm).symm)).sub [] R))))))))))
   ·refine .cF R hc ?_
    exact .skip (.blkN (.seqN (.reg (.bi R (.mv R (.nil ((ih6 _ (oi hm).symm).sub [] R)))))))
 ·refine .cF R hc ?_
  exact .exit (.seqX (.seqX ((K9 _ (ho6 _ (oi hm).symm)).sub [] R)))
def y3a (p0:List Int) (st4:Int):Option (Int ⊕ (Unit ⊕ Int)):=
 if decide (st4 < (p0.length:Int)) then
  (idx p0 st4).bind fun x10=>
  if(x10 != 0) then
   some (.inr (.inr (x10)))
  else
   some (.inl (W (st4 + 1)))
 else
  some (.inr (.inl ()))
def y6t (p0:List Int):Option Int:=
 (iter (y3a p0) 0).bind fun o4=>
 match o4 with
 | .inl u6=>
  some 0
 | .inr (u8)=>
  some u8
theorem yaq {p0:List Int} {r:Int} (hm:y6t p0=some r):
  Fw Tryz.prog 171 ⟨0,[]⟩ [.f qI p0] [] (.i r) []:=by
 unfold y6t at hm
 refine Fw.mk' Tryz.func171 R Tryz.ntmps171 R R (fun C=>?_) R R
 refine .seq (.reg (.sa R (.nil (.seqN (.seq (.reg (.sa R (.nil (.seqN (.seq (.seq (.reg (.mv R (.op (O.len sl32 Z R R) R (.mv R (.nil (.seqN (.block (bS hm fun o4 eo4 hm=>?_)))))))))))))))))))
 refine .cutU (z:= .exit 0) (fun u6=> .inl u6=o4) (fun (u6:Unit)=>⟨[(3,.i 0)],[],0⟩) ?_ fun K7=>?_
 ·rintro u6 rfl
  dsimp only at hm
  refine .blkE (.seqN (.seq (.reg (.mv R (.sa R (.nil (.seqN (.ret ?_))))))))
  obtain rfl:=oi hm
  exact WX.rt [] (.inl R) Tryz.results171 (.tmp R .nil) R (fun _ _ _ h=>h) trivial
 refine .cutU (z:= .ret) (fun u8=> .inr (u8)=o4) (fun (u8:Int)=>⟨[(2,.i u8)],[],0⟩) ?_ fun K9=>?_
 ·rintro u8 rfl
  dsimp only at hm
  refine .blkR (.seqR ?_)
  obtain rfl:=oi hm
  exact WX.rt [] (.inl R) Tryz.results171 (.tmp R .nil) R (fun _ _ _ h=>h) trivial
 refine .iter (fun (st4:Int)=>⟨[(8,.i st4),(7,.i (p0.length:Int)),(6,.f qI p0),(3,.i 0)],[],0⟩) eo4 [] R ?_
 intro st4 res4 hm ih4 ho4
 unfold y3a at hm
 refine .seq (.reg (.bi R (.nil (.seqN (.seq ?_)))))
 rcases ifS hm with ⟨hc,hm⟩ | ⟨hc,hm⟩
 ·refine .cT R hc ?_
  refine .skip (.seqN (.seq (.block (.seq (.reg (bS hm fun x10 ex10 hm=> .op (O.ix sl32 Z R R ex10 R) R (.op (O.ld nag3 Z R (.E lv3) R R) R (.sa R (.nil (.seqN (.seq (.reg (.mv R (.mv R (.bi R (.nil (.seqN ?_)))))))))))))))))
  rcases ifS hm with ⟨hc,hm⟩ | ⟨hc,hm⟩
  ·refine .cT R hc ?_
   exact .seq (.reg (.mv R (.sa R (.nil (.seqN (.ret (.blkR (.seqR (.seqR ((K9 _ (ho4 _ (oi hm).symm)).sub [] R))))))))))
  ·refine .cF R hc ?_
   exact .skip (.blkN (.seqN (.reg (.bi R (.mv R (.nil ((ih4 _ (oi hm).symm).sub [] R)))))))
 ·refine .cF R hc ?_
  exact .exit (.seqX (.seqX ((K7 _ (ho4 _ (oi hm).symm)).sub [] R)))
def y5j (p0:List Int) (p1:List Int):Option Int:=
 (y3W (p0.length:Int) (p1.length:Int)).bind fun r1=>
 (y3U p0 p1).bind fun r2=>
 (y6t ([r1,r2]:List Int)).bind fun r3=>
 some r3
theorem y9G {p0:List Int} {p1:List Int} {r:Int} (hm:y5j p0 p1=some r):
  Fw Tryz.prog 110 ⟨0,[]⟩ [.f qI p0,.f qI p1] [] (.i r) []:=by
 unfold y5j at hm
 refine Fw.mk' Tryz.func110 R Tryz.ntmps110 R R (fun C=>?_) R R
 refine .seq (.reg (.sa R (.nil (.seqN (.seq (.reg (.mv R (.op (O.len sl32 Z R R) R (.mv R (.op (O.len sl32 Z R R) R (bS hm fun r1 er1 hm=> .op (O.ca0 (y6x er1) cf172 R R Z R R R) R (.mv R (.mv R (bS hm fun r2 er2 hm=> .op (O.ca0 (y7L er2) cf173 R R Z R R R) R (.op (O.bsF (r:=qI) (zs:=([r1,r2]:List Int)) bs32 R R Z R R R (.c .k (.c .k .n)) R R R) R (bS hm fun r3 er3 hm=> .op (O.ca0 (yaq er3) cf171 R R Z R R R) R (.sa R (.nil (.seqN (.ret ?_))))))))))))))))))))
 obtain rfl:=oi hm
 exact WX.rt [] (.inl R) Tryz.results110 (.tmp R .nil) R (fun _ _ _ h=>h) trivial
def y1i (st389:Int×List Int) (l392:List Int):Option ((Int×List Int) ⊕ (List Int)):=
 some (.inl (W (st389.1 + 1),l392))
def y1j (p0:AutT×AutT×List Int) (p1:List Int) (st204:Int) (st311:Int×List Int) (st363:Int×List Int) (st389:Int×List Int):Option ((Int×List Int) ⊕ (List Int)):=
 if decide (st389.1 < (p0.2.2.length:Int)) then
  (idx p0.2.2 st311.1).bind fun x394=>
  (idx p0.2.2 st363.1).bind fun x395=>
  (idx p0.2.2 st389.1).bind fun x396=>
  (slc ([x394,x395,x396]:List Int) 0 st204).bind fun x397=>
  (y2X p0 p1 x397).bind fun r398=>
  (if r398 then
   (y3k p0 p1 x397).bind fun r410=>
   some r410
  else
   some false).bind fun b399=>
  (if b399 then
   (if st389.2.isEmpty then
    some true
   else
    (y5j x397 st389.2).bind fun r409=>
    some (decide (r409 < 0))).bind fun b406=>
   some b406
  else
   some false).bind fun b402=>
  if b402 then
   (nzl x397).bind fun _=>
   y1i st389 x397
  else
   y1i st389 st389.2
 else
  some (.inr st389.2)
def y1U (p0:AutT×AutT×List Int) (p1:List Int) (st204:Int) (st311:Int×List Int) (st363:Int×List Int):Option ((Int×List Int) ⊕ (List Int)):=
 if decide (st363.1 < (p0.2.2.length:Int)) then
  (iter (y1j p0 p1 st204 st311 st363) (0,st363.2)).bind fun o389=>
  some (.inl (W (st363.1 + 1),o389))
 else
  some (.inr st363.2)
def y1V (p0:AutT×AutT×List Int) (p1:List Int) (st204:Int) (st311:Int×List Int):Option ((Int×List Int) ⊕ (List Int)):=
 if decide (st311.1 < (p0.2.2.length:Int)) then
  (iter (y1U p0 p1 st204 st311) (0,st311.2)).bind fun o363=>
  some (.inl (W (st311.1 + 1),o363))
 else
  some (.inr st311.2)
def y2M (p0:AutT×AutT×List Int) (p1:List Int) (p2:Int) (st204:Int):Option (Int ⊕ (Unit ⊕ (List Int))):=
 if decide (st204≤p2) then
  (iter (y1V p0 p1 st204) (0,([]:List Int))).bind fun o311=>
  if(!o311.isEmpty) then
   some (.inr (.inr (o311)))
  else
   some (.inl (W (st204 + 1)))
 else
  some (.inr (.inl ()))
def y1m (p0:AutT×AutT×List Int) (p1:List Int) (p2:Int):Option (List Int):=
 (iter (y2M p0 p1 p2) 2).bind fun o204=>
 match o204 with
 | .inl u206=>
  some ([]:List Int)
 | .inr (u208)=>
  some u208
theorem y5M {p0:AutT×AutT×List Int} {p1:List Int} {p2:Int} {r:List Int} (hm:y1m p0 p1 p2=some r):
  Fw Tryz.prog 37 ⟨0,[]⟩ [.a [lF qI p0.1.1,lI p0.1.2.1,lF qI p0.1.2.2.1,lF qT p0.1.2.2.2,lF qI p0.2.1.1,lI p0.2.1.2.1,lF qI p0.2.1.2.2.1,lF qT p0.2.1.2.2.2,lF qI p0.2.2],.f qI p1,.i p2] [] (.f qI r) []:=by
 unfold y1m at hm
 refine Fw.mk' Tryz.func37 R Tryz.ntmps37 R R (fun C=>?_) R R
 refine .seq (.reg (.op (O.box 0 R Z R R R) R (.sa R (.nil (.seqN (.seq (.seq (.reg (.sa R (.nil (.seqN (.block (bS hm fun o204 eo204 hm=>?_)))))))))))))
 refine .cutU (z:= .exit 0) (fun u206=> .inl u206=o204) (fun (u206:Unit)=>⟨[],[],0⟩) ?_ fun K207=>?_
 ·rintro u206 rfl
  dsimp only at hm
  refine .blkE (.seqN (.seq (.reg (.sa R (.nil (.seqN (.ret (.cnt 6 R (.c (.nf (r:=qI)) .n) R ?_))))))))
  obtain rfl:=oi hm
  exact WX.rt [] (.inl R) Tryz.results37 (.tmp R .nil) R (fun _ _ _ h=>h) trivial
 refine .cutU (z:= .ret) (fun u208=> .inr (u208)=o204) (fun (u208:List Int)=>⟨[(6,sL (lFz qI u208))],[],0⟩) ?_ fun K209=>?_
 ·rintro u208 rfl
  dsimp only at hm
  refine .blkR (.seqR (.cnt 6 R (.c .zf .n) R ?_))
  obtain rfl:=oi hm
  exact WX.rt [] (.inl R) Tryz.results37 (.tmp R .nil) R (fun _ _ _ h=>h) trivial
 refine .iter (fun (st204:Int)=>⟨[(7,.i st204),(3,.q 0 0),(1,.f qI p1),(2,.i p2)],[(0,.bx 37 [lF qI p0.1.1,lI p0.1.2.1,lF qI p0.1.2.2.1,lF qT p0.1.2.2.2,lF qI p0.2.1.1,lI p0.2.1.2.1,lF qI p0.2.1.2.2.1,lF qT p0.2.1.2.2.2,lF qI p0.2.2])],1⟩) eo204 [] R ?_
 intro st204 res204 hm ih204 ho204
 unfold y2M at hm
 refine .seq (.seq (.reg (.mv R (.mv R (.bi R (.nil (.seqN ?_)))))))
 rcases ifS hm with ⟨hc,hm⟩ | ⟨hc,hm⟩
 ·refine .cT R hc ?_
  refine .skip (.seqN (.seq (.block (.seq (.reg (.sa R (.nil (.seqN (.seq (.seq (.reg (.sa R (.nil (.seqN (.block (bS hm fun o311 eo311 hm=>?_))))))))))))))))
  refine .cut1 (z:= .exit 2) o311 (fun (o311:List Int)=>⟨[(8,sL (lFz qI o311)),(7,.i st204),(3,.q 0 0),(1,.f qI p1),(2,.i p2)],[(0,.bx 37 [lF qI p0.1.1,lI p0.1.2.1,lF qI p0.1.2.2.1,lF qT p0.1.2.2.2,lF qI p0.2.1.1,lI p0.2.1.2.1,lF qI p0.2.1.2.2.1,lF qT p0.2.1.2.2.2,lF qI p0.2.2])],1⟩) ?_ fun K313=>?_
  ·skip
   refine .blkE (.seqN (.seq (.reg (.mv R (.op (O.nenil Tryz.underlying32 Z R R R) R (.nil (.seqN ?_)))))))
   rcases ifS hm with ⟨hc,hm⟩ | ⟨hc,hm⟩
   ·refine .cT R hc ?_
    exact .seq (.reg (.mv R (.sa R (.nil (.seqN (.ret (.blkR (.seqR (.seqR ((K209 _ (ho204 _ (oi hm).symm)).sub [] R))))))))))
   ·refine .cF R hc ?_
    exact .skip (.blkN (.seqN (.reg (.mv R (.bi R (.sa R (.nil ((ih204 _ (oi hm).symm).sub [] R))))))))
  refine .cnt 8 R (.c (.nz (r:=qI)) .n) R (.iter (fun (st311:Int×List Int)=>⟨[(9,.i st311.1),(8,sL (lFz qI st311.2)),(7,.i st204),(3,.q 0 0),(1,.f qI p1),(2,.i p2)],[(0,.bx 37 [lF qI p0.1.1,lI p0.1.2.1,lF qI p0.1.2.2.1,lF qT p0.1.2.2.2,lF qI p0.2.1.1,lI p0.2.1.2.1,lF qI p0.2.1.2.2.1,lF qT p0.2.1.2.2.2,lF qI p0.2.2])],1⟩) eo311 [] R ?_)
  intro st311 res311 hm ih311 ho311
  unfold y1V at hm
  refine .seq (.seq (.reg (.mv R (.op (O.faP y6k Z R R) R (.op (O.ld nag32 Z R (.B R) R R) R (.op (O.len sl32 Z R R) R (.bi R (.nil (.seqN ?_)))))))))
  rcases ifS hm with ⟨hc,hm⟩ | ⟨hc,hm⟩
  ·refine .cT R hc ?_
   refine .skip (.seqN (.seq (.block (.seq (.reg (.sa R (.nil (.seqN (.block (bS hm fun o363 eo363 hm=>?_))))))))))
   refine .cut1 (z:= .exit 4) o363 (fun (o363:List Int)=>⟨[(9,.i st311.1),(8,sL (lFz qI o363)),(7,.i st204),(3,.q 0 0),(1,.f qI p1),(2,.i p2)],[(0,.bx 37 [lF qI p0.1.1,lI p0.1.2.1,lF qI p0.1.2.2.1,lF qT p0.1.2.2.2,lF qI p0.2.1.1,lI p0.2.1.2.1,lF qI p0.2.1.2.2.1,lF qT p0.2.1.2.2.2,lF qI p0.2.2])],1⟩) ?_ fun K365=>?_
   ·skip
    exact .blkE (.blkN (.seqN (.reg (.mv R (.bi R (.sa R (.nil ((ih311 _ (oi hm).symm).sub [] R))))))))
   refine .iter (fun (st363:Int×List Int)=>⟨[(10,.i st363.1),(9,.i st311.1),(8,sL (lFz qI st363.2)),(7,.i st204),(3,.q 0 0),(1,.f qI p1),(2,.i p2)],[(0,.bx 37 [lF qI p0.1.1,lI p0.1.2.1,lF qI p0.1.2.2.1,lF qT p0.1.2.2.2,lF qI p0.2.1.1,lI p0.2.1.2.1,lF qI p0.2.1.2.2.1,lF qT p0.2.1.2.2.2,lF qI p0.2.2])],1⟩) eo363 [] R ?_
   intro st363 res363 hm ih363 ho363
   unfold y1U at hm
   refine .seq (.seq (.reg (.mv R (.op (O.faP y6k Z R R) R (.op (O.ld nag32 Z R (.B R) R R) R (.op (O.len sl32 Z R R) R (.bi R (.nil (.seqN ?_)))))))))
   rcases ifS hm with ⟨hc,hm⟩ | ⟨hc,hm⟩
   ·refine .cT R hc ?_
    refine .skip (.seqN (.seq (.block (.seq (.reg (.sa R (.nil (.seqN (.block (bS hm fun o389 eo389 hm=>?_))))))))))
    refine .cut1 (z:= .exit 6) o389 (fun (o389:List Int)=>⟨[(10,.i st363.1),(9,.i st311.1),(8,sL (lFz qI o389)),(7,.i st204),(3,.q 0 0),(1,.f qI p1),(2,.i p2)],[(0,.bx 37 [lF qI p0.1.1,lI p0.1.2.1,lF qI p0.1.2.2.1,lF qT p0.1.2.2.2,lF qI p0.2.1.1,lI p0.2.1.2.1,lF qI p0.2.1.2.2.1,lF qT p0.2.1.2.2.2,lF qI p0.2.2])],1⟩) ?_ fun K391=>?_
    ·skip
     exact .blkE (.blkN (.seqN (.reg (.mv R (.bi R (.sa R (.nil ((ih363 _ (oi hm).symm).sub [] R))))))))
    refine .iter (fun (st389:Int×List Int)=>⟨[(11,.i st389.1),(10,.i st363.1),(9,.i st311.1),(8,sL (lFz qI st389.2)),(7,.i st204),(3,.q 0 0),(1,.f qI p1),(2,.i p2)],[(0,.bx 37 [lF qI p0.1.1,lI p0.1.2.1,lF qI p0.1.2.2.1,lF qT p0.1.2.2.2,lF qI p0.2.1.1,lI p0.2.1.2.1,lF qI p0.2.1.2.2.1,lF qT p0.2.1.2.2.2,lF qI p0.2.2])],1⟩) eo389 [] R ?_
    intro st389 res389 hm ih389 ho389
    unfold y1j at hm
    refine .seq (.seq (.reg (.mv R (.op (O.faP y6k Z R R) R (.op (O.ld nag32 Z R (.B R) R R) R (.op (O.len sl32 Z R R) R (.bi R (.nil (.seqN ?_)))))))))
    rcases ifS hm with ⟨hc,hm⟩ | ⟨hc,hm⟩
    ·refine .cT R hc ?_
     refine .skip (.seqN ?_)
     refine .join1 (fun (l392:List Int)=>y1i st389 l392=some res389) (fun l392=>⟨[(8,sL (lFz qI l392)),(11,.i st389.1),(10,.i st363.1),(9,.i st311.1),(7,.i st204),(3,.q 0 0),(1,.f qI p1),(2,.i p2)],[(0,.bx 37 [lF qI p0.1.1,lI p0.1.2.1,lF qI p0.1.2.2.1,lF qT p0.1.2.2.2,lF qI p0.2.1.1,lI p0.2.1.2.1,lF qI p0.2.1.2.2.1,lF qT p0.2.1.2.2.2,lF qI p0.2.2])],1⟩) ?_ ?_
     ·intro l392 hm
      unfold y1i at hm
      exact .reg (.mv R (.bi R (.sa R (.nil ((ih389 _ (oi hm).symm).sub [] R)))))
     ·intro Jj393
      refine .block (.seq ?_)
      refine .sub (τ:=⟨[(11,.i st389.1),(10,.i st363.1),(9,.i st311.1),(8,sL (lFz qI st389.2)),(7,.i st204),(3,.q 0 0),(1,.f qI p1),(2,.i p2)],[(0,.bx 37 [lF qI p0.1.1,lI p0.1.2.1,lF qI p0.1.2.2.1,lF qT p0.1.2.2.2,lF qI p0.2.1.1,lI p0.2.1.2.1,lF qI p0.2.1.2.2.1,lF qT p0.2.1.2.2.2,lF qI p0.2.2])],1⟩) ?_ [] R
      refine bS hm fun x394 ex394 hm=>bS hm fun x395 ex395 hm=>bS hm fun x396 ex396 hm=>bS hm fun x397 ex397 hm=>?_
      refine .drw [(1,[]),(1,[oT]),(1,[]),(1,tT 3),(1,tT 4),(1,[]),(1,[oF,oF,oF,oF,oF,oT]),(1,[]),(1,fA 5 (tT 3)),(1,fA 5 (tT 4)),(1,[]),(1,[oF,oF,oF,oF,oF,oF,oF,oF,oF,oF,oT]),(1,[]),(1,fA 10 (tT 3)),(1,fA 10 (tT 4)),(1,tT 15),(1,[]),(1,tT 17),(1,tT 18)] [_,_,_,_,_,_,_,_,_,_,_,_,_,_,_,_,_,_,_] ⟨[(12,.f qI x397),(11,.i st389.1),(10,.i st363.1),(9,.i st311.1),(8,sL (lFz qI st389.2)),(7,.i st204),(3,.q 0 0),(1,.f qI p1),(2,.i p2)],[(0,.bx 37 [lF qI p0.1.1,lI p0.1.2.1,lF qI p0.1.2.2.1,lF qT p0.1.2.2.2,lF qI p0.2.1.1,lI p0.2.1.2.1,lF qI p0.2.1.2.2.1,lF qT p0.2.1.2.2.2,lF qI p0.2.2])],1⟩ ⟨O.faP y6k Z R R,O.ld nag32 Z R (.B R) R R,O.mv Z R R,O.ix sl32 Z R R ex394 R,O.ld nag3 Z R (.E lv3) R R,O.faP y6k Z R R,O.ld nag32 Z R (.B R) R R,O.mv Z R R,O.ix sl32 Z R R ex395 R,O.ld nag3 Z R (.E lv3) R R,O.faP y6k Z R R,O.ld nag32 Z R (.B R) R R,O.mv Z R R,O.ix sl32 Z R R ex396 R,O.ld nag3 Z R (.E lv3) R R,O.bsF (r:=qI) (zs:=([x394,x395,x396]:List Int)) bs32 R R Z R R R (.c .k (.c .k (.c .k .n))) R R R,O.mv Z R R,O.sh sl32 Z R R ex397 R,O.as Z R R,trivial⟩ (by kernel_rfl) R ?_
      refine .seqN (.seq (.reg (.op (O.lg (l':=[lF qI p0.1.1,lI p0.1.2.1,lF qI p0.1.2.2.1,lF qT p0.1.2.2.2,lF qI p0.2.1.1,lI p0.2.1.2.1,lF qI p0.2.1.2.2.1,lF qT p0.2.1.2.2.2,lF qI p0.2.2]) ag37 Z R (.B R) R R R) R (.mv R (.mv R (bS hm fun r398 er398 hm=> .op (O.ca0 (y7c er398) cf40 R R Z R R R) R (.mv R (bS hm fun b399 eb399 hm=>?_))))))))
      refine .cut 5 (fun (v400:Bool)=>b399=v400) (fun v400=>⟨[(66,.b v400),(12,.f qI x397),(11,.i st389.1),(10,.i st363.1),(9,.i st311.1),(8,sL (lFz qI st389.2)),(7,.i st204),(3,.q 0 0),(1,.f qI p1),(2,.i p2)],[(0,.bx 37 [lF qI p0.1.1,lI p0.1.2.1,lF qI p0.1.2.2.1,lF qT p0.1.2.2.2,lF qI p0.2.1.1,lI p0.2.1.2.1,lF qI p0.2.1.2.2.1,lF qT p0.2.1.2.2.2,lF qI p0.2.2])],1⟩) ?_ ?_
      ·rintro _ rfl
       refine .mv R (bS hm fun b402 eb402 hm=>?_)
       refine .cut 9 (fun (v403:Bool)=>b402=v403) (fun v403=>⟨[(76,.b v403),(12,.f qI x397),(11,.i st389.1),(10,.i st363.1),(9,.i st311.1),(8,sL (lFz qI st389.2)),(7,.i st204),(3,.q 0 0),(1,.f qI p1),(2,.i p2)],[(0,.bx 37 [lF qI p0.1.1,lI p0.1.2.1,lF qI p0.1.2.2.1,lF qT p0.1.2.2.2,lF qI p0.2.1.1,lI p0.2.1.2.1,lF qI p0.2.1.2.2.1,lF qT p0.2.1.2.2.2,lF qI p0.2.2])],1⟩) ?_ ?_
       ·rintro _ rfl
        refine .nil (.seqN ?_)
        rcases ifS hm with ⟨hc,hm⟩ | ⟨hc,hm⟩
        ·refine .cT R hc ?_
         exact .reg (.mv R (.sa R (bS hm fun _ z405 hm=> .cnt 8 R (.c (.fz z405) .n) R (.nil (.blkN ((Jj393 _ hm).sub [] R))))))
        ·refine .cF R hc ?_
         exact .skip (.blkN ((Jj393 _ hm).sub [] R))
       ·intro J404
        rcases ifS eb402 with ⟨hc,hm⟩ | ⟨hc,hm⟩
        ·refine .know (d:=67) R hc ?_
         refine .op (O.mv (Gu.mk R R) R R) R (.op (O.eqnil Tryz.underlying32 (Gu.mk R R) R R R) R (.op (O.mv (Gu.mk R R) R R) R (bS hm fun b406 eb406 hm=>?_)))
         refine .cut 5 (fun (v407:Bool)=>b406=v407) (fun v407=>⟨[(75,.b v407),(67,.b true),(12,.f qI x397),(11,.i st389.1),(10,.i st363.1),(9,.i st311.1),(8,sL (lFz qI st389.2)),(7,.i st204),(3,.q 0 0),(1,.f qI p1),(2,.i p2)],[(0,.bx 37 [lF qI p0.1.1,lI p0.1.2.1,lF qI p0.1.2.2.1,lF qT p0.1.2.2.2,lF qI p0.2.1.1,lI p0.2.1.2.1,lF qI p0.2.1.2.2.1,lF qT p0.2.1.2.2.2,lF qI p0.2.2])],1⟩) ?_ ?_
         ·rintro _ rfl
          exact .op (O.pkT Z R R R R) R ((J404 b406 (oi hm).symm).sub [] R)
         ·intro J408
          rcases ifS eb406 with ⟨hc,hm⟩ | ⟨hc,hm⟩
          ·refine .know (d:=70) R hc ?_
           exact .sk R (.sk R (.sk R (.sk R (.op (O.pkT (Gu.mk R R) R R R R) R ((J408 true (oi hm).symm).sub [] R)))))
          ·refine .know (d:=70) R hc ?_
           exact .op (O.mv (Gu.mk R R) R R) R (.op (O.mv (Gu.mk R R) R R) R (bS hm fun r409 er409 hm=> .op (O.ca0c (y9G er409) cf110 R R (Gu.mk R R) R ⟨⟨R,.rf⟩,⟨R,(.c .zf .n)⟩,trivial⟩ R R) R (.op (O.bi (Gu.mk R R) R R R R) R (.op (O.pkF (Gu.mk R R) R R R R) R ((J408 (decide (r409 < 0)) (oi hm).symm).sub [] R)))))
        ·refine .know (d:=67) R hc ?_
         exact .sk R (.sk R (.sk R (.op (O.skipU R R R) R (.op (O.skipU R R R) R (.op (O.skipU R R R) R (.op (O.skipU R R R) R (.sk R (.op (O.pkF Z R R R R) R ((J404 false (oi hm).symm).sub [] R)))))))))
      ·intro J401
       rcases ifS eb399 with ⟨hc,hm⟩ | ⟨hc,hm⟩
       ·refine .know (d:=61) R hc ?_
        exact .op (O.lg (l':=[lF qI p0.1.1,lI p0.1.2.1,lF qI p0.1.2.2.1,lF qT p0.1.2.2.2,lF qI p0.2.1.1,lI p0.2.1.2.1,lF qI p0.2.1.2.2.1,lF qT p0.2.1.2.2.2,lF qI p0.2.2]) ag37 (Gu.mk R R) R (.B R) R R R) R (.op (O.mv (Gu.mk R R) R R) R (.op (O.mv (Gu.mk R R) R R) R (bS hm fun r410 er410 hm=> .op (O.ca0 (y7s er410) cf41 R R (Gu.mk R R) R R R) R (.op (O.pkT Z R R R R) R ((J401 r410 (oi hm).symm).sub [] R)))))
       ·refine .know (d:=61) R hc ?_
        exact .sk R (.sk R (.sk R (.sk R (.op (O.pkF Z R R R R) R ((J401 false (oi hm).symm).sub [] R)))))
    ·refine .cF R hc ?_
     exact .exit (.seqX (.seqX ((K391 _ (ho389 _ (oi hm).symm)).sub [] R)))
   ·refine .cF R hc ?_
    exact .exit (.seqX (.seqX ((K365 _ (ho363 _ (oi hm).symm)).sub [] R)))
  ·refine .cF R hc ?_
   exact .exit (.seqX (.seqX ((K313 _ (ho311 _ (oi hm).symm)).sub [] R)))
 ·refine .cF R hc ?_
  exact .exit (.seqX (.seqX ((K207 _ (ho204 _ (oi hm).symm)).sub [] R)))
def y1G (b52:Bool):Option (Int ⊕ (Unit ⊕ Bool)):=
 some (.inr (.inr (b52)))
def yt (r2:(AutT×AutT×List Int)) (n3:Int) (r5:(Int×List Int×List Int)×Bool×Int) (r12:AutT×List (List Int)×Int) (r26:List (List Int)×Int) (st40:Int):Option (Int ⊕ (Unit ⊕ Bool)):=
 if decide (st40 < (r26.1.length:Int)) then
  (idx r26.1 st40).bind fun x48=>
  (y5a r12.1 0 x48).bind fun r49=>
  (idx r12.2.1 r49.1).bind fun x50=>
  (y1m r2 x50 n3).bind fun r51=>
  if decide ((r51.length:Int) > 0) then
   (idx r26.1 st40).bind fun x54=>
   (y3g r5.1.2.1 x54).bind fun r55=>
   if r55 then
    (y3g r5.1.2.2 r51).bind fun r58=>
    y1G r58
   else
    y1G false
  else
   some (.inl (W (st40 + 1)))
 else
  some (.inr (.inl ()))
def yZ (st23:Int×Bool) (b59:Bool):Option ((Int×Bool) ⊕ Bool):=
 some (.inl (W (st23.1 + 1),b59))
def y1a (r2:(AutT×AutT×List Int)) (n3:Int) (r12:AutT×List (List Int)×Int) (st23:Int×Bool):Option ((Int×Bool) ⊕ Bool):=
 if decide (st23.1 < (r12.2.1.length:Int)) then
  if st23.2 then
   yZ st23 true
  else
   (idx r12.2.1 st23.1).bind fun x63=>
   (y1m r2 x63 n3).bind fun r64=>
   yZ st23 (decide ((r64.length:Int) > 0))
 else
  some (.inr st23.2)
def y1b (r2:(AutT×AutT×List Int)) (n3:Int):Option Bool:=
 (y4U r2 n3).bind fun r5=>
 (if (r5.2.2 != 0) then
  some true
 else
  (if r5.2.1 then
   (y4G r5.1).bind fun r77=>
   some (!r77)
  else
   some false).bind fun b74=>
  some b74).bind fun b6=>
 (if b6 then
  some true
 else
  (if (!r5.2.1) then
   (if ((r5.1.1 != 1) || (decide ((r5.1.2.2.length:Int) > n3))) then
    some true
   else
    (y5o r2 ([]:List Int) r5.1).bind fun r73=>
    some (r73 != 0)).bind fun b70=>
   some b70
  else
   some false).bind fun b65=>
  some b65).bind fun b9=>
 if b9 then
  some false
 else
  (yj ([r2.1,r2.2.1]:List AutT)).bind fun r12=>
  if(r12.2.2 != 0) then
   some false
  else
   (iter (y1a r2 n3 r12) (0,false)).bind fun o23=>
   if(o23 == r5.2.1) then
    some false
   else
    (y1o r12.1 3 false).bind fun r26=>
    if(r26.2 != 0) then
     some (r26.2 == 3)
    else
     (iter (yt r2 n3 r5 r12 r26) 0).bind fun o40=>
     match o40 with
     | .inl u42=>
      some (r5.2.1 || (decide ((r5.1.2.1.length:Int) > 3)))
     | .inr (u46)=>
      some u46
def y3m (p0:(Int×y2h)×(Int×y2h)×Int) (p1:Bool) (p2:Bool):Option Bool:=
 (y4s).bind fun r1=>
 if(!r1) then
  some false
 else
  (y3P p0 p1).bind fun r2=>
  if p2 then
   y1b r2 3
  else
   y1b r2 2
theorem y6C {p0:(Int×y2h)×(Int×y2h)×Int} {p1:Bool} {p2:Bool} {r:Bool} (hm:y3m p0 p1 p2=some r):
  Fw Tryz.prog 6 ⟨0,[]⟩ [.a (lx30 p0),.b p1,.b p2] [] (.b r) []:=by
 unfold y3m at hm
 refine Fw.mk' Tryz.func6 R Tryz.ntmps6 R R (fun C=>?_) R R
 refine .seq (.reg (.op (O.box 0 R Z R R R) R (.sa R (.nil (.seqN (.seq (.seq (.reg (bS hm fun r1 er1 hm=> .op (O.ca0 (y7u er1) cf15 R R Z R R R) R (.op (O.not Z R R) R (.nil (.seqN ?_))))))))))))
 rcases ifS hm with ⟨hc,hm⟩ | ⟨hc,hm⟩
 ·refine .cT R hc ?_
  refine .seq (.reg (.sa R (.nil (.seqN (.ret (.seqR ?_))))))
  obtain rfl:=oi hm
  exact WX.rt [] (.inl R) Tryz.results6 (.tmp R .nil) R (fun _ _ _ h=>h) trivial
 ·refine .cF R hc ?_
  refine .skip (.seqN (.seq (.reg (.op (O.lg (l':=(lx30 p0)) ag30 Z R (.B R) R R R) R (.mv R (bS hm fun r2 er2 hm=> .op (O.ca (r':= .g [lF qI r2.1.1,lI r2.1.2.1,lF qI r2.1.2.2.1,lF qT r2.1.2.2.2,lH 1,lI r2.2.1.2.1,lH 2,lH 3,lH 4]) [1,2,3,4] [(0,ROW qI 3 r2.2.1.1),(1,ROW qI 3 r2.2.1.2.2.1),(2,ROW qT 124 r2.2.1.2.2.2),(3,ROW qI 3 r2.2.2)] (some 5) (y7I er2) cf16 R R Z R R R R ⟨⟨_,R,fun _ _ _ _ h=>h⟩,⟨_,R,fun _ _ _ _ h=>h⟩,⟨_,R,fun _ _ _ _ h=>h⟩,⟨_,R,fun _ _ _ _ h=>h⟩,trivial⟩ (fun _ _ _ h=>h) R) R (.op (O.al 5 R zz37 R Z R) R (.op (O.st ag37.sz Z R R R R R) R (.nil (.seqN (.seq (.reg (.sa R (.nil (.seqN ?_)))))))))))))))
  refine .join1 (fun (n3:Int)=>y1b r2 n3=some r) (fun n3=>⟨[(8,.i n3),(7,.q 0 0)],[(0,.bx 37 [lF qI r2.1.1,lI r2.1.2.1,lF qI r2.1.2.2.1,lF qT r2.1.2.2.2,lH 1,lI r2.2.1.2.1,lH 2,lH 3,lH 4]),(1,ROW qI 3 r2.2.1.1),(2,ROW qI 3 r2.2.1.2.2.1),(3,ROW qT 124 r2.2.1.2.2.2),(4,ROW qI 3 r2.2.2)],5⟩) ?_ ?_
  ·intro n3 hm
   unfold y1b at hm
   refine .seq (.reg (.op (O.lg (l':=[lF qI r2.1.1,lI r2.1.2.1,lF qI r2.1.2.2.1,lF qT r2.1.2.2.2,lH 1,lI r2.2.1.2.1,lH 2,lH 3,lH 4]) ag37 Z R (.B R) R R R) R (.mv R (.fz 1 [31] [0] R R fR R R (.fz 2 [31] [0] R R fR R R (.fz 3 [31] [0] R R fR R R (.fz 4 [31] [0] R R fR R R (bS hm fun r5 er5 hm=> .op (O.ca (r':= .tp [.a [lI r5.1.1,lH 5,lF qI r5.1.2.2],.b r5.2.1,.i r5.2.2]) [5] [(0,ROW qI 3 r5.1.2.1)] (some 6) (y7z er5) cf36 R R Z R R R R ⟨⟨_,R,fun _ _ _ _ h=>h⟩,trivial⟩ (fun _ _ _ h=>h) R) R (.mv R (.op (O.ex Z R R R) R (.op (O.ex Z R R R) R (.op (O.ex Z R R R) R (.op (O.al 6 R zz44 R Z R) R (.op (O.st ag44.sz Z R R R R R) R (.sa R (.sa R (.nil (.seqN (.seq (.seq (.reg (.mv R (.bi R (.mv R (bS hm fun b6 eb6 hm=>?_)))))))))))))))))))))))))
   refine .cut 7 (fun (v7:Bool)=>b6=v7) (fun v7=>⟨[(46,.b v7),(10,.b r5.2.1),(9,.q 6 0),(8,.i n3),(7,.q 0 0)],[(6,.bx 44 [lI r5.1.1,lH 5,lF qI r5.1.2.2]),(5,ROW qI 3 r5.1.2.1),(0,.bx 37 [lF qI r2.1.1,lI r2.1.2.1,lF qI r2.1.2.2.1,lF qT r2.1.2.2.2,lF qI r2.2.1.1,lI r2.2.1.2.1,lF qI r2.2.1.2.2.1,lF qT r2.2.1.2.2.2,lF qI r2.2.2])],7⟩) ?_ ?_
   ·rintro _ rfl
    refine .mv R (bS hm fun b9 eb9 hm=>?_)
    refine .cut 21 (fun (v10:Bool)=>b9=v10) (fun v10=>⟨[(68,.b v10),(10,.b r5.2.1),(9,.q 6 0),(8,.i n3),(7,.q 0 0)],[(6,.bx 44 [lI r5.1.1,lH 5,lF qI r5.1.2.2]),(5,ROW qI 3 r5.1.2.1),(0,.bx 37 [lF qI r2.1.1,lI r2.1.2.1,lF qI r2.1.2.2.1,lF qT r2.1.2.2.2,lF qI r2.2.1.1,lI r2.2.1.2.1,lF qI r2.2.1.2.2.1,lF qT r2.2.1.2.2.2,lF qI r2.2.2])],7⟩) ?_ ?_
    ·rintro _ rfl
     refine .nil (.seqN ?_)
     rcases ifS hm with ⟨hc,hm⟩ | ⟨hc,hm⟩
     ·refine .cT R hc ?_
      refine .seq (.reg (.sa R (.nil (.seqN (.ret (.seqR ?_))))))
      obtain rfl:=oi hm
      exact WX.rt [] (.inl R) Tryz.results6 (.tmp R .nil) R (fun _ _ _ h=>h) trivial
     ·refine .cF R hc ?_
      refine .skip (.seqN (.seq (.reg (.op (O.faP y6K Z R R) R (.op (O.lg (l':=[lF qI r2.1.1,lI r2.1.2.1,lF qI r2.1.2.2.1,lF qT r2.1.2.2.2]) ag35 Z R (.B R) R R R) R (.op (O.faP y6L Z R R) R (.op (O.lg (l':=[lF qI r2.2.1.1,lI r2.2.1.2.1,lF qI r2.2.1.2.2.1,lF qT r2.2.1.2.2.2]) ag35 Z R (.B R) R R R) R (.op (O.bsF (r:=rE35) (zs:=([r2.1,r2.2.1]:List AutT)) bs66 R R Z R R R (.c (.p .l (.p .k (.p .l .l))) (.c (.p .l (.p .k (.p .l .l))) .n)) R R R) R (bS hm fun r12 er12 hm=> .op (O.ca (r':= .tp [.a [lH 7,lI r12.1.2.1,lH 8,lH 9],.h 10,.i r12.2.2]) [7,8,9,10] [(0,ROW qI 3 r12.1.1),(1,ROW qI 3 r12.1.2.2.1),(2,ROW qT 124 r12.1.2.2.2),(3,ROW (rL qI) 32 r12.2.1)] (some 11) (y4Q er12) cf32 R R Z R R R R ⟨⟨_,R,fun _ _ _ _ h=>h⟩,⟨_,R,fun _ _ _ _ h=>h⟩,⟨_,R,fun _ _ _ _ h=>h⟩,⟨_,R,fun _ _ _ _ h=>h⟩,trivial⟩ (fun _ _ _ h=>h) R) R (.mv R (.op (O.ex Z R R R) R (.op (O.ex Z R R R) R (.op (O.ex Z R R R) R (.op (O.al 11 R zz35 R Z R) R (.op (O.st ag35.sz Z R R R R R) R (.sa R (.sa R (.nil (.seqN (.seq (.seq (.reg (.mv R (.bi R (.nil (.seqN ?_))))))))))))))))))))))))))
      rcases ifS hm with ⟨hc,hm⟩ | ⟨hc,hm⟩
      ·refine .cT R hc ?_
       refine .seq (.reg (.sa R (.nil (.seqN (.ret (.seqR ?_))))))
       obtain rfl:=oi hm
       exact WX.rt [] (.inl R) Tryz.results6 (.tmp R .nil) R (fun _ _ _ h=>h) trivial
      ·refine .cF R hc ?_
       refine .skip (.seqN (.seq (.reg (.sa R (.nil (.seqN (.seq (.seq (.reg (.sa R (.nil (.seqN (.block (bS hm fun o23 eo23 hm=>?_))))))))))))))
       refine .cut1 (z:= .exit 0) o23 (fun (o23:Bool)=>⟨[(15,.b o23),(13,.h 0),(12,.q 1 0),(10,.b r5.2.1),(9,.q 5 0),(8,.i n3),(7,.q 7 0)],[(0,ROW (rL qI) 32 r12.2.1),(1,.bx 35 [lH 2,lI r12.1.2.1,lH 3,lH 4]),(2,ROW qI 3 r12.1.1),(3,ROW qI 3 r12.1.2.2.1),(4,ROW qT 124 r12.1.2.2.2),(5,.bx 44 [lI r5.1.1,lH 6,lF qI r5.1.2.2]),(6,ROW qI 3 r5.1.2.1),(7,.bx 37 [lF qI r2.1.1,lI r2.1.2.1,lF qI r2.1.2.2.1,lF qT r2.1.2.2.2,lF qI r2.2.1.1,lI r2.2.1.2.1,lF qI r2.2.1.2.2.1,lF qT r2.2.1.2.2.2,lF qI r2.2.2])],8⟩) ?_ fun K25=>?_
       ·skip
        refine .blkE (.seqN (.seq (.seq (.reg (.mv R (.mv R (.op (O.beq Tryz.underlying4 Z R R R) R (.nil (.seqN ?_)))))))))
        rcases ifS hm with ⟨hc,hm⟩ | ⟨hc,hm⟩
        ·refine .cT R hc ?_
         refine .seq (.reg (.sa R (.nil (.seqN (.ret (.seqR ?_))))))
         obtain rfl:=oi hm
         exact WX.rt [] (.inl R) Tryz.results6 (.tmp R .nil) R (fun _ _ _ h=>h) trivial
        ·refine .cF R hc ?_
         refine .skip (.seqN (.seq (.reg (.op (O.lg (l':=[lH 2,lI r12.1.2.1,lH 3,lH 4]) ag35 Z R (.B R) R R R) R (.fz 2 [103] [1] R R fR R R (.fz 3 [103] [1] R R fR R R (.fz 4 [103] [1] R R fR R R (bS hm fun r26 er26 hm=> .op (O.ca (r':= .tp [.h 8,.i r26.2]) [8] [(0,ROW (rL qI) 32 r26.1)] (some 9) (y8J er26) cf34 R R Z R R R R ⟨⟨_,R,fun _ _ _ _ h=>h⟩,trivial⟩ (fun _ _ _ h=>h) R) R (.mv R (.op (O.ex Z R R R) R (.op (O.ex Z R R R) R (.sa R (.sa R (.nil (.seqN (.seq (.seq (.reg (.mv R (.bi R (.nil (.seqN ?_))))))))))))))))))))))
         rcases ifS hm with ⟨hc,hm⟩ | ⟨hc,hm⟩
         ·refine .cT R hc ?_
          refine .seq (.reg (.mv R (.bi R (.sa R (.nil (.seqN (.ret (.seqR ?_))))))))
          obtain rfl:=oi hm
          exact WX.rt [] (.inl R) Tryz.results6 (.tmp R .nil) R (fun _ _ _ h=>h) trivial
         ·refine .cF R hc ?_
          refine .skip (.seqN (.seq (.seq (.reg (.sa R (.nil (.seqN (.block (bS hm fun o40 eo40 hm=>?_)))))))))
          refine .cutU (z:= .exit 2) (fun u42=> .inl u42=o40) (fun (u42:Unit)=>⟨[(10,.b r5.2.1),(9,.q 0 0)],[(0,.bx 44 [lI r5.1.1,lH 1,lF qI r5.1.2.2]),(1,ROW qI 3 r5.1.2.1)],2⟩) ?_ fun K43=>?_
          ·rintro u42 rfl
           dsimp only at hm
           refine .blkE (.seqN (.seq (.reg (.mv R (.mv R ?_)))))
           refine .cut 5 (fun (v44:Bool)=>(r5.2.1 || (decide ((r5.1.2.1.length:Int) > 3)))=v44) (fun v44=>⟨[(156,.b v44)],[],2⟩) ?_ ?_
           ·rintro _ rfl
            refine .sa R (.nil (.seqN (.ret ?_)))
            obtain rfl:=oi hm
            exact WX.rt [] (.inl R) Tryz.results6 (.tmp R .nil) R (fun _ _ _ h=>h) trivial
           ·intro J45
            rcases Bool.eq_false_or_eq_true r5.2.1 with hc | hc
            ·refine .know (d:=151) R hc ?_
             exact .sk R (.sk R (.sk R (.sk R (.op (O.pkT Z R R R R) R ((J45 true (orT hc).symm).sub [] R)))))
            ·refine .know (d:=151) R hc ?_
             exact .op (O.faP y6M (Gu.mk R R) R R) R (.op (O.ld nag32 (Gu.mk R R) R (.B R) R R) R (.op (O.lenH sl32 (Gu.mk R R) R R R) R (.op (O.bi (Gu.mk R R) R R R R) R (.op (O.pkF Z R R R R) R ((J45 (decide ((r5.1.2.1.length:Int) > 3)) (orF hc).symm).sub [] R)))))
          refine .cutU (z:= .ret) (fun u46=> .inr (u46)=o40) (fun (u46:Bool)=>⟨[(6,.b u46)],[],0⟩) ?_ fun K47=>?_
          ·rintro u46 rfl
           dsimp only at hm
           refine .blkR (.seqR ?_)
           obtain rfl:=oi hm
           exact WX.rt [] (.inl R) Tryz.results6 (.tmp R .nil) R (fun _ _ _ h=>h) trivial
          refine .iter (fun (st40:Int)=>⟨[(19,.i st40),(17,.h 0),(13,.h 1),(12,.q 2 0),(10,.b r5.2.1),(9,.q 3 0),(8,.i n3),(7,.q 5 0)],[(0,ROW (rL qI) 32 r26.1),(1,ROW (rL qI) 32 r12.2.1),(2,.bx 35 [lF qI r12.1.1,lI r12.1.2.1,lF qI r12.1.2.2.1,lF qT r12.1.2.2.2]),(3,.bx 44 [lI r5.1.1,lH 4,lF qI r5.1.2.2]),(4,ROW qI 3 r5.1.2.1),(5,.bx 37 [lF qI r2.1.1,lI r2.1.2.1,lF qI r2.1.2.2.1,lF qT r2.1.2.2.2,lF qI r2.2.1.1,lI r2.2.1.2.1,lF qI r2.2.1.2.2.1,lF qT r2.2.1.2.2.2,lF qI r2.2.2])],6⟩) eo40 [(0,8),(1,0),(2,1),(3,5),(4,6),(5,7)] R ?_
          intro st40 res40 hm ih40 ho40
          unfold yt at hm
          refine .seq (.seq (.reg (.mv R (.mv R (.op (O.lenH sl53 Z R R R) R (.bi R (.nil (.seqN ?_))))))))
          rcases ifS hm with ⟨hc,hm⟩ | ⟨hc,hm⟩
          ·refine .cT R hc ?_
           refine .skip (.seqN (.seq (.block (.seq ?_))))
           refine .sub (τ:=⟨[(19,.i st40),(17,.h 0),(13,.h 1),(12,.q 2 0),(10,.b r5.2.1),(9,.q 3 0),(8,.i n3),(7,.q 5 0)],[(0,ROW (rL qI) 32 r26.1),(1,ROW (rL qI) 32 r12.2.1),(2,.bx 35 [lF qI r12.1.1,lI r12.1.2.1,lF qI r12.1.2.2.1,lF qT r12.1.2.2.2]),(3,.bx 44 [lI r5.1.1,lH 4,lF qI r5.1.2.2]),(4,ROW qI 3 r5.1.2.1),(5,.bx 37 [lF qI r2.1.1,lI r2.1.2.1,lF qI r2.1.2.2.1,lF qT r2.1.2.2.2,lF qI r2.2.1.1,lI r2.2.1.2.1,lF qI r2.2.1.2.2.1,lF qT r2.2.1.2.2.2,lF qI r2.2.2])],6⟩) ?_ [] R
           refine bS hm fun x48 ex48 hm=>bS hm fun r49 er49 hm=>?_
           refine .drw [(6,[]),(6,[]),(6,[]),(6,[oF,oT,oT]),(6,fA 1 (tT 3)),(6,tT 5),(6,tT 6),(6,tT 7),(6,tT 7),(6,tT 7),(6,tT 8),(6,tA 9 (fA 1 (tT 1))),(6,tT 12)] [_,_,_,_,_,_,_,_,_,_,_,_,_] ⟨[(20,.i r49.1),(19,.i st40),(17,.h 0),(13,.h 1),(12,.q 2 0),(10,.b r5.2.1),(9,.q 3 0),(8,.i n3),(7,.q 5 0)],[(0,ROW (rL qI) 32 r26.1),(1,ROW (rL qI) 32 r12.2.1),(2,.bx 35 [lF qI r12.1.1,lI r12.1.2.1,lF qI r12.1.2.2.1,lF qT r12.1.2.2.2]),(3,.bx 44 [lI r5.1.1,lH 4,lF qI r5.1.2.2]),(4,ROW qI 3 r5.1.2.1),(5,.bx 37 [lF qI r2.1.1,lI r2.1.2.1,lF qI r2.1.2.2.1,lF qT r2.1.2.2.2,lF qI r2.2.1.1,lI r2.2.1.2.1,lF qI r2.2.1.2.2.1,lF qT r2.2.1.2.2.2,lF qI r2.2.2])],6⟩ ⟨O.lg (l':=[lF qI r12.1.1,lI r12.1.2.1,lF qI r12.1.2.2.1,lF qT r12.1.2.2.2]) ag35 Z R (.B R) R R R,O.mv Z R R,O.mv Z R R,O.ir sl53 Z R R R ex48 R,O.ld nag32 Z R (.R R ex48 lv32) R R,O.ca0 (y9h er49) cf35 R R Z R R R,O.mv Z R R,O.ex Z R R R,O.ex Z R R R,O.ex Z R R R,O.as Z R R,O.as Z R R,O.as Z R R,trivial⟩ (by kernel_rfl) R ?_
           refine .seqN (.seq ?_)
           refine .sub (τ:=⟨[(20,.i r49.1),(19,.i st40),(17,.h 0),(13,.h 1),(12,.q 2 0),(10,.b r5.2.1),(9,.q 3 0),(8,.i n3),(7,.q 5 0)],[(0,ROW (rL qI) 32 r26.1),(1,ROW (rL qI) 32 r12.2.1),(2,.bx 35 [lF qI r12.1.1,lI r12.1.2.1,lF qI r12.1.2.2.1,lF qT r12.1.2.2.2]),(3,.bx 44 [lI r5.1.1,lH 4,lF qI r5.1.2.2]),(4,ROW qI 3 r5.1.2.1),(5,.bx 37 [lF qI r2.1.1,lI r2.1.2.1,lF qI r2.1.2.2.1,lF qT r2.1.2.2.2,lF qI r2.2.1.1,lI r2.2.1.2.1,lF qI r2.2.1.2.2.1,lF qT r2.2.1.2.2.2,lF qI r2.2.2])],6⟩) ?_ [] R
           refine bS hm fun x50 ex50 hm=>bS hm fun r51 er51 hm=>?_
           refine .drw [(6,[]),(6,[]),(6,[]),(6,[oF,oT,oT]),(6,fA 1 (tT 3)),(6,[]),(6,tT 6),(6,tT 7)] [_,_,_,_,_,_,_,_] ⟨[(23,.f qI r51),(19,.i st40),(17,.h 0),(13,.h 1),(12,.q 2 0),(10,.b r5.2.1),(9,.q 3 0),(8,.i n3),(7,.q 5 0)],[(0,ROW (rL qI) 32 r26.1),(1,ROW (rL qI) 32 r12.2.1),(2,.bx 35 [lF qI r12.1.1,lI r12.1.2.1,lF qI r12.1.2.2.1,lF qT r12.1.2.2.2]),(3,.bx 44 [lI r5.1.1,lH 4,lF qI r5.1.2.2]),(4,ROW qI 3 r5.1.2.1),(5,.bx 37 [lF qI r2.1.1,lI r2.1.2.1,lF qI r2.1.2.2.1,lF qT r2.1.2.2.2,lF qI r2.2.1.1,lI r2.2.1.2.1,lF qI r2.2.1.2.2.1,lF qT r2.2.1.2.2.2,lF qI r2.2.2])],6⟩ ⟨O.lg (l':=[lF qI r2.1.1,lI r2.1.2.1,lF qI r2.1.2.2.1,lF qT r2.1.2.2.2,lF qI r2.2.1.1,lI r2.2.1.2.1,lF qI r2.2.1.2.2.1,lF qT r2.2.1.2.2.2,lF qI r2.2.2]) ag37 Z R (.B R) R R R,O.mv Z R R,O.mv Z R R,O.ir sl53 Z R R R ex50 R,O.ld nag32 Z R (.R R ex50 lv32) R R,O.mv Z R R,O.ca0 (y5M er51) cf37 R R Z R R R,O.as Z R R,trivial⟩ (by kernel_rfl) R ?_
           refine .seqN (.seq (.reg (.mv R (.op (O.len sl32 Z R R) R (.bi R (.nil (.seqN ?_)))))))
           rcases ifS hm with ⟨hc,hm⟩ | ⟨hc,hm⟩
           ·refine .cT R hc ?_
            refine .join1 (fun (b52:Bool)=>y1G b52=some res40) (fun b52=>⟨[(6,.b b52)],[],0⟩) ?_ ?_
            ·intro b52 hm
             unfold y1G at hm
             exact .ret (.blkR (.seqR (.seqR ((K47 _ (ho40 _ (oi hm).symm)).sub [] R))))
            ·intro Jj53
             refine .sub (τ:=⟨[(23,.f qI r51),(19,.i st40),(17,.h 0),(9,.q 3 0)],[(0,ROW (rL qI) 32 r26.1),(3,.bx 44 [lI r5.1.1,lH 4,lF qI r5.1.2.2]),(4,ROW qI 3 r5.1.2.1)],6⟩) ?_ [] R
             refine bS hm fun x54 ex54 hm=>bS hm fun r55 er55 hm=> .drP 7 [(6,[]),(6,[oT]),(6,[]),(6,[]),(6,[oF,oF,oT,oT]),(6,fA 2 (tT 3)),(6,tT 6)] [_,_,_,_,_,_,_] ⟨O.faP y6M Z R R,O.ld nag32 Z R (.B R) R R,O.mv Z R R,O.mv Z R R,O.ir sl53 Z R R R ex54 R,O.ld nag32 Z R (.R R ex54 lv32) R R,O.caZ (y4K er55) cf29 R R Z R ⟨⟨R,.hr R,trivial⟩,⟨R,LnL.rf⟩,trivial⟩ (fun _ _ _ _ _ h=>h) R,trivial⟩ fun hp56=>?_
             rcases ifS hm with ⟨hc57,hm⟩ | ⟨hc57,hm⟩
             ·skip
              exact bS hm fun r58 er58 hm=> .drF hp56 [(6,tT 7),(6,tT 8),(6,tT 9),(6,tT 8),(6,tT 11),(6,tT 12),(6,tT 13)] [_,_,_,_,_,_,_] ⟨[(6,.b r58)],[],6⟩ ⟨O.kn (O.mv Z R R) hc57,O.faP y4W (Gu.mk R R) R R,O.ld nag32 (Gu.mk R R) R (.B R) R R,O.mv (Gu.mk R R) R R,O.ca0 (y4K er58) cf29 R R (Gu.mk R R) R R R,O.pkT Z R R R R,O.as Z R R,trivial⟩ (by kernel_rfl) R ((Jj53 _ hm).sub [] R)
             ·skip
              exact .drF hp56 [(6,tT 7),(6,tT 8),(6,tT 9),(6,tT 8),(6,tT 11),(6,tT 12),(6,tT 13)] [_,_,_,_,_,_,_] ⟨[(6,.b false)],[],6⟩ ⟨O.kn (O.mv Z R R) hc57,O.skip R R R R,O.skip R R R R,O.skip R R R R,O.skip R R R R,O.pkF Z R R R R,O.as Z R R,trivial⟩ (by kernel_rfl) R ((Jj53 _ hm).sub [] R)
           ·refine .cF R hc ?_
            exact .skip (.blkN (.seqN (.reg (.mv R (.bi R (.sa R (.nil ((ih40 _ (oi hm).symm).sub [] R))))))))
          ·refine .cF R hc ?_
           exact .exit (.seqX (.seqX ((K43 _ (ho40 _ (oi hm).symm)).sub [(0,3),(1,4)] R)))
       refine .iter (fun (st23:Int×Bool)=>⟨[(16,.i st23.1),(15,.b st23.2),(13,.h 0),(12,.q 1 0),(10,.b r5.2.1),(9,.q 5 0),(8,.i n3),(7,.q 7 0)],[(0,ROW (rL qI) 32 r12.2.1),(1,.bx 35 [lH 2,lI r12.1.2.1,lH 3,lH 4]),(2,ROW qI 3 r12.1.1),(3,ROW qI 3 r12.1.2.2.1),(4,ROW qT 124 r12.1.2.2.2),(5,.bx 44 [lI r5.1.1,lH 6,lF qI r5.1.2.2]),(6,ROW qI 3 r5.1.2.1),(7,.bx 37 [lF qI r2.1.1,lI r2.1.2.1,lF qI r2.1.2.2.1,lF qT r2.1.2.2.2,lF qI r2.2.1.1,lI r2.2.1.2.1,lF qI r2.2.1.2.2.1,lF qT r2.2.1.2.2.2,lF qI r2.2.2])],8⟩) eo23 [(0,10),(1,11),(2,7),(3,8),(4,9),(5,6),(6,5),(7,0)] R ?_
       intro st23 res23 hm ih23 ho23
       unfold y1a at hm
       refine .seq (.seq (.reg (.mv R (.mv R (.op (O.lenH sl53 Z R R R) R (.bi R (.nil (.seqN ?_))))))))
       rcases ifS hm with ⟨hc,hm⟩ | ⟨hc,hm⟩
       ·refine .cT R hc ?_
        refine .skip (.seqN ?_)
        refine .join1 (fun (b59:Bool)=>yZ st23 b59=some res23) (fun b59=>⟨[(15,.b b59),(16,.i st23.1),(13,.h 0),(12,.q 1 0),(10,.b r5.2.1),(9,.q 5 0),(8,.i n3),(7,.q 7 0)],[(0,ROW (rL qI) 32 r12.2.1),(1,.bx 35 [lH 2,lI r12.1.2.1,lH 3,lH 4]),(2,ROW qI 3 r12.1.1),(3,ROW qI 3 r12.1.2.2.1),(4,ROW qT 124 r12.1.2.2.2),(5,.bx 44 [lI r5.1.1,lH 6,lF qI r5.1.2.2]),(6,ROW qI 3 r5.1.2.1),(7,.bx 37 [lF qI r2.1.1,lI r2.1.2.1,lF qI r2.1.2.2.1,lF qT r2.1.2.2.2,lF qI r2.2.1.1,lI r2.2.1.2.1,lF qI r2.2.1.2.2.1,lF qT r2.2.1.2.2.2,lF qI r2.2.2])],8⟩) ?_ ?_
        ·intro b59 hm
         unfold yZ at hm
         exact .reg (.mv R (.bi R (.sa R (.nil ((ih23 _ (oi hm).symm).sub [] R)))))
        ·intro Jj60
         refine .block ?_
         refine .sub (τ:=⟨[(16,.i st23.1),(15,.b st23.2),(13,.h 0),(12,.q 1 0),(10,.b r5.2.1),(9,.q 5 0),(8,.i n3),(7,.q 7 0)],[(0,ROW (rL qI) 32 r12.2.1),(1,.bx 35 [lH 2,lI r12.1.2.1,lH 3,lH 4]),(2,ROW qI 3 r12.1.1),(3,ROW qI 3 r12.1.2.2.1),(4,ROW qT 124 r12.1.2.2.2),(5,.bx 44 [lI r5.1.1,lH 6,lF qI r5.1.2.2]),(6,ROW qI 3 r5.1.2.1),(7,.bx 37 [lF qI r2.1.1,lI r2.1.2.1,lF qI r2.1.2.2.1,lF qT r2.1.2.2.2,lF qI r2.2.1.1,lI r2.2.1.2.1,lF qI r2.2.1.2.2.1,lF qT r2.2.1.2.2.2,lF qI r2.2.2])],8⟩) ?_ [] R
         refine .drP 1 [(8,[])] [_] ⟨O.mv Z R R,trivial⟩ fun hp61=>?_
         rcases ifS hm with ⟨hc62,hm⟩ | ⟨hc62,hm⟩
         ·skip
          exact .drH hp61 8 [(8,[oT]),(8,[oT,oT]),(8,[oT,oT]),(8,[oT,oT]),(8,tA 2 (fA 1 (tT 2))),(8,tA 2 (fA 1 (tT 3))),(8,[oT,oT]),(8,tT 8),(8,tT 9),(8,tT 10),(8,tT 11),(8,tT 12)] [_,_,_,_,_,_,_,_,_,_,_,_] ⟨[(15,.b true),(16,.i st23.1),(13,.h 0),(12,.q 1 0),(10,.b r5.2.1),(9,.q 5 0),(8,.i n3),(7,.q 7 0)],[(0,ROW (rL qI) 32 r12.2.1),(1,.bx 35 [lH 2,lI r12.1.2.1,lH 3,lH 4]),(2,ROW qI 3 r12.1.1),(3,ROW qI 3 r12.1.2.2.1),(4,ROW qT 124 r12.1.2.2.2),(5,.bx 44 [lI r5.1.1,lH 6,lF qI r5.1.2.2]),(6,ROW qI 3 r5.1.2.1),(7,.bx 37 [lF qI r2.1.1,lI r2.1.2.1,lF qI r2.1.2.2.1,lF qT r2.1.2.2.2,lF qI r2.2.1.1,lI r2.2.1.2.1,lF qI r2.2.1.2.2.1,lF qT r2.2.1.2.2.2,lF qI r2.2.2])],8⟩ ⟨O.kn (O.mv Z R R) hc62,O.skip R R R R,O.skip R R R R,O.skip R R R R,O.skip R R R R,O.skip R R R R,O.skip R R R R,O.skip R R R R,O.skip R R R R,O.skip R R R R,O.pkT Z R R R R,O.as Z R R,trivial⟩ (by kernel_rfl) R (.blkN ((Jj60 _ hm).sub [] R))
         ·skip
          exact bS hm fun x63 ex63 hm=>bS hm fun r64 er64 hm=> .drH hp61 8 [(8,[oT]),(8,[oT,oT]),(8,[oT,oT]),(8,[oT,oT]),(8,tA 2 (fA 1 (tT 2))),(8,tA 2 (fA 1 (tT 3))),(8,[oT,oT]),(8,tT 8),(8,tT 9),(8,tT 10),(8,tT 11),(8,tT 12)] [_,_,_,_,_,_,_,_,_,_,_,_] ⟨[(15,.b (decide ((r64.length:Int) > 0))),(16,.i st23.1),(13,.h 0),(12,.q 1 0),(10,.b r5.2.1),(9,.q 5 0),(8,.i n3),(7,.q 7 0)],[(0,ROW (rL qI) 32 r12.2.1),(1,.bx 35 [lH 2,lI r12.1.2.1,lH 3,lH 4]),(2,ROW qI 3 r12.1.1),(3,ROW qI 3 r12.1.2.2.1),(4,ROW qT 124 r12.1.2.2.2),(5,.bx 44 [lI r5.1.1,lH 6,lF qI r5.1.2.2]),(6,ROW qI 3 r5.1.2.1),(7,.bx 37 [lF qI r2.1.1,lI r2.1.2.1,lF qI r2.1.2.2.1,lF qT r2.1.2.2.2,lF qI r2.2.1.1,lI r2.2.1.2.1,lF qI r2.2.1.2.2.1,lF qT r2.2.1.2.2.2,lF qI r2.2.2])],8⟩ ⟨O.kn (O.mv Z R R) hc62,O.lg (l':=[lF qI r2.1.1,lI r2.1.2.1,lF qI r2.1.2.2.1,lF qT r2.1.2.2.2,lF qI r2.2.1.1,lI r2.2.1.2.1,lF qI r2.2.1.2.2.1,lF qT r2.2.1.2.2.2,lF qI r2.2.2]) ag37 (Gu.mk R R) R (.B R) R R R,O.mv (Gu.mk R R) R R,O.mv (Gu.mk R R) R R,O.ir sl53 (Gu.mk R R) R R R ex63 R,O.ld nag32 (Gu.mk R R) R (.R R ex63 lv32) R R,O.mv (Gu.mk R R) R R,O.ca0 (y5M er64) cf37 R R (Gu.mk R R) R R R,O.len sl32 (Gu.mk R R) R R,O.bi (Gu.mk R R) R R R R,O.pkF Z R R R R,O.as Z R R,trivial⟩ (by kernel_rfl) R (.blkN ((Jj60 _ hm).sub [] R))
       ·refine .cF R hc ?_
        exact .exit (.seqX (.seqX ((K25 _ (ho23 _ (oi hm).symm)).sub [] R)))
    ·intro J11
     rcases ifS eb9 with ⟨hc,hm⟩ | ⟨hc,hm⟩
     ·refine .know (d:=47) R hc ?_
      exact .sk R (.sk R (.sk R (.op (O.skipU R R R) R (.op (O.skipU R R R) R (.op (O.skipU R R R) R (.op (O.skipU R R R) R (.op (O.skipU R R R) R (.op (O.skipU R R R) R (.op (O.skipU R R R) R (.op (O.skipU R R R) R (.op (O.skipU R R R) R (.op (O.skipU R R R) R (.op (O.skipU R R R) R (.op (O.skipU R R R) R (.op (O.skipU R R R) R (.op (O.skipU R R R) R (.op (O.skipU R R R) R (.op (O.skipU R R R) R (.sk R (.op (O.pkT Z R R R R) R ((J11 true (oi hm).symm).sub [] R)))))))))))))))))))))
     ·refine .know (d:=47) R hc ?_
      refine .op (O.mv (Gu.mk R R) R R) R (.op (O.not (Gu.mk R R) R R) R (.op (O.mv (Gu.mk R R) R R) R (bS hm fun b65 eb65 hm=>?_)))
      refine .cut 17 (fun (v66:Bool)=>b65=v66) (fun v66=>⟨[(67,.b v66),(47,.b false),(10,.b r5.2.1),(9,.q 6 0),(8,.i n3),(7,.q 0 0)],[(6,.bx 44 [lI r5.1.1,lH 5,lF qI r5.1.2.2]),(5,ROW qI 3 r5.1.2.1),(0,.bx 37 [lF qI r2.1.1,lI r2.1.2.1,lF qI r2.1.2.2.1,lF qT r2.1.2.2.2,lF qI r2.2.1.1,lI r2.2.1.2.1,lF qI r2.2.1.2.2.1,lF qT r2.2.1.2.2.2,lF qI r2.2.2])],7⟩) ?_ ?_
      ·rintro _ rfl
       exact .op (O.pkF Z R R R R) R ((J11 b65 (oi hm).symm).sub [] R)
      ·intro J67
       rcases ifS eb65 with ⟨hc,hm⟩ | ⟨hc,hm⟩
       ·refine .know (d:=50) R hc ?_
        refine .op (O.faP y8a (Gu.mk R R) R R) R (.op (O.ld nag3 (Gu.mk R R) R (.B R) R R) R (.op (O.bi (Gu.mk R R) R R R R) R (.op (O.mv (Gu.mk R R) R R) R ?_)))
        refine .cut 6 (fun (v68:Bool)=>((r5.1.1 != 1) || (decide ((r5.1.2.2.length:Int) > n3)))=v68) (fun v68=>⟨[(60,.b v68),(50,.b true),(47,.b false),(10,.b r5.2.1),(9,.q 6 0),(8,.i n3),(7,.q 0 0)],[(6,.bx 44 [lI r5.1.1,lH 5,lF qI r5.1.2.2]),(5,ROW qI 3 r5.1.2.1),(0,.bx 37 [lF qI r2.1.1,lI r2.1.2.1,lF qI r2.1.2.2.1,lF qT r2.1.2.2.2,lF qI r2.2.1.1,lI r2.2.1.2.1,lF qI r2.2.1.2.2.1,lF qT r2.2.1.2.2.2,lF qI r2.2.2])],7⟩) ?_ ?_
        ·rintro _ rfl
         refine .op (O.mv (Gu.mk R R) R R) R (bS hm fun b70 eb70 hm=>?_)
         refine .cut 5 (fun (v71:Bool)=>b70=v71) (fun v71=>⟨[(66,.b v71),(50,.b true),(47,.b false),(10,.b r5.2.1),(9,.q 6 0),(8,.i n3),(7,.q 0 0)],[(6,.bx 44 [lI r5.1.1,lH 5,lF qI r5.1.2.2]),(5,ROW qI 3 r5.1.2.1),(0,.bx 37 [lF qI r2.1.1,lI r2.1.2.1,lF qI r2.1.2.2.1,lF qT r2.1.2.2.2,lF qI r2.2.1.1,lI r2.2.1.2.1,lF qI r2.2.1.2.2.1,lF qT r2.2.1.2.2.2,lF qI r2.2.2])],7⟩) ?_ ?_
         ·rintro _ rfl
          exact .op (O.pkT (Gu.mk R R) R R R R) R ((J67 b70 (oi hm).symm).sub [] R)
         ·intro J72
          rcases ifS eb70 with ⟨hc,hm⟩ | ⟨hc,hm⟩
          ·refine .know (d:=61) R hc ?_
           exact .sk R (.sk R (.sk R (.sk R (.op (O.pkT (Gu.mk R R) R R R R) R ((J72 true (oi hm).symm).sub [] R)))))
          ·refine .know (d:=61) R hc ?_
           exact .op (O.lg (l':=[lF qI r2.1.1,lI r2.1.2.1,lF qI r2.1.2.2.1,lF qT r2.1.2.2.2,lF qI r2.2.1.1,lI r2.2.1.2.1,lF qI r2.2.1.2.2.1,lF qT r2.2.1.2.2.2,lF qI r2.2.2]) ag37 (Gu.mk R R) R (.B R) R R R) R (.op (O.lg (l':=[lI r5.1.1,lH 5,lF qI r5.1.2.2]) ag44 (Gu.mk R R) R (.B R) R R R) R (bS hm fun r73 er73 hm=> .op (O.caZ (ya2 er73) cf31 R R (Gu.mk R R) R ⟨⟨R,LnL.rf⟩,⟨R,(.cv .rf (.nf (r:=qI))),trivial⟩,⟨R,.rf,.hr R,.rf,trivial⟩,trivial⟩ (fun _ _ _ _ _ h=>h) R) R (.op (O.bi (Gu.mk R R) R R R R) R (.op (O.pkF (Gu.mk R R) R R R R) R ((J72 (r73 != 0) (oi hm).symm).sub [] R)))))
        ·intro J69
         rcases Bool.eq_false_or_eq_true (r5.1.1 != 1) with hc | hc
         ·refine .know (d:=54) R hc ?_
          exact .sk R (.sk R (.sk R (.sk R (.sk R (.op (O.pkT (Gu.mk R R) R R R R) R ((J69 true (orT hc).symm).sub [] R))))))
         ·refine .know (d:=54) R hc ?_
          exact .op (O.faP y4W (Gu.mk R R) R R) R (.op (O.ld nag32 (Gu.mk R R) R (.B R) R R) R (.op (O.len sl32 (Gu.mk R R) R R) R (.op (O.mv (Gu.mk R R) R R) R (.op (O.bi (Gu.mk R R) R R R R) R (.op (O.pkF (Gu.mk R R) R R R R) R ((J69 (decide ((r5.1.2.2.length:Int) > n3)) (orF hc).symm).sub [] R))))))
       ·refine .know (d:=50) R hc ?_
        exact .sk R (.sk R (.sk R (.sk R (.op (O.skipU R R R) R (.op (O.skipU R R R) R (.op (O.skipU R R R) R (.op (O.skipU R R R) R (.op (O.skipU R R R) R (.sk R (.sk R (.op (O.skipU R R R) R (.op (O.skipU R R R) R (.op (O.skipU R R R) R (.op (O.skipU R R R) R (.sk R (.op (O.pkF (Gu.mk R R) R R R R) R ((J67 false (oi hm).symm).sub [] R)))))))))))))))))
   ·intro J8
    rcases ifS eb6 with ⟨hc,hm⟩ | ⟨hc,hm⟩
    ·refine .know (d:=39) R hc ?_
     exact .sk R (.sk R (.op (O.skipU R R R) R (.op (O.skipU R R R) R (.op (O.skipU R R R) R (.sk R (.op (O.pkT Z R R R R) R ((J8 true (oi hm).symm).sub [] R)))))))
    ·refine .know (d:=39) R hc ?_
     refine .op (O.mv (Gu.mk R R) R R) R (.op (O.mv (Gu.mk R R) R R) R (bS hm fun b74 eb74 hm=>?_))
     refine .cut 4 (fun (v75:Bool)=>b74=v75) (fun v75=>⟨[(45,.b v75),(39,.b false),(10,.b r5.2.1),(9,.q 6 0),(8,.i n3),(7,.q 0 0)],[(6,.bx 44 [lI r5.1.1,lH 5,lF qI r5.1.2.2]),(5,ROW qI 3 r5.1.2.1),(0,.bx 37 [lF qI r2.1.1,lI r2.1.2.1,lF qI r2.1.2.2.1,lF qT r2.1.2.2.2,lF qI r2.2.1.1,lI r2.2.1.2.1,lF qI r2.2.1.2.2.1,lF qT r2.2.1.2.2.2,lF qI r2.2.2])],7⟩) ?_ ?_
     ·rintro _ rfl
      exact .op (O.pkF Z R R R R) R ((J8 b74 (oi hm).symm).sub [] R)
     ·intro J76
      rcases ifS eb74 with ⟨hc,hm⟩ | ⟨hc,hm⟩
      ·refine .know (d:=41) R hc ?_
       exact .op (O.lg (l':=[lI r5.1.1,lH 5,lF qI r5.1.2.2]) ag44 (Gu.mk R R) R (.B R) R R R) R (bS hm fun r77 er77 hm=> .op (O.caZ (y7K er77) cf22 R R (Gu.mk R R) R ⟨⟨R,.rf,.hr R,.rf,trivial⟩,trivial⟩ (fun _ _ _ _ _ h=>h) R) R (.op (O.not (Gu.mk R R) R R) R (.op (O.pkT (Gu.mk R R) R R R R) R ((J76 (!r77) (oi hm).symm).sub [] R))))
      ·refine .know (d:=41) R hc ?_
       exact .sk R (.sk R (.sk R (.op (O.pkF (Gu.mk R R) R R R R) R ((J76 false (oi hm).symm).sub [] R))))
  ·intro Jj4
   refine .seq (.reg (.mv R (.nil (.seqN ?_))))
   rcases ifS hm with ⟨hc,hm⟩ | ⟨hc,hm⟩
   ·refine .cT R hc ?_
    exact .reg (.sa R (.nil ((Jj4 _ hm).sub [(0,5)] R)))
   ·refine .cF R hc ?_
    exact .skip ((Jj4 _ hm).sub [(0,5)] R)
end
end Go.Proofs.YtecmobjeeonmaaaGreatDoor
namespace Go.Proofs.YtecmobjeeonmaaaGreatDoor
def wval (u:List Int):Int:=u.foldl (fun acc e=>33 * acc + e + 1) 0
theorem y4q (u:List Int) (e:Int):wval (u ++ [e])=33 * wval u + e + 1:=by simp [wval,List.foldl_append]
def Evs (u:List Int):Prop:=∀e∈u,0≤e∧e < 32
theorem Evs.nil :Evs []:=fun e h=>by cases h
theorem Evs.snoc {u:List Int} {e:Int} (h:Evs u) (h0:0≤e) (h1:e < 32):Evs (u ++ [e]):=by
 intro x hx
 rcases List.mem_append.1 hx with h2 | h2
 ·exact h x h2
 ·rw [List.mem_singleton.1 h2];exact⟨h0,h1⟩
theorem Evs.of_snoc {u:List Int} {e:Int} (h:Evs (u ++ [e])):Evs u∧0≤e∧e < 32:=
 ⟨fun x hx=>h x (List.mem_append_left _ hx),h e (by simp)⟩
theorem y6D {α:Type} {P:List α→Prop} (h0:P []) (h1:∀u e,P u→P (u ++ [e])) (u:List α):P u:=by
 have h2:∀n (u:List α),u.length=n→P u:=by
  intro n
  induction n with
  | zero=>intro u hu;rw [List.eq_nil_of_length_eq_zero hu];exact h0
  | succ n ih=>
   intro u hu
   rcases List.eq_nil_or_concat u with rfl | ⟨l,b,rfl⟩
   ·cases hu
   ·have hl:l.length=n:=by simpa using hu
    simpa using h1 l b (ih l hl)
 exact h2 _ u rfl
theorem y6G (u:List Int):Evs u→0≤wval u:=by
 refine y6D (P:=fun u=>Evs u→0≤wval u) (fun _=>Int.le_refl 0) (fun u e ih h=>?_) u
 have h1:=h.of_snoc
 have:=ih h1.1
 rw [y4q];omega
theorem ydu (u:List Int):∀v,Evs u→Evs v→wval u=wval v→u=v:=by
 refine y6D (P:=fun u=>∀v,Evs u→Evs v→wval u=wval v→u=v) ?_ ?_ u
 ·intro v _ hv he
  rcases List.eq_nil_or_concat v with rfl | ⟨l,b,rfl⟩
  ·rfl
  ·rw [List.concat_eq_append] at hv he
   have h1:=hv.of_snoc
   have h2:=y6G l h1.1
   rw [y4q] at he
   have h3:wval []=0:=rfl
   omega
 ·intro u e ih v hu hv he
  have g1:=hu.of_snoc
  have g2:=y6G u g1.1
  rw [y4q] at he
  rcases List.eq_nil_or_concat v with rfl | ⟨l,b,rfl⟩
  ·have h3:wval []=0:=rfl
   omega
  ·rw [List.concat_eq_append] at hv he ⊢
   have h1:=hv.of_snoc
   rw [y4q] at he
   have e1:wval u=wval l:=by omega
   have e2:e=b:=by omega
   rw [ih l g1.1 h1.1 e1,e2]
def wlo :Nat→Int
 | 0=>0
 | n + 1=>33 * wlo n + 1
def whi :Nat→Int
 | 0=>0
 | n + 1=>33 * whi n + 32
theorem ycQ (u:List Int):Evs u→wlo u.length≤wval u∧wval u≤whi u.length:=by
 refine y6D (P:=fun u=>Evs u→wlo u.length≤wval u∧wval u≤whi u.length) (fun _=>⟨Int.le_refl _,Int.le_refl _⟩) (fun u e ih h=>?_) u
 have h1:=h.of_snoc
 have:=ih h1.1
 rw [y4q,List.length_append,List.length_singleton,wlo,whi];omega
theorem yeR (n:Nat):whi n < wlo (n + 1):=by
 induction n with
 | zero=>decide
 | succ n ih=>rw [whi,wlo];omega
theorem ydv {m n:Nat} (h:m≤n):wlo m≤wlo n:=by
 induction n with
 | zero=>
  obtain rfl:m=0:=by omega
  exact Int.le_refl _
 | succ n ih=>
  by_cases e:m=n + 1
  ·rw [e];exact Int.le_refl _
  ·have h1:=ih (by omega)
   have h2:0≤wlo n:=by
    clear h1 ih h e
    induction n with
    | zero=>exact Int.le_refl _
    | succ n ih=>rw [wlo];omega
   rw [wlo];omega
theorem y9H {u v:List Int} (hu:Evs u) (hv:Evs v) (h:wval u≤wval v):u.length≤v.length:=by
 by_cases hlt:v.length < u.length
 ·have h1:=(ycQ u hu).1
  have h2:=(ycQ v hv).2
  have h3:=yeR v.length
  have h4:=ydv (show v.length + 1≤u.length by omega)
  omega
 ·omega
def Leads (es:List Ed) (perm:Ed→Bool) (s:Int):List Int→Int→Prop
 | [],t=>s=t
 | e :: u,t=>∃x∈es,x.f=s∧x.e=e∧perm x=true∧Leads es perm x.t u t
theorem Leads.snoc {es:List Ed} {perm:Ed→Bool}:∀{u:List Int} {s t:Int},Leads es perm s u t→∀{x:Ed},x∈es→x.f=t→perm x=true→Leads es perm s (u ++ [x.e]) x.t
 | [],s,t,h,x,hx,hf,hp=>⟨x,hx,by rw [hf];exact h.symm,rfl,hp,rfl⟩
 | e :: u,s,t,⟨y,hy,h1,h2,h3,h4⟩,x,hx,hf,hp=>⟨y,hy,h1,h2,h3,h4.snoc hx hf hp⟩
theorem Leads.of_snoc {es:List Ed} {perm:Ed→Bool} {e:Int}:∀{u:List Int} {s t:Int},Leads es perm s (u ++ [e]) t→∃x∈es,Leads es perm s u x.f∧x.e=e∧x.t=t∧perm x=true
 | [],s,t,⟨y,hy,h1,h2,h3,h4⟩=>⟨y,hy,h1.symm,h2,h4,h3⟩
 | a :: u,s,t,⟨y,hy,h1,h2,h3,h4⟩=>by
  obtain⟨x,hx,g1,g2,g3,g4⟩:=Leads.of_snoc (u:=u) h4
  exact⟨x,hx,⟨y,hy,h1,h2,h3,g1⟩,g2,g3,g4⟩
def EvEs (es:List Ed):Prop:=∀x∈es,0≤x.e∧x.e < 32
theorem Leads.evs {es:List Ed} {perm:Ed→Bool} (he:EvEs es):∀{u:List Int} {s t:Int},Leads es perm s u t→Evs u
 | [],_,_,_=>Evs.nil
 | e :: u,s,t,⟨y,hy,h1,h2,h3,h4⟩=>by
  intro z hz
  rcases List.mem_cons.1 hz with rfl | hz
  ·rw [←h2];exact he y hy
  ·exact Leads.evs he h4 z hz
def edLt (x y:Ed):Prop:=x.f < y.f∨(x.f=y.f∧x.e < y.e)
def y8W (es:List Ed):Prop:=es.Pairwise edLt
end Go.Proofs.YtecmobjeeonmaaaGreatDoor
namespace Go.Proofs.YtecmobjeeonmaaaGreatDoor
open Go Go.RowKit
theorem W_of {x:Int} (h0: -9223372036854775808≤x) (h1:x < 9223372036854775808):W x=x:=IntWalk.i64_in _ (by omega)
theorem W_nat {k:Nat} (h:k < 9223372036854775808):W (k:Int)=k:=W_of (by omega) (by omega)
theorem ya {α:Type} {xs:List α} {i:Nat} (h:i < xs.length):idx xs (i:Int)=some xs[i]:=by rw [y5Y,yGe h]
theorem y3X {S O:Type} {f:S→Option (S ⊕ O)} {s:S} {o:O} {n:Nat} (hn:n≤18446744073709551616) (h:iterF f n s=some o):iter f s=some o:=by
 have mono:∀(n m:Nat) (s:S),n≤m→iterF f n s=some o→iterF f m s=some o:=by
  intro n
  induction n with
  | zero=>intro m s _ h;cases h
  | succ n ih=>
   intro m s hm h
   obtain⟨k,rfl⟩:∃k,m=k + 1:=⟨m - 1,by omega⟩
   rw [yc] at h ⊢
   split at h
   ·cases h
   ·rename_i h1;exact ih k _ (by omega) h
   ·rename_i h1;exact h
 exact mono n _ s hn h
theorem yb {S O:Type} {f:S→Option (S ⊕ O)} (P:Nat→S→Prop) (Q:O→Prop):∀(n i:Nat),n < i + 18446744073709551616→(∀i s,i < n→P i s→(∃s',f s=some (.inl s')∧P (i + 1) s')∨∃o,f s=some (.inr o)∧Q o)→(∀s,P n s→∃o,f s=some (.inr o)∧Q o)→i≤n→
  ∀s,P i s→∃o,iter f s=some o∧Q o:=by
 have key:∀(n:Nat),(∀i s,i < n→P i s→(∃s',f s=some (.inl s')∧P (i + 1) s')∨∃o,f s=some (.inr o)∧Q o)→(∀s,P n s→∃o,f s=some (.inr o)∧Q o)→∀(j i:Nat),i + j=n→∀s,P i s→∃o,iterF f (j + 1) s=some o∧Q o:=by
  intro n step fin j
  induction j with
  | zero=>
   intro i hi s h
   obtain rfl:i=n:=by omega
   obtain⟨o,h1,h2⟩:=fin s h
   exact⟨o,by rw [yc,h1],h2⟩
  | succ j ih=>
   intro i hi s h
   rcases step i s (by omega) h with ⟨s',h1,h2⟩ | ⟨o,h1,h2⟩
   ·obtain ⟨o,h3,h4⟩:=ih (i + 1) (by omega) s' h2
    exact⟨o,by rw [yc,h1];exact h3,h4⟩
   ·exact ⟨o,by rw [yc,h1],h2⟩
 intro n i hn step fin hi s h
 obtain⟨o,h1,h2⟩:=key n step fin (n - i) i (by omega) s h
 exact⟨o,y3X (by omega) h1,h2⟩
theorem nxt {i:Nat} (h:i < 4611686018427387904):W ((i:Int) + 1)=((i + 1:Nat):Int):=by rw [show (i:Int) + 1=((i + 1:Nat):Int) by omega,W_nat (by omega)]
theorem ct_lt {i n:Nat} (h:i < n):decide ((i:Int) < (n:Int))=true:=by simp;omega
theorem ct_ge {n:Nat}:¬decide ((n:Int) < (n:Int))=true:=by simp
theorem y6V {α:Type} {xs:List α} {i:Nat} {y:α} (h:i < xs.length):upd xs (i:Int) y=some (xs.set i y):=by
 unfold upd
 rw [if_pos ⟨by omega,by omega⟩,Int.toNat_natCast]
theorem y6E {xs:List Int} (h:xs.length≤4294967296):y1d xs=some xs:=by
 rw [y1d,yp (by simpa using h)];rfl
def errO (e:Int):Unit ⊕ Int:=if e=0 then .inl () else .inr e
theorem ybw {xs:List Int} {n:Int} (hl:xs.length < 4611686018427387904):∀(j i:Nat),i + j=xs.length→
  iterF (y2b xs n) (j + 1) (i:Int)=some (errO (yQ n (y5y xs i) (xs.drop i))):=by
 intro j
 induction j with
 | zero=>
  intro i hi
  have e:xs.drop i= []:=List.drop_of_length_le (by omega)
  rw [yc,y2b,if_neg (by simp;omega),e]
  rfl
 | succ j ih=>
  intro i hi
  have hlt:i < xs.length:=by omega
  rw [yc,y2b,if_pos (by simp;omega),ya hlt,yOb]
  by_cases h1:xs[i] < 0∨n≤xs[i]
  ·rw [if_pos (by simpa using h1),ydh hlt h1]
   rfl
  ·rw [if_neg (by simpa using h1)]
   by_cases h0:0 < i
   ·rw [if_pos (by simp;omega),show(i:Int) - 1=((i - 1:Nat):Int) by omega,W_nat (by omega),ya (show i - 1 < xs.length by omega),yOb,yOb]
    by_cases h2:xs[i]≤xs[i - 1]
    ·rw [if_pos (by simpa using h2),ydi hlt h1 h0 h2]
     rfl
    ·rw [if_neg (by simpa using h2),show(i:Int) + 1=((i + 1:Nat):Int) by omega,W_nat (by omega),y9l hlt h1 (fun _=>by omega)]
     exact ih (i + 1) (by omega)
   ·rw [if_neg (by simp;omega),yOb,if_neg (by simp),show(i:Int) + 1=((i + 1:Nat):Int) by omega,W_nat (by omega),y9l hlt h1 (fun h=>absurd h h0)]
    exact ih (i + 1) (by omega)
theorem y7M {xs:List Int} {n:Int} (hl:xs.length < 4611686018427387904):y1t xs n=some (yQ n none xs):=by
 have h:iter (y2b xs n) 0=some (errO (yQ n none xs)):=y3X (by omega) (ybw (n:=n) hl xs.length 0 (by omega))
 rw [y1t,h,yOb]
 by_cases h0:yQ n none xs=0
 ·rw [h0];rfl
 ·rw [errO,if_neg h0]
theorem ydw {xs:List Int} {x:Int} (hl:xs.length < 4611686018427387904):∀(j i:Nat),i + j=xs.length→
  ∃o,iterF (y2v xs x) (j + 1) (i:Int)=some o∧((o= .inl ()∧x∉xs.drop i)∨∃k:Nat,i≤k∧o= .inr (k:Int)∧x∈xs.drop i):=by
 intro j
 induction j with
 | zero=>
  intro i hi
  have e:xs.drop i= []:=List.drop_of_length_le (by omega)
  refine⟨.inl (),?_,.inl ⟨rfl,by rw [e];simp⟩⟩
  rw [yc,y2v,if_neg (by simp;omega)]
 | succ j ih=>
  intro i hi
  have hlt:i < xs.length:=by omega
  rw [yc,y2v,if_pos (by simp;omega),ya hlt,yOb]
  by_cases h1:x=xs[i]
  ·rw [if_pos (by simpa using h1)]
   exact⟨_,rfl,.inr ⟨i,Nat.le_refl _,rfl,by rw [List.drop_eq_getElem_cons hlt,h1];exact List.mem_cons_self⟩⟩
  ·rw [if_neg (by simpa using h1),show(i:Int) + 1=((i + 1:Nat):Int) by omega,W_nat (by omega)]
   obtain⟨o,h2,h3⟩:=ih (i + 1) (by omega)
   refine⟨o,h2,?_⟩
   rw [List.drop_eq_getElem_cons hlt]
   rcases h3 with ⟨h4,h5⟩ | ⟨k,h4,h5,h6⟩
   ·exact .inl ⟨h4,fun hc=>(List.mem_cons.1 hc).elim h1 h5⟩
   ·exact .inr ⟨k,by omega,h5,List.mem_cons_of_mem _ h6⟩
theorem y5b {xs:List Int} {x:Int} (hl:xs.length < 4611686018427387904):yo xs x=some (hasB xs x):=by
 obtain⟨o,h1,h2⟩:=ydw (x:=x) hl xs.length 0 (by omega)
 have h:iter (y2v xs x) 0=some o:=y3X (by omega) h1
 rw [yo,y4X,h,yOb]
 rcases h2 with ⟨rfl,h4⟩ | ⟨k,_,rfl,h4⟩
 ·rw [y8h.2 (by simpa using h4)];rfl
 ·rw [yf.2 (by simpa using h4)]
  show some (decide ((k:Int)≥0))=some true
  simp
def edP (x:Ed):Int×Int×Int:=(x.f,x.e,x.t)
def autP (a:Aut):List Int×Int×List Int×List (Int×Int×Int):=(a.al,a.n,a.ms,a.es.map edP)
def prevE (es:List Ed) (k:Nat):Option Ed:=if k=0 then none else es[k - 1]?
theorem ybx {al:List Int} {n:Int} {es:List Ed} {k:Nat} (hk:k < es.length):edErr al n (prevE es k) (es.drop k)=
  if(es[k].f < 0∨n≤es[k].f∨es[k].t < 0∨n≤es[k].t) then 2 else if hasB al es[k].e=false then 9 else if(∃q,prevE es k=some q∧(es[k].f < q.f∨(es[k].f=q.f∧es[k].e≤q.e))) then 5 else edErr al n (prevE es (k + 1)) (es.drop (k + 1)):=by
 rw [List.drop_eq_getElem_cons hk,edErr]
 congr 3
 simp [prevE,yGe hk]
theorem ydx {a:Aut} (hl:a.es.length < 4611686018427387904) (hal:a.al.length < 4611686018427387904):∀(j i:Nat),i + j=a.es.length→
  iterF (y1A (autP a)) (j + 1) (i:Int)=some (errO (edErr a.al a.n (prevE a.es i) (a.es.drop i))):=by
 have hlen:(autP a).2.2.2.length=a.es.length:=by simp [autP]
 have hat:∀(i:Nat) (h:i < a.es.length),idx (autP a).2.2.2 (i:Int)=some (edP a.es[i]):=fun i h=>by
  rw [ya (by rw [hlen];exact h)];simp [autP]
 intro j
 induction j with
 | zero=>
  intro i hi
  have e:a.es.drop i= []:=List.drop_of_length_le (by omega)
  rw [yc,y1A,if_neg (by rw [hlen];simp;omega),e]
  rfl
 | succ j ih=>
  intro i hi
  have hlt:i < a.es.length:=by omega
  have hnext:y1z (i:Int)=some (.inl ((i + 1:Nat):Int)):=by
   rw [y1z,show(i:Int) + 1=((i + 1:Nat):Int) by omega,W_nat (by omega)]
  rw [yc,y1A,if_pos (by rw [hlen];simp;omega),hat i hlt,yOb,ybx hlt]
  by_cases h1:a.es[i].f < 0∨a.n≤a.es[i].f∨a.es[i].t < 0∨a.n≤a.es[i].t
  ·rw [if_pos (by simp only [Bool.or_eq_true,decide_eq_true_eq];show((a.es[i].f < 0∨a.es[i].f≥a.n)∨a.es[i].t < 0)∨a.es[i].t≥a.n;omega),if_pos h1]
   rfl
  ·rw [if_neg (by simp only [Bool.or_eq_true,decide_eq_true_eq];show ¬(((a.es[i].f < 0∨a.es[i].f≥a.n)∨a.es[i].t < 0)∨a.es[i].t≥a.n);omega),if_neg h1]
   rw [show yo (autP a).1 (edP a.es[i]).2.1=some (hasB a.al a.es[i].e) from y5b hal,yOb]
   cases h2:hasB a.al a.es[i].e with
   | false=>rfl
   | true=>
    rw [if_neg (show ¬(!true)=true by simp),if_neg (show ¬(true=false) by simp)]
    by_cases h0:i=0
    ·subst h0
     rw [if_pos (by simp),hnext,if_neg (by rintro⟨q,hq,_⟩;simp [prevE] at hq)]
     exact ih 1 (by omega)
    ·have hp:prevE a.es i=some a.es[i - 1]:=by rw [prevE,if_neg h0,yGe (by omega)]
     rw [if_neg (by simp;omega),show(i:Int) - 1=((i - 1:Nat):Int) by omega,W_nat (by omega),hat (i - 1) (by omega),yOb]
     by_cases h3:a.es[i].f < a.es[i - 1].f∨(a.es[i].f=a.es[i - 1].f∧a.es[i].e≤a.es[i - 1].e)
     ·rw [if_pos (by simp only [Bool.or_eq_true,Bool.and_eq_true,decide_eq_true_eq,beq_iff_eq];exact h3),if_pos ⟨_,hp,h3⟩]
      rfl
     ·rw [if_neg (by simp only [Bool.or_eq_true,Bool.and_eq_true,decide_eq_true_eq,beq_iff_eq];exact h3),hnext,if_neg (by rintro⟨q,hq,h4⟩;rw [hp] at hq;cases hq;exact h3 h4)]
      exact ih (i + 1) (by omega)
theorem ybi {a:Aut} (hl:a.es.length < 4611686018427387904) (hal:a.al.length < 4611686018427387904) (hms:a.ms.length < 4611686018427387904):yW (autP a)=some a.err:=by
 have h:iter (y1A (autP a)) 0=some (errO (edErr a.al a.n none a.es)):=y3X (by omega) (ydx hl hal a.es.length 0 (by omega))
 have he:y3f (autP a)=some (edErr a.al a.n none a.es):=by
  rw [y3f,h,yOb]
  by_cases h0:edErr a.al a.n none a.es=0
  ·rw [h0];rfl
  ·rw [errO,if_neg h0]
 rw [yW,show y1t (autP a).1 32=some (yQ 32 none a.al) from y7M hal,yOb,Aut.err]
 by_cases h1:(yQ 32 none a.al != 0)=true
 ·rw [if_pos h1,if_pos h1]
 ·rw [if_neg h1,if_neg h1]
  by_cases h2:a.n < 0
  ·rw [if_pos (show decide ((autP a).2.1 < 0)=true from decide_eq_true h2),if_pos h2]
  ·rw [if_neg (show ¬decide ((autP a).2.1 < 0)=true from fun e=>h2 (of_decide_eq_true e)),if_neg h2]
   by_cases h3:4096 < a.n
   ·rw [if_pos (show decide ((autP a).2.1 > 4096)=true from decide_eq_true h3),if_pos h3]
   ·rw [if_neg (show ¬decide ((autP a).2.1 > 4096)=true from fun e=>h3 (of_decide_eq_true e)),if_neg h3,show y1t (autP a).2.2.1 (autP a).2.1=some (yQ a.n none a.ms) from y7M hms,yOb]
    by_cases h4:(yQ a.n none a.ms != 0)=true
    ·rw [if_pos h4,if_pos h4]
    ·rw [if_neg h4,if_neg h4,he]
     rfl
abbrev Inc (xs:List Int):Prop:=xs.Pairwise (· < ·)
theorem ybU {i j:Nat} (h:i + j < 9223372036854775808):W ((IntKind.u64.wrap (W ((i:Int) + (j:Int)))).fdiv (2 ^ (min (1:Int).toNat 64)))=(((i + j) / 2:Nat):Int):=by
 rw [W_of (x:=(i:Int) + j) (by omega) (by omega),IntWalk.u64_in _ (by omega),show(2:Int) ^ (min (1:Int).toNat 64)=2 from rfl,Int.fdiv_eq_ediv_of_nonneg _ (by omega),W_of (by omega) (by omega)]
 omega
theorem yen (x y:Int):y5h x y=some (decide (x < y)):=by
 rw [y5h,show y1W x=some false by rw [y1W];simp,yOb,if_neg (by simp),yOb,Bool.false_or]
theorem yeS {xs:List Int} {t:Int} (hl:xs.length < 4294967296) (hs:Inc xs):∀(f i j:Nat),j≤i + f→i≤j→j≤xs.length→(∀k (h:k < xs.length),k < i→xs[k] < t)→(∀k (h:k < xs.length),j≤k→t≤xs[k])→
  ∃p:Nat,iterF (y1e xs t) (f + 1) ((j:Int),(i:Int))=some (p:Int)∧p≤xs.length∧(∀k (h:k < xs.length),k < p→xs[k] < t)∧(∀k (h:k < xs.length),p≤k→t≤xs[k]):=by
 intro f
 induction f with
 | zero=>
  intro i j h1 h2 h3 h4 h5
  refine⟨i,?_,by omega,h4,fun k h hk=>h5 k h (by omega)⟩
  rw [yc,y1e,if_neg (by simp;omega)]
 | succ f ih=>
  intro i j h1 h2 h3 h4 h5
  rw [yc,y1e]
  dsimp only
  by_cases hij:i < j
  ·have hm:(i + j) / 2 < xs.length:=by omega
   rw [if_pos (by simp;omega),ybU (by omega),ya hm,yOb,yen,yOb]
   have mono:∀(a b:Nat) (ha:a < xs.length) (hb:b < xs.length),a≤b→xs[a]≤xs[b]:=fun a b ha hb hab=>by
    rcases Nat.lt_or_ge a b with h | h
    ·exact Int.le_of_lt (List.pairwise_iff_getElem.1 hs a b ha hb h)
    ·have:a=b:=by omega
     subst this
     exact Int.le_refl _
   by_cases hc:xs[(i + j) / 2] < t
   ·rw [if_pos (decide_eq_true hc),show(((i + j) / 2:Nat):Int) + 1=(((i + j) / 2 + 1:Nat):Int) by omega,W_nat (by omega)]
    exact ih _ j (by omega) (by omega) h3 (fun k h hk=>by have:=mono k _ h hm (by omega);omega) h5
   ·rw [if_neg (by simpa using hc)]
    exact ih i _ (by omega) (by omega) (by omega) h4 (fun k h hk=>by have:=mono _ k hm h hk;omega)
  ·rw [if_neg (by simp;omega)]
   exact⟨i,rfl,by omega,h4,fun k h hk=>h5 k h (by omega)⟩
theorem y4N {xs:List Int} {t:Int} (hl:xs.length < 4294967296) (hs:Inc xs):yr xs t=some (hasB xs t):=by
 obtain⟨p,hp,hle,hlo,hhi⟩:=yeS (t:=t) hl hs xs.length 0 xs.length (by omega) (by omega) (by omega) (fun k h hk=>absurd hk (by omega)) (fun k h hk=>absurd hk (by omega))
 have hi:iter (y1e xs t) ((xs.length:Int),0)=some (p:Int):=y3X (by omega) hp
 rw [yr,y3C,hi,yOb]
 by_cases hlt:p < xs.length
 ·rw [if_pos (by simpa using hlt),ya hlt,yOb]
  by_cases he:xs[p]=t
  ·rw [if_pos (by simpa using he)]
   show some true=_
   rw [yf.2 (he ▸ List.getElem_mem hlt)]
  ·rw [if_neg (by simpa using he),yOb,show y3r xs[p]=some false by rw [y3r];simp,yOb,if_neg (by simp)]
   show some false=_
   rw [y8h.2]
   intro hm
   obtain⟨k,hk,hk2⟩:=List.getElem_of_mem hm
   rcases Nat.lt_trichotomy k p with h | h | h
   ·have:=hlo k hk h;omega
   ·subst h;exact he hk2
   ·have:=hhi p hlt (Nat.le_refl _)
    have:=List.pairwise_iff_getElem.1 hs p k hlt hk h
    omega
 ·rw [if_neg (by simpa using hlt)]
  show some false=_
  rw [y8h.2]
  intro hm
  obtain⟨k,hk,hk2⟩:=List.getElem_of_mem hm
  have:=hlo k hk (by omega)
  omega
theorem y6c {n:Int}:∀{p:Option Int} {xs:List Int},xs.Pairwise (· < ·)→(∀x∈xs,0≤x∧x < n)→(∀q,p=some q→∀x∈xs,q < x)→yQ n p xs=0
 | _,[],_,_,_=>rfl
 | p,x :: xs,h,hr,hp=>by
  obtain⟨h1,h2⟩:=List.pairwise_cons.1 h
  have h3:=hr x (List.mem_cons_self ..)
  rw [yQ,if_neg (by omega),if_neg ?_]
  ·exact y6c h2 (fun y hy=>hr y (List.mem_cons_of_mem _ hy)) (fun q hq y hy=>by cases hq;exact h1 y hy)
  ·rintro ⟨q,hq,hle⟩
   have:=hp q hq x (List.mem_cons_self ..)
   omega
theorem ybj {al:List Int} {n:Int}:∀{p:Option Ed} {es:List Ed},y8W es→(∀x∈es,0≤x.f∧x.f < n∧0≤x.t∧x.t < n∧hasB al x.e=true)→(∀q,p=some q→∀x∈es,edLt q x)→edErr al n p es=0
 | _,[],_,_,_=>rfl
 | p,x :: xs,h,hr,hp=>by
  obtain⟨h1,h2⟩:=List.pairwise_cons.1 h
  have h3:=hr x (List.mem_cons_self ..)
  rw [edErr,if_neg (by omega),if_neg (by rw [h3.2.2.2.2];simp),if_neg ?_]
  ·exact ybj h2 (fun y hy=>hr y (List.mem_cons_of_mem _ hy)) (fun q hq y hy=>by cases hq;exact h1 y hy)
  ·rintro ⟨q,hq,hle⟩
   have:=hp q hq x (List.mem_cons_self ..)
   unfold edLt at this
   omega
theorem y8t (a:AutT):autP (toAut a)=a:=by
 obtain⟨x,y,z,es⟩:=a
 simp only [autP,toAut,List.map_map]
 rw [show (edP ∘ toEd)=id from rfl,List.map_id]
structure Right (a:AutT) (n:Nat):Prop where
 nn:a.2.1=(n:Int)
 nl:n≤4096
 ali:Inc a.1
 alr:∀x∈a.1,0≤x∧x < 32
 msi:Inc a.2.2.1
 msr:∀x∈a.2.2.1,0≤x∧x < (n:Int)
 es:∀x∈a.2.2.2,0≤x.1∧x.1 < (n:Int)∧0≤x.2.2∧x.2.2 < (n:Int)∧x.2.1∈a.1
 so:a.2.2.2.Pairwise fun x y=>x.1 < y.1∨(x.1=y.1∧x.2.1 < y.2.1)
 l1:a.1.length≤1000000
 l2:a.2.2.1.length≤1000000
 l3:a.2.2.2.length≤1000000
namespace Right
variable {a:AutT} {n:Nat}
theorem sorted (h:Right a n):y8W (a.2.2.2.map toEd):=by
 unfold y8W
 rw [List.pairwise_map]
 exact h.so
theorem ein (h:Right a n):∀x∈a.2.2.2.map toEd,0≤x.f∧x.f < (n:Int)∧0≤x.t∧x.t < (n:Int):=fun x hx=>by
 obtain⟨y,hy,rfl⟩:=List.mem_map.1 hx
 have:=h.es y hy
 exact⟨this.1,this.2.1,this.2.2.1,this.2.2.2.1⟩
theorem evs (h:Right a n):EvEs (a.2.2.2.map toEd):=fun x hx=>by
 obtain⟨y,hy,rfl⟩:=List.mem_map.1 hx
 exact h.alr _ (h.es y hy).2.2.2.2
theorem err (h:Right a n):(toAut a).err=0:=by
 have h1:yQ 32 none (toAut a).al=0:=y6c h.ali h.alr (fun q hq=>by cases hq)
 have hn:(toAut a).n=n:=h.nn
 have h2:yQ (toAut a).n none (toAut a).ms=0:=by rw [hn];exact y6c h.msi h.msr (fun q hq=>by cases hq)
 have h3:edErr (toAut a).al (toAut a).n none (toAut a).es=0:=by
  rw [hn]
  refine ybj h.sorted (fun x hx=>?_) (fun q hq=>by cases hq)
  obtain⟨y,hy,rfl⟩:=List.mem_map.1 hx
  have:=h.es y hy
  exact⟨this.1,this.2.1,this.2.2.1,this.2.2.2.1,yf.2 this.2.2.2.2⟩
 have:=h.nl
 unfold Aut.err
 rw [h1,if_neg (by decide),if_neg (by rw [hn];omega),if_neg (by rw [hn];omega),h2,if_neg (by decide),h3]
theorem check (h:Right a n):yW a=some 0:=by
 have h1:=h.l1
 have h2:=h.l2
 have h3:=h.l3
 have:=ybi (a:=toAut a) (by simp [toAut];omega) (by simp [toAut];omega) (by simp [toAut];omega)
 rwa [y8t,h.err] at this
end Right
theorem y4t {n:Nat}:∀{xs:List Int} {lo:Int},Inc xs→(∀x∈xs,lo≤x∧x < (n:Int))→0≤lo→xs.length≤n - lo.toNat
 | [],_,_,_,_=>Nat.zero_le _
 | x :: xs,lo,h,hr,h0=>by
  obtain⟨h1,h2⟩:=List.pairwise_cons.1 h
  have hx:=hr x (List.mem_cons_self ..)
  have:=y4t (n:=n) (lo:=x + 1) h2 (fun y hy=>⟨by have:=h1 y hy;omega,(hr y (List.mem_cons_of_mem _ hy)).2⟩) (by omega)
  rw [List.length_cons]
  omega
theorem y3B {α:Type} (a:α) (us:List α):idx (a :: us) 0=some a:=rfl
theorem y5p {α:Type} (a:α) (us:List α):slc (a :: us) 1 ((a :: us).length:Int)=some us:=by
 rw [slc,if_pos ⟨by omega,by simp;omega,by omega⟩]
 simp
structure Mrg (out us vs:List Int):Prop where
 o:Inc out
 u:Inc us
 v:Inc vs
 ou:∀x∈out,∀y∈us,x < y
 ov:∀x∈out,∀y∈vs,x < y
 ro:∀x∈out,0≤x∧x < 32
 ru:∀x∈us,0≤x∧x < 32
 rv:∀x∈vs,0≤x∧x < 32
theorem Mrg.swap {out us vs:List Int} (h:Mrg out us vs):Mrg out vs us:=⟨h.o,h.v,h.u,h.ov,h.ou,h.ro,h.rv,h.ru⟩
theorem Mrg.push {out us vs:List Int} {a:Int} (h:Mrg out (a :: us) vs) (hv:∀y∈vs,a < y):Mrg (out ++ [a]) us vs:=by
 obtain⟨u1,u2⟩:=List.pairwise_cons.1 h.u
 refine⟨?_,u2,h.v,?_,?_,?_,fun x hx=>h.ru x (List.mem_cons_of_mem _ hx),h.rv⟩
 ·unfold Inc;rw [List.pairwise_append]
  exact⟨h.o,List.pairwise_singleton _ _,fun x hx y hy=>by rw [List.mem_singleton.1 hy];exact h.ou x hx a (List.mem_cons_self ..)⟩
 ·intro x hx y hy
  rcases List.mem_append.1 hx with hx | hx
  ·exact h.ou x hx y (List.mem_cons_of_mem _ hy)
  ·rw [List.mem_singleton.1 hx];exact u1 y hy
 ·intro x hx y hy
  rcases List.mem_append.1 hx with hx | hx
  ·exact h.ov x hx y hy
  ·rw [List.mem_singleton.1 hx];exact hv y hy
 ·intro x hx
  rcases List.mem_append.1 hx with hx | hx
  ·exact h.ro x hx
  ·rw [List.mem_singleton.1 hx];exact h.ru a (List.mem_cons_self ..)
theorem Mrg.tailv {out us vs:List Int} {a:Int} (h:Mrg out us (a :: vs)):Mrg out us vs:=
 ⟨h.o,h.u,(List.pairwise_cons.1 h.v).2,h.ou,fun x hx y hy=>h.ov x hx y (List.mem_cons_of_mem _ hy),h.ro,h.ru,fun x hx=>h.rv x (List.mem_cons_of_mem _ hx)⟩
theorem Mrg.len {out us vs:List Int} (h:Mrg out us vs):out.length≤32:=by
 have:=y4t (n:=32) (lo:=0) h.o h.ro (Int.le_refl _)
 simpa using this
theorem Mrg.lt {out us vs:List Int} {a b:Int} (h:Mrg out us (b :: vs)) (hab:a < b):∀y∈b :: vs,a < y:=fun y hy=>by
 rcases List.mem_cons.1 hy with rfl | hy
 ·exact hab
 ·have:=(List.pairwise_cons.1 h.v).1 y hy;omega
theorem ycd {out us vs:List Int} (h:Mrg out us vs) (hne:0 < us.length + vs.length):
  ∃o u v,yl yv (out,us,vs)=some (.inl (o,u,v))∧Mrg o u v∧u.length + v.length + 1≤us.length + vs.length:=by
 have hl:=h.len
 have ho:∀a:Int,app out ([a]:List Int)=some (out ++ [a]):=fun a=>yp (by simp;omega)
 cases us with
 | nil=>
  cases vs with
  | nil=>simp at hne
  | cons b vs=>
   refine⟨out ++ [b],[],vs,?_,(h.swap.push (fun y hy=>by cases hy)).swap,by simp⟩
   rw [yl]
   dsimp only
   rw [if_pos (by simp),if_neg (by simp),yH]
   dsimp only
   rw [if_pos (by simp),if_pos (by simp),yq,if_neg (by simp),yk,if_pos rfl]
   dsimp only
   rw [y3B,yOb,y5p,yOb,yG,show yv false true=some true from rfl,yOb,if_pos rfl]
   dsimp only
   rw [ho,yOb]
 | cons a us=>
  cases vs with
  | nil=>
   refine⟨out ++ [a],us,[],?_,h.push (fun y hy=>by cases hy),by simp⟩
   rw [yl]
   dsimp only
   rw [if_pos (by simp),if_pos (by simp),if_pos (by simp),yH]
   dsimp only
   rw [if_neg (by simp),yq,if_pos rfl]
   dsimp only
   rw [y3B,yOb,y5p,yOb,yk,if_neg (by simp),yG,show yv true false=some true from rfl,yOb,if_pos rfl]
   dsimp only
   rw [ho,yOb]
  | cons b vs=>
   have e0:yl yv (out,a :: us,b :: vs)=yq yv (out,a :: us,b :: vs) (decide (a≤b)) (decide (b≤a)):=by
    rw [yl]
    dsimp only
    rw [if_pos (by simp),if_pos (by simp),if_neg (by simp;omega),y3B,yOb,y3B,yOb,yH]
    dsimp only
    rw [if_pos (by simp),if_neg (by simp;omega),y3B,yOb,y3B,yOb]
   rw [e0,yq]
   dsimp only
   by_cases h1:a < b
   ·refine ⟨out ++ [a],us,b :: vs,?_,h.push (h.lt h1),by simp;omega⟩
    rw [if_pos (show decide (a≤b)=true by simp;omega),y3B,yOb,y5p,yOb,yk,if_neg (by simp;omega),yG,show decide (a≤b)=true by simp;omega,show decide (b≤a)=false by simp;omega,
     show yv true false=some true from rfl,yOb,if_pos rfl]
    dsimp only
    rw [ho,yOb]
   ·by_cases h2:b < a
    ·refine ⟨out ++ [b],a :: us,vs,?_,(h.swap.push (h.swap.lt h2)).swap,by simp;omega⟩
     rw [if_neg (show ¬decide (a≤b)=true by simp;omega),yk,if_pos (show decide (b≤a)=true by simp;omega)]
     dsimp only
     rw [y3B,yOb,y5p,yOb,yG,show decide (a≤b)=false by simp;omega,show decide (b≤a)=true by simp;omega,
      show yv false true=some true from rfl,yOb,if_pos rfl]
     dsimp only
     rw [ho,yOb]
    ·obtain rfl:a=b:=by omega
     refine⟨out ++ [a],us,vs,?_,h.tailv.push ((List.pairwise_cons.1 h.v).1),by simp;omega⟩
     rw [if_pos (show decide (a≤a)=true by simp),y3B,yOb,y5p,yOb,yk,if_pos (show decide (a≤a)=true by simp)]
     dsimp only
     rw [y3B,yOb,y5p,yOb,yG,show decide (a≤a)=true by simp,
      show yv true true=some true from rfl,yOb,if_pos rfl]
     dsimp only
     rw [ho,yOb]
def Alp (xs:List Int):Prop:=Inc xs∧∀x∈xs,0≤x∧x < 32
theorem Alp.nil :Alp []:=⟨List.Pairwise.nil,fun x hx=>by cases hx⟩
theorem Alp.len {xs:List Int} (h:Alp xs):xs.length≤32:=by
 have:=y4t (n:=32) (lo:=0) h.1 h.2 (Int.le_refl _)
 simpa using this
theorem ydy {us vs:List Int} (hu:Alp us) (hv:Alp vs):∃o,y3n us vs=some o∧Alp o:=by
 have h0:Mrg [] us vs:=⟨List.Pairwise.nil,hu.1,hv.1,fun x hx=>(by cases hx),fun x hx=>(by cases hx),fun x hx=>(by cases hx),hu.2,hv.2⟩
 have l1:=hu.len
 have l2:=hv.len
 obtain⟨o,h1,h2⟩:=yb (f:=yl yv) (fun i s=>Mrg s.1 s.2.1 s.2.2∧s.2.1.length + s.2.2.length + i≤us.length + vs.length) (fun o=>Alp o) (us.length + vs.length) 0 (by omega) (fun i s hi ⟨g1,g2⟩=>by
   obtain⟨out,u,v⟩:=s
   dsimp only at g1 g2
   by_cases hne:0 < u.length + v.length
   ·obtain ⟨o,u',v',e,g3,g4⟩:=ycd g1 hne
    exact .inl ⟨_,e,g3,by dsimp only;omega⟩
   ·have e1:u= []:=List.eq_nil_of_length_eq_zero (by omega)
    have e2:v= []:=List.eq_nil_of_length_eq_zero (by omega)
    subst e1;subst e2
    exact .inr ⟨out,rfl,g1.o,g1.ro⟩) (fun s ⟨g1,g2⟩=>by
   obtain⟨out,u,v⟩:=s
   dsimp only at g1 g2
   have e1:u= []:=List.eq_nil_of_length_eq_zero (by omega)
   have e2:v= []:=List.eq_nil_of_length_eq_zero (by omega)
   subst e1;subst e2
   exact⟨out,rfl,g1.o,g1.ro⟩) (Nat.zero_le _) ([],us,vs) ⟨h0,by dsimp only;omega⟩
 exact⟨o,by rw [y3n,y2F,h1];rfl,h2⟩
theorem ycR {l:List AutT} (hl:l.length≤1000) (h:∀a∈l,Alp a.1):∃ev,y3o l=some ev∧Alp ev:=by
 obtain⟨o,h1,h2⟩:=yb (f:=y1k l) (fun i s=>s.1=(i:Int)∧Alp s.2) (fun o=>Alp o) l.length 0 (by omega) (fun i s hi ⟨e1,g1⟩=>by
   obtain⟨k,out⟩:=s
   dsimp only at e1 g1
   subst e1
   obtain⟨o,e,g2⟩:=ydy g1 (h _ (List.getElem_mem hi))
   refine .inl ⟨(((i + 1:Nat):Int),o),?_,rfl,g2⟩
   rw [y1k]
   dsimp only
   rw [if_pos (ct_lt hi),ya hi,yOb,e,yOb,nxt (by omega)]) (fun s ⟨e1,g1⟩=>by
   obtain⟨k,out⟩:=s
   dsimp only at e1 g1
   subst e1
   refine⟨out,?_,g1⟩
   rw [y1k]
   dsimp only
   rw [if_neg ct_ge]) (Nat.zero_le _) (0,[]) ⟨rfl,Alp.nil⟩
 exact⟨o,by rw [y3o,h1];rfl,h2⟩
section
variable {κ β:Type} [BEq κ]
theorem ydz {m:List (κ×β)} {k:κ} {v:β} (h:kget m k=some v):∃e∈m,e.2=v:=by
 unfold kget at h
 rw [Option.map_eq_some_iff] at h
 obtain⟨e,h1,h2⟩:=h
 exact⟨e,List.mem_of_find?_eq_some h1,h2⟩
theorem y7t {m:List (κ×β)} {k:κ} {v:β} {e:κ×β} (h:e∈kput m k v):e∈m∨e=(k,v):=by
 unfold kput at h
 split at h
 ·exact List.mem_or_eq_of_mem_set h
 ·rcases List.mem_append.1 h with h | h
  ·exact .inl h
  ·exact .inr (List.mem_singleton.1 h)
theorem y9o {m:List (κ×β)} {k:κ}:(kget m k).isSome=m.any fun p=>k == p.1:=by
 unfold kget
 induction m with
 | nil=>rfl
 | cons p m ih=>
  rw [List.any_cons]
  cases h:k == p.1 with
  | true=>rw [List.find?_cons_of_pos (by simpa using h)];rfl
  | false=>rw [List.find?_cons_of_neg (by simp [h])];simpa using ih
end
theorem beqB (k:ByteArray):(k == k)=true:=by rw [beq_toListBytes];simp
theorem yaF {β:Type} {m:List (ByteArray×β)} {k:ByteArray} {v:β}:(kget (kput m k v) k).isSome=true:=by
 rw [y9o,List.any_eq_true]
 refine⟨(k,v),?_,beqB k⟩
 unfold kput
 split
 ·rename_i h;exact List.mem_set h _
 ·exact List.mem_append_right _ (List.mem_singleton.2 rfl)
theorem ycS {β:Type} {m:List (ByteArray×β)} {k q:ByteArray} {v:β} (h:(kget m q).isSome=true):(kget (kput m k v) q).isSome=true:=by
 rw [y9o,List.any_eq_true] at h ⊢
 obtain⟨e,h1,h2⟩:=h
 have hq:=eqS h2
 unfold kput
 split
 ·rename_i hlt
  obtain⟨i,hi,rfl⟩:=List.getElem_of_mem h1
  by_cases e:kidx (m.map (·.1)) k=i
  ·refine ⟨(k,v),List.mem_set hlt _,?_⟩
   have hk:(fun p=>k == p) ((m.map (·.1))[kidx (m.map (·.1)) k]'(by rw [List.length_map];exact hlt))=true:=List.findIdx_getElem (p:=fun p=>k == p) (w:=by rw [List.length_map];exact hlt)
   rw [List.getElem_map] at hk
   have hk:=eqS hk
   subst e
   rw [hq,←hk]
   exact beqB k
  ·refine ⟨m[i],?_,h2⟩
   have:=List.getElem_set_ne (l:=m) e (a:=(k,v)) (by rw [List.length_set];exact hi)
   rw [←this]
   exact List.getElem_mem _
 ·exact ⟨e,List.mem_append_left _ h1,h2⟩
def InT (l:List AutT) (t:List Int):Prop:=t.length=l.length∧∀i (h:i < l.length) (h':i < t.length),0≤t[i]∧t[i] < l[i].2.1
theorem InT.set {l:List AutT} {t:List Int} (h:InT l t) {i:Nat} (hi:i < l.length) {v:Int} (h0:0≤v) (h1:v < l[i].2.1):InT l (t.set i v):=by
 refine⟨by rw [List.length_set];exact h.1,fun k hk hk'=>?_⟩
 rw [List.getElem_set]
 split
 ·rename_i e;subst e;exact⟨h0,h1⟩
 ·exact h.2 k hk _
structure MOk (l:List AutT) (m:List AutT×List Int×List (List ((Int×Int)×Int))):Prop where
 ml:m.1=l
 ev:Alp m.2.1
 len:m.2.2.length=l.length
 edge:∀i (h:i < l.length) (h':i < m.2.2.length),∀e∈m.2.2[i],0≤e.2∧e.2 < l[i].2.1
theorem yeo {a:AutT} {n:Nat} (hr:Right a n):∃o,iter (y1n a) (0,([]:List ((Int×Int)×Int)))=some o∧∀e∈o,0≤e.2∧e.2 < (n:Int):=by
 have hl:=hr.l3
 refine yb (f:=y1n a) (fun i s=>s.1=(i:Int)∧∀e∈s.2,0≤e.2∧e.2 < (n:Int)) (fun o=>∀e∈o,0≤e.2∧e.2 < (n:Int)) a.2.2.2.length 0 (by omega) (fun i s hi ⟨e1,g1⟩=>?_) (fun s ⟨e1,g1⟩=>?_) (Nat.zero_le _) _ ⟨rfl,fun e he=>(by cases he)⟩
 ·obtain ⟨k,out⟩:=s
  dsimp only at e1 g1
  subst e1
  have hx:=hr.es _ (List.getElem_mem hi)
  refine .inl ⟨(((i + 1:Nat):Int),kput out (a.2.2.2[i].1,a.2.2.2[i].2.1) a.2.2.2[i].2.2),?_,rfl,fun e he=>?_⟩
  ·rw [y1n]
   dsimp only
   rw [if_pos (ct_lt hi),ya hi,yOb,nxt (by omega)]
  ·rcases y7t he with he | he
   ·exact g1 e he
   ·rw [he];exact⟨hx.2.2.1,hx.2.2.2.1⟩
 ·obtain ⟨k,out⟩:=s
  dsimp only at e1 g1
  subst e1
  refine⟨out,?_,g1⟩
  rw [y1n]
  dsimp only
  rw [if_neg ct_ge]
def keyK (t:List Int):ByteArray:=⟨(keyB t).toArray⟩
theorem y6d :∀(N:Nat) (l:List Nat),l.Nodup→(∀x∈l,x < N)→l.length≤N
 | 0,[],_,_=>Nat.le_refl _
 | 0,x :: l,_,h=>absurd (h x (List.mem_cons_self ..)) (by omega)
 | N + 1,l,hn,h=>by
  by_cases hm:N∈l
  ·have h1:=y6d N (l.erase N) (hn.erase N) (fun x hx=>by
    have h2:=(hn.mem_erase_iff).1 hx
    have:=h x h2.2
    omega)
   rw [List.length_erase_of_mem hm] at h1
   omega
  ·have h1:=y6d N l hn (fun x hx=>by
    have:=h x hx
    have:x≠N:=fun e=>hm (e ▸ hx)
    omega)
   omega
abbrev Kno :=List (ByteArray×Int)
structure SI (l:List AutT) (ev:List Int) (i j:Nat) (kn:Kno) (T:List (List Int)) (E:List (Int×Int×Int)):Prop where
 pos:0 < T.length
 nd:T.Nodup
 inT:∀t∈T,InT l t
 key:∀t∈T,(kget kn (keyK t)).isSome=true
 val:∀e∈kn,0≤e.2∧e.2 < (T.length:Int)
 er:∀x∈E,0≤x.1∧x.1≤(i:Int)∧0≤x.2.2∧x.2.2 < (T.length:Int)∧x.2.1∈ev
 es:∀x∈E,x.1=(i:Int)→x.2.1∈ev.take j
 so:E.Pairwise fun x y=>x.1 < y.1∨(x.1=y.1∧x.2.1 < y.2.1)
 el:E.length≤32 * i + j
 lk:∀k:Nat,0 < k→k < T.length→∃x∈E,x.2.2=(k:Int)∧0≤x.1∧x.1 < (k:Int)
section
variable {l:List AutT} {ev:List Int} {i j:Nat} {kn:Kno} {T:List (List Int)} {E:List (Int×Int×Int)}
theorem SI.skip (h:SI l ev i j kn T E):SI l ev i (j + 1) kn T E:=
 ⟨h.pos,h.nd,h.inT,h.key,h.val,h.er,fun x hx e=>(List.take_subset_take_left ev (Nat.le_succ j)) (h.es x hx e),h.so,by have:=h.el;omega,h.lk⟩
theorem SI.next (h:SI l ev i j kn T E) (hj:j≤32):SI l ev (i + 1) 0 kn T E:=
 ⟨h.pos,h.nd,h.inT,h.key,h.val,fun x hx=>by have:=h.er x hx;exact⟨this.1,by omega,this.2.2⟩,fun x hx e=>by have:=h.er x hx;omega,h.so,by have:=h.el;omega,h.lk⟩
theorem ybV (he:Inc ev) (hj:j < ev.length):∀x∈ev.take j,x < ev[j]:=fun x hx=>by
 obtain⟨k,hk,rfl⟩:=List.getElem_of_mem hx
 rw [List.length_take] at hk
 rw [List.getElem_take]
 exact List.pairwise_iff_getElem.1 he k j (by omega) hj (by omega)
theorem SI.edge (h:SI l ev i j kn T E) (he:Inc ev) (hi:i < T.length) (hj:j < ev.length) {q:Int} (h0:0≤q) (h1:q < T.length):SI l ev i (j + 1) kn T (E ++ [((i:Int),ev[j],q)]):=by
 refine⟨h.pos,h.nd,h.inT,h.key,h.val,fun x hx=>?_,fun x hx e=>?_,?_,by have:=h.el;rw [List.length_append,List.length_singleton];omega,fun k h2 h3=>?_⟩
 ·rcases List.mem_append.1 hx with hx | hx
  ·exact h.er x hx
  ·rw [List.mem_singleton.1 hx];exact⟨by dsimp only;omega,by dsimp only;omega,h0,h1,List.getElem_mem _⟩
 ·rcases List.mem_append.1 hx with hx | hx
  ·exact (List.take_subset_take_left ev (Nat.le_succ j)) (h.es x hx e)
  ·rw [List.mem_singleton.1 hx,y8R ev j hj];exact List.mem_append_right _ (List.mem_singleton.2 rfl)
 ·rw [List.pairwise_append]
  refine⟨h.so,List.pairwise_singleton _ _,fun a ha b hb=>?_⟩
  rw [List.mem_singleton.1 hb]
  have h2:=h.er a ha
  by_cases e:a.1=(i:Int)
  ·exact .inr ⟨e,ybV he hj _ (h.es a ha e)⟩
  ·exact .inl (by dsimp only;omega)
 ·obtain ⟨x,hx,h4⟩:=h.lk k h2 h3
  exact⟨x,List.mem_append_left _ hx,h4⟩
theorem SI.new (h:SI l ev i j kn T E) (he:Inc ev) (hi:i < T.length) (hj:j < ev.length) {t:List Int} (ht:InT l t) (hk:(kget kn (keyK t)).isSome=false):SI l ev i (j + 1) (kput kn (keyK t) (T.length:Int)) (T ++ [t]) (E ++ [((i:Int),ev[j],(T.length:Int))]):=by
 have hlen:(T ++ [t]).length=T.length + 1:=by simp
 have h0:SI l ev i j (kput kn (keyK t) (T.length:Int)) T E∨True:= .inr trivial
 refine⟨by omega,?_,fun s hs=>?_,fun s hs=>?_,fun e hx=>?_,fun x hx=>?_,fun x hx e=>?_,?_,by have:=h.el;rw [List.length_append,List.length_singleton];omega,fun k h2 h3=>?_⟩
 ·rw [List.nodup_append]
  refine⟨h.nd,by simp,fun a ha b hb=>?_⟩
  rw [List.mem_singleton.1 hb]
  intro e
  subst e
  rw [h.key a ha] at hk
  cases hk
 ·rcases List.mem_append.1 hs with hs | hs
  ·exact h.inT s hs
  ·rw [List.mem_singleton.1 hs];exact ht
 ·rcases List.mem_append.1 hs with hs | hs
  ·exact ycS (h.key s hs)
  ·rw [List.mem_singleton.1 hs];exact yaF
 ·rw [hlen]
  rcases y7t hx with hx | hx
  ·have:=h.val e hx;omega
  ·rw [hx];dsimp only;omega
 ·rw [hlen]
  rcases List.mem_append.1 hx with hx | hx
  ·have:=h.er x hx;exact⟨this.1,this.2.1,this.2.2.1,by omega,this.2.2.2.2⟩
  ·rw [List.mem_singleton.1 hx];exact⟨by dsimp only;omega,by dsimp only;omega,by dsimp only;omega,by dsimp only;omega,List.getElem_mem _⟩
 ·rcases List.mem_append.1 hx with hx | hx
  ·exact (List.take_subset_take_left ev (Nat.le_succ j)) (h.es x hx e)
  ·rw [List.mem_singleton.1 hx,y8R ev j hj];exact List.mem_append_right _ (List.mem_singleton.2 rfl)
 ·rw [List.pairwise_append]
  refine⟨h.so,List.pairwise_singleton _ _,fun a ha b hb=>?_⟩
  rw [List.mem_singleton.1 hb]
  have h2:=h.er a ha
  by_cases e:a.1=(i:Int)
  ·exact .inr ⟨e,ybV he hj _ (h.es a ha e)⟩
  ·exact .inl (by dsimp only;omega)
 ·by_cases h4:k < T.length
  ·obtain ⟨x,hx,h5⟩:=h.lk k h2 h4
   exact⟨x,List.mem_append_left _ hx,h5⟩
  ·have:k=T.length:=by omega
   subst this
   exact⟨_,List.mem_append_right _ (List.mem_singleton.2 rfl),rfl,by dsimp only;omega,by dsimp only;omega⟩
end
abbrev edsOf (p:AutT):List Ed:=p.2.2.2.map toEd
theorem ycT {κ β:Type} [BEq κ] {m:List (κ×β)} {k:κ} {v:β} (h:kget m k=some v):∃e∈m,e.2=v∧(k == e.1)=true:=by
 unfold kget at h
 rw [Option.map_eq_some_iff] at h
 obtain⟨e,h1,h2⟩:=h
 exact⟨e,List.mem_of_find?_eq_some h1,h2,List.find?_some (p:=fun p:κ×β=>k == p.1) h1⟩
section
variable {κ β:Type} [DecidableEq κ] [BEq κ] [LawfulBEq κ]
theorem y6W (p:κ×β) (m:List (κ×β)) (q:κ):kget (p :: m) q=if q=p.1 then some p.2 else kget m q:=by
 unfold kget
 by_cases h:q=p.1
 ·rw [if_pos h,List.find?_cons_of_pos (by simp [h])];rfl
 ·rw [if_neg h,List.find?_cons_of_neg (by simp [h])]
omit [DecidableEq κ] [LawfulBEq κ] in
theorem ydA (k:κ) (v:β):kput [] k v= [(k,v)]:=by
 unfold kput;rw [if_neg (by simp)];rfl
theorem ycU (p:κ×β) (m:List (κ×β)) (k:κ) (v:β):kput (p :: m) k v=if k=p.1 then(k,v) :: m else p :: kput m k v:=by
 unfold kput
 rw [List.map_cons,y6I]
 by_cases h:k=p.1
 ·subst h;rw [if_pos (by simp),if_pos (by simp),if_pos rfl];rfl
 ·have e:(if (k == p.1)=true then 0 else kidx (m.map (·.1)) k + 1)=kidx (m.map (·.1)) k + 1:=if_neg (by simp [h])
  rw [e,if_neg h]
  by_cases h2:kidx (m.map (·.1)) k < m.length
  ·rw [if_pos h2,if_pos (by rw [List.length_cons];omega),List.set_cons_succ]
  ·rw [if_neg h2,if_neg (by rw [List.length_cons];omega)];rfl
theorem y4H {k q:κ} {v:β}:∀(m:List (κ×β)),kget (kput m k v) q=if q=k then some v else kget m q
 | []=>by rw [ydA,y6W]
 | p :: m=>by
  rw [ycU]
  by_cases h:k=p.1
  ·rw [if_pos h,y6W,y6W]
   by_cases h2:q=k
   ·rw [if_pos h2,if_pos h2]
   ·rw [if_neg h2,if_neg h2,if_neg (by rw [←h];exact h2)]
  ·rw [if_neg h,y6W,y6W,y4H m]
   by_cases h2:q=p.1
   ·rw [if_pos h2,if_neg (by rw [h2];exact fun e=>h e.symm),if_pos h2]
   ·rw [if_neg h2,if_neg h2]
end
theorem yce {α:Type} (q:α→Bool):∀(xs:List α) (i j:Nat),i≤j→j≤xs.length→(∀k (h:k < xs.length),q xs[k]=decide (i≤k∧k < j))→(xs.take j).drop i=xs.filter q:=by
 intro xs i j hij hj h
 have e1:xs=xs.take i ++ ((xs.take j).drop i ++ xs.drop j):=by
  have h1:(xs.take j).take i=xs.take i:=by rw [List.take_take,Nat.min_eq_left hij]
  rw [←List.append_assoc,←h1,List.take_append_drop,List.take_append_drop]
 have f1:(xs.take i).filter q= []:=by
  refine List.filter_eq_nil_iff.2 fun x hx=>?_
  obtain⟨k,hk,rfl⟩:=List.mem_iff_getElem.1 hx
  rw [List.length_take] at hk
  rw [List.getElem_take,h k (by omega)]
  simp;omega
 have f2:((xs.take j).drop i).filter q=(xs.take j).drop i:=by
  refine List.filter_eq_self.2 fun x hx=>?_
  obtain⟨k,hk,rfl⟩:=List.mem_iff_getElem.1 hx
  rw [List.length_drop,List.length_take] at hk
  rw [List.getElem_drop,List.getElem_take,h (i + k) (by omega)]
  simp;omega
 have f3:(xs.drop j).filter q= []:=by
  refine List.filter_eq_nil_iff.2 fun x hx=>?_
  obtain⟨k,hk,rfl⟩:=List.mem_iff_getElem.1 hx
  rw [List.length_drop] at hk
  rw [List.getElem_drop,h (j + k) (by omega)]
  simp
 conv=>rhs;rw [e1]
 rw [List.filter_append,List.filter_append,f1,f2,f3]
 simp
theorem yar {xs:List (Int×Int×Int)} {p:(Int×Int×Int)→Int→Option Int} {c:(Int×Int×Int)→Int} {t:Int} (hp:∀x∈xs,p x t=some (c x)) (hl:xs.length < 4294967296) (hs:∀i j (hi:i < xs.length) (hj:j < xs.length),i < j→c xs[j] < 0→c xs[i] < 0):
  ∀(f i j:Nat),j≤i + f→i≤j→j≤xs.length→(∀k (h:k < xs.length),k < i→c xs[k] < 0)→(∀k (h:k < xs.length),j≤k→0≤c xs[k])→
  ∃q:Nat,iterF (yg xs t p) (f + 1) ((j:Int),(i:Int))=some (q:Int)∧q≤xs.length∧(∀k (h:k < xs.length),k < q→c xs[k] < 0)∧(∀k (h:k < xs.length),q≤k→0≤c xs[k])
 | 0,i,j,h1,h2,h3,h4,h5=>by
  obtain rfl:i=j:=by omega
  refine⟨i,?_,h3,h4,h5⟩
  rw [yc,yg]
  dsimp only
  rw [if_neg ct_ge]
 | f + 1,i,j,h1,h2,h3,h4,h5=>by
  by_cases hlt:i < j
  ·have hm:(i + j) / 2 < xs.length:=by omega
   rw [yc,yg]
   dsimp only
   rw [if_pos (ct_lt hlt),ybU (by omega),ya hm,yOb,hp _ (List.getElem_mem hm),yOb]
   by_cases hc:c xs[(i + j) / 2] < 0
   ·rw [if_pos (decide_eq_true hc),nxt (by omega)]
    dsimp only
    refine yar hp hl hs f ((i + j) / 2 + 1) j (by omega) (by omega) h3 (fun k hk hlt2=>?_) h5
    by_cases hk2:k=(i + j) / 2
    ·subst hk2;exact hc
    ·exact hs k ((i + j) / 2) hk hm (by omega) hc
   ·rw [if_neg (by simpa using hc)]
    dsimp only
    refine yar hp hl hs f i ((i + j) / 2) (by omega) (by omega) (by omega) h4 (fun k hk hle=>?_)
    by_cases hk2:k=(i + j) / 2
    ·subst hk2;omega
    ·have:=mt (hs ((i + j) / 2) k hm hk (by omega)) hc
     omega
  ·obtain rfl:i=j:=by omega
   refine⟨i,?_,h3,h4,h5⟩
   rw [yc,yg]
   dsimp only
   rw [if_neg ct_ge]
structure AOk (a:Aut):Prop where
 n0:0≤a.n
 n1:a.n≤4096
 ed:∀x∈a.es,0≤x.f∧x.f < a.n∧0≤x.t∧x.t < a.n
 so:y8W a.es
 el:a.es.length≤1000000
 al:a.al.length≤1000000
 ml:a.ms.length≤1000000
theorem yaG {a:Aut} (h:AOk a) {p:(Int×Int×Int)→Int→Option Int} (hp:∀x t,p x t=some (W (x.1 - t))) {t:Nat} (ht:t≤10000):
  ∃(q:Nat) (b:Bool),ye (a.es.map edP) (t:Int) p=some ((q:Int),b)∧q≤a.es.length∧(∀k (hk:k < a.es.length),k < q→a.es[k].f < t)∧(∀k (hk:k < a.es.length),q≤k→(t:Int)≤a.es[k].f):=by
 have hel:=h.el;have hn1:=h.n1
 have hlm:(a.es.map edP).length=a.es.length:=List.length_map ..
 have hat:∀k (hk:k < (a.es.map edP).length),(a.es.map edP)[k].1=(a.es[k]'(by omega)).f:=fun k hk=>by rw [List.getElem_map];rfl
 obtain⟨q,h1,h2,h3,h4⟩:=yar (xs:=a.es.map edP) (p:=p) (c:=fun x=>x.1 - t) (t:=t) (fun x hx=>by
   obtain⟨y,hy,rfl⟩:=List.mem_map.1 hx
   have:=h.ed y hy
   rw [hp,W_of (by show _≤y.f - _;omega) (by show y.f - _ < _;omega)]) (by omega) (fun i j hi hj hij hc=>by
   rw [hat] at hc ⊢
   have hs:=List.pairwise_iff_getElem.1 h.so i j (by omega) (by omega) hij
   have:(a.es[i]'(by omega)).f≤(a.es[j]'(by omega)).f:=by rcases hs with hs | ⟨hs,_⟩ <;> omega
   omega) a.es.length 0 a.es.length (by omega) (by omega) (by omega) (fun k hk h0=>absurd h0 (Nat.not_lt_zero _)) (fun k hk h0=>by omega)
 have hr:∃b:Bool,(if decide ((q:Int) < ((a.es.map edP).length:Int)) then(idx (a.es.map edP) (q:Int)).bind fun x19=>(p x19 (t:Int)).bind fun r21=>some (r21 == 0) else some false)=some b:=by
  by_cases hq:q < (a.es.map edP).length
  ·rw [if_pos (ct_lt hq),ya hq,yOb,hp,yOb];exact⟨_,rfl⟩
  ·rw [if_neg (by simp at hq ⊢;omega)];exact⟨_,rfl⟩
 obtain⟨b,hb⟩:=hr
 refine⟨q,b,?_,by omega,fun k hk hlt=>?_,fun k hk hle=>?_⟩
 ·rw [ye,hlm,show iter (yg (a.es.map edP) (t:Int) p) ((a.es.length:Int),0)=some (q:Int) from y3X (by omega) h1,yOb]
  rw [hlm] at hb
  rw [hb]
  rfl
 ·have:=h3 k (by omega) hlt
  rw [hat] at this
  omega
 ·have:=h4 k (by omega) hle
  rw [hat] at this
  omega
def outL (a:Aut) (s:Nat):List Ed:=a.es.filter fun x=>x.f == (s:Int)
theorem yeT {a:Aut} (h:AOk a) {s:Nat} (hs:s≤4096):y3Q (autP a) (s:Int)=some ((outL a s).map edP):=by
 have hel:=h.el
 obtain⟨q1,b1,h1,h2,h3,h4⟩:=yaG h (p:=y4A) (fun x t=>rfl) (t:=s) (by omega)
 obtain⟨q2,b2,g1,g2,g3,g4⟩:=yaG h (p:=y4B) (fun x t=>rfl) (t:=s + 1) (by omega)
 have hle:q1≤q2:=by
  by_cases hc:q1≤q2
  ·exact hc
  ·have k1:=h3 q2 (by omega) (by omega)
   have k2:=g4 q2 (by omega) (Nat.le_refl _)
   omega
 rw [y3Q,show ye (autP a).2.2.2 (s:Int) y4A=_ from h1,yOb,nxt (by omega),show ye (autP a).2.2.2 ((s + 1:Nat):Int) y4B=_ from g1,yOb]
 dsimp only
 rw [show (autP a).2.2.2=a.es.map edP from rfl,slc,if_pos ⟨by omega,by omega,by rw [List.length_map];omega⟩,yOb,Int.toNat_natCast,Int.toNat_natCast,←List.map_take,←List.map_drop]
 rw [yce (fun x:Ed=>x.f == (s:Int)) a.es q1 q2 hle g2 (fun k hk=>?_)]
 ·rfl
 ·rw [Bool.eq_iff_iff,beq_iff_eq,decide_eq_true_eq]
  constructor
  ·intro he
   refine⟨?_,?_⟩
   ·by_cases hc:q1≤k
    ·exact hc
    ·have:=h3 k hk (by omega);omega
   ·by_cases hc:k < q2
    ·exact hc
    ·have:=g4 k hk (by omega);omega
  ·rintro ⟨k1,k2⟩
   have:=h4 k hk k1
   have:=g3 k hk k2
   omega
theorem Right.aok {a:AutT} {n:Nat} (hr:Right a n):AOk (toAut a):=by
 have hn:=hr.nn
 have hl:=hr.nl
 have hN:(toAut a).n=(n:Int):=hn
 exact⟨by rw [hN];omega,by rw [hN];omega,fun x hx=>by rw [hN];exact hr.ein x hx,hr.sorted,by show(a.2.2.2.map toEd).length≤_;rw [List.length_map];exact hr.l3,hr.l1,hr.l2⟩
theorem ybW {a:AutT} {n:Nat} (hr:Right a n) {s:Nat} (hs:s < n):y3Q a (s:Int)=some (a.2.2.2.filter fun x=>x.1 == (s:Int)):=by
 have hl:=hr.nl
 have h:=yeT hr.aok (s:=s) (by omega)
 rw [y8t] at h
 rw [h,outL]
 show some (((a.2.2.2.map toEd).filter fun x=>x.f == (s:Int)).map edP)=_
 rw [List.filter_map,List.map_map]
 congr 1
 exact List.map_id' _
structure LOkB (B:Nat) (l:List AutT):Prop where
 len:l.length≤3
 right:∀a∈l,∃n:Nat,1≤n∧n≤B∧Right a n
 b99:B≤99
 pw:B ^ l.length≤4000
theorem ycf {l:List AutT} {B:Nat} (h:LOkB B l):y3J l=some 0:=by
 have hl:=h.len
 have hb99:=h.b99
 obtain⟨o,h1,rfl⟩:=yb (f:=y1u l) (fun i s=>s=(i:Int)) (fun o=>o= .inl ()) l.length 0 (by omega) (fun i s hi e1=>by
   subst e1
   obtain⟨n,_,_,hr⟩:=h.right _ (List.getElem_mem hi)
   refine .inl ⟨((i + 1:Nat):Int),?_,rfl⟩
   rw [y1u,if_pos (ct_lt hi),ya hi,yOb,hr.check,yOb,if_neg (by simp),nxt (by omega)]) (fun s e1=>by
   subst e1
   exact⟨_,by rw [y1u,if_neg ct_ge],rfl⟩) (Nat.zero_le _) 0 rfl
 rw [y3J,if_neg (by simp;omega),h1]
 rfl
theorem ydB {l:List AutT} {B:Nat} (h:LOkB B l):∃m,y3q l=some m∧MOk l m:=by
 have hl:=h.len
 have hb99:=h.b99
 obtain⟨ev,he,hev⟩:=ycR (l:=l) (by omega) (fun a ha=>by
  obtain⟨n,_,_,hr⟩:=h.right a ha
  exact⟨hr.ali,hr.alr⟩)
 obtain⟨o,h1,h2⟩:=yb (f:=y1H l) (fun i s=>i≤l.length∧s.1=(i:Int)∧s.2.length=i∧∀k (h:k < l.length) (h':k < s.2.length),∀e∈s.2[k],0≤e.2∧e.2 < l[k].2.1) (fun o=>o.length=l.length∧∀k (h:k < l.length) (h':k < o.length),∀e∈o[k],0≤e.2∧e.2 < l[k].2.1) l.length 0 (by omega) (fun i s hi ⟨_,e1,g1,g2⟩=>by
   obtain⟨k,out⟩:=s
   dsimp only at e1 g1 g2
   subst e1
   obtain⟨n,_,_,hr⟩:=h.right _ (List.getElem_mem hi)
   obtain⟨o,e,g3⟩:=yeo hr
   refine .inl ⟨(((i + 1:Nat):Int),out ++ [o]),?_,by omega,rfl,by simp [g1],fun k hk hk' x hx=>?_⟩
   ·rw [y1H]
    dsimp only
    rw [if_pos (ct_lt hi),ya hi,yOb,e,yOb,yp (by simp;omega),yOb,nxt (by omega)]
   ·dsimp only at hx
    by_cases hki:k < out.length
    ·rw [List.getElem_append_left hki] at hx;exact g2 k hk hki x hx
    ·have hk2:k=i:=by simp at hk';omega
     subst hk2
     rw [List.getElem_append_right (by omega)] at hx
     simp only [g1,Nat.sub_self,List.getElem_cons_zero] at hx
     rw [hr.nn]
     exact g3 x hx) (fun s ⟨_,e1,g1,g2⟩=>by
   obtain⟨k,out⟩:=s
   dsimp only at e1 g1 g2
   subst e1
   refine⟨out,?_,g1,g2⟩
   rw [y1H]
   dsimp only
   rw [if_neg ct_ge]) (Nat.zero_le _) (0,[]) ⟨Nat.zero_le _,rfl,rfl,fun k hk hk'=>(by simp at hk')⟩
 exact⟨(l,ev,o),by rw [y3q,he,yOb,h1];rfl,rfl,hev,h2.1,h2.2⟩
theorem yby {l:List AutT} {B:Nat} (h:LOkB B l) {m:List AutT×List Int×List (List ((Int×Int)×Int))} (hm:MOk l m):∃t,ym m=some (t,true)∧InT l t:=by
 have hl:=h.len
 have hb99:=h.b99
 obtain⟨m1,m2,m3⟩:=m
 obtain⟨rfl,hev,hlen,_⟩:=hm
 dsimp only at *
 obtain⟨o,h1,rfl⟩:=yb (f:=yh (m1,m2,m3)) (fun i s=>s=(i:Int)) (fun o=>o= .inl ()) m1.length 0 (by omega) (fun i s hi e1=>by
   subst e1
   obtain⟨n,hn,_,hr⟩:=h.right _ (List.getElem_mem hi)
   refine .inl ⟨((i + 1:Nat):Int),?_,rfl⟩
   rw [yh]
   dsimp only
   rw [if_pos (ct_lt hi),ya hi,yOb,hr.nn,if_neg (by simp;omega),nxt (by omega)]) (fun s e1=>by
   subst e1
   refine⟨_,?_,rfl⟩
   rw [yh]
   dsimp only
   rw [if_neg ct_ge]) (Nat.zero_le _) 0 rfl
 have hmk:mkL (m1.length:Int) (0:Int)=some (List.replicate m1.length 0):=by unfold mkL;rw [if_pos ⟨by omega,by omega⟩,Int.toNat_natCast]
 refine⟨List.replicate m1.length 0,?_,by simp,fun i hi hi'=>?_⟩
 ·rw [ym,h1,yOb]
  dsimp only
  rw [hmk,yOb]
 ·obtain ⟨n,hn,_,hr⟩:=h.right _ (List.getElem_mem hi)
  rw [List.getElem_replicate,hr.nn]
  omega
theorem ydC {l:List AutT} {B:Nat} (h:LOkB B l) {m:List AutT×List Int×List (List ((Int×Int)×Int))} (hm:MOk l m) {t:List Int} (ht:InT l t) (e:Int):∃r,yO m t e=some r∧(r.2=true→InT l r.1):=by
 have hl:=h.len
 have hb99:=h.b99
 obtain⟨m1,m2,m3⟩:=m
 obtain⟨rfl,hev,hlen,hed⟩:=hm
 dsimp only at *
 obtain⟨o,h1,h2⟩:=yb (f:=yi (m1,m2,m3) t e) (fun i s=>s.1=(i:Int)∧InT m1 s.2) (fun o=>∀u,o= .inl u→InT m1 u) m1.length 0 (by omega) (fun i s hi ⟨e1,g1⟩=>by
   obtain⟨k,out⟩:=s
   dsimp only at e1 g1
   subst e1
   obtain⟨n,hn,_,hr⟩:=h.right _ (List.getElem_mem hi)
   have ha:m1[i].1.length < 4294967296:=by have:=hr.l1;omega
   have hj:∀u:List Int,yn ((i:Int),out) u=some (.inl (((i + 1:Nat):Int),u)):=fun u=>by
    rw [yn];dsimp only;rw [nxt (by omega)]
   rw [yi]
   dsimp only
   rw [if_pos (ct_lt hi),ya hi,yOb,y4N ha hr.ali,yOb]
   cases hb:hasB m1[i].1 e with
   | false=>
    rw [if_pos (by simp),hj]
    exact .inl ⟨_,rfl,rfl,g1⟩
   | true=>
    rw [if_neg (by simp),ya (by omega),yOb,ya (by have:=ht.1;omega),yOb]
    cases hg:kget m3[i] (t[i]'(by have:=ht.1;omega),e) with
    | none=>
     rw [if_pos (by simp)]
     exact .inr ⟨_,rfl,fun u hu=>by cases hu⟩
    | some v=>
     obtain⟨x,hx,rfl⟩:=ydz hg
     have hv:=hed i hi (by omega) x hx
     rw [if_neg (by simp),ya (by have:=g1.1;omega),yOb,y6V (by have:=g1.1;omega),yOb,hj]
     exact .inl ⟨_,rfl,rfl,g1.set hi hv.1 hv.2⟩) (fun s ⟨e1,g1⟩=>by
   obtain⟨k,out⟩:=s
   dsimp only at e1 g1
   subst e1
   refine⟨.inl out,?_,fun u hu=>by cases hu;exact g1⟩
   rw [yi]
   dsimp only
   rw [if_neg ct_ge]) (Nat.zero_le _) (0,t) ⟨rfl,ht⟩
 rw [yO,y6E (by have:=ht.1;omega),yOb,h1,yOb]
 cases o with
 | inl u=>exact⟨_,rfl,fun _=>h2 u rfl⟩
 | inr u=>exact⟨_,rfl,fun hb=>by cases hb⟩
theorem ycg {l:List AutT} {B:Nat} (h:LOkB B l) {m:List AutT×List Int×List (List ((Int×Int)×Int))} (hm:MOk l m) {t:List Int} (ht:InT l t):∃b,yx m t=some b:=by
 have hl:=h.len
 have hb99:=h.b99
 obtain⟨m1,m2,m3⟩:=m
 obtain⟨rfl,hev,hlen,hed⟩:=hm
 dsimp only at *
 obtain⟨o,h1,h2⟩:=yb (f:=y1X (m1,m2,m3) t) (fun i s=>s=(i:Int)) (fun _=>True) m1.length 0 (by omega) (fun i s hi e1=>by
   subst e1
   obtain⟨n,hn,_,hr⟩:=h.right _ (List.getElem_mem hi)
   have ha:m1[i].2.2.1.length < 4294967296:=by have:=hr.l2;omega
   rw [y1X]
   dsimp only
   rw [if_pos (ct_lt hi),ya hi,yOb,ya (by have:=ht.1;omega),yOb,y4N ha hr.msi,yOb]
   cases hb:hasB m1[i].2.2.1 (t[i]'(by have:=ht.1;omega)) with
   | false=>rw [if_pos (by simp)];exact .inr ⟨_,rfl,trivial⟩
   | true=>rw [if_neg (by simp),nxt (by omega)];exact .inl ⟨_,rfl,rfl⟩) (fun s e1=>by
   subst e1
   refine⟨.inl (),?_,trivial⟩
   rw [y1X]
   dsimp only
   rw [if_neg ct_ge]) (Nat.zero_le _) 0 rfl
 rw [yx,h1,yOb]
 cases o with
 | inl u=>exact⟨_,rfl⟩
 | inr u=>exact⟨_,rfl⟩
theorem ybX {l:List AutT} {B:Nat} (h:LOkB B l) {t:List Int} (ht:InT l t):y3Y t=some (keyK t):=by
 have hl:=h.len
 have hb99:=h.b99
 have hc:(t.all fun x=>decide (0≤x∧x < 100))=true:=by
  rw [List.all_eq_true]
  intro x hx
  obtain⟨i,hi,rfl⟩:=List.getElem_of_mem hx
  have hi':i < l.length:=by have:=ht.1;omega
  obtain⟨n,hn,hn6,hr⟩:=h.right _ (List.getElem_mem hi')
  have:=ht.2 i hi' hi
  rw [hr.nn] at this
  simp;omega
 rw [y3Y,if_pos ⟨hc,by have:=ht.1;omega⟩]
 rfl
def y5G (B:Nat):List Int→Nat
 | []=>0
 | x :: t=>x.toNat + B * y5G B t
theorem ya3 {B:Nat}:∀{s t:List Int},s.length=t.length→(∀x∈s,0≤x∧x < B)→(∀x∈t,0≤x∧x < B)→y5G B s=y5G B t→s=t
 | [],[],_,_,_,_=>rfl
 | [],_ :: _,h,_,_,_=>by simp at h
 | _ :: _,[],h,_,_,_=>by simp at h
 | x :: s,y :: t,h,hs,ht,e=>by
  have h1:=hs x (List.mem_cons_self ..)
  have h2:=ht y (List.mem_cons_self ..)
  simp only [y5G] at e
  have e2:x.toNat=y.toNat:=by
   have h3:=congrArg (· % B) e
   simp only [Nat.add_mul_mod_self_left] at h3
   rwa [Nat.mod_eq_of_lt (by omega),Nat.mod_eq_of_lt (by omega)] at h3
  have hxy:x=y:=by omega
  subst hxy
  have e3:B * y5G B s=B * y5G B t:=by omega
  rw [ya3 (s:=s) (t:=t) (by simpa using h) (fun z hz=>hs z (List.mem_cons_of_mem _ hz)) (fun z hz=>ht z (List.mem_cons_of_mem _ hz)) (Nat.eq_of_mul_eq_mul_left (by omega) e3)]
theorem yaH {B:Nat}:∀{t:List Int},(∀x∈t,0≤x∧x < B)→y5G B t < B ^ t.length
 | [],_=>by simp [y5G]
 | x :: t,h=>by
  have h1:=h x (List.mem_cons_self ..)
  have h2:=yaH (t:=t) (fun z hz=>h z (List.mem_cons_of_mem _ hz))
  rw [List.length_cons,Nat.pow_succ,y5G]
  have h3:B * (y5G B t + 1)≤B * B ^ t.length:=Nat.mul_le_mul_left B h2
  rw [Nat.mul_add,Nat.mul_one] at h3
  rw [Nat.mul_comm (B ^ t.length) B]
  omega
theorem InT.smallB {l:List AutT} {B:Nat} (h:LOkB B l) {t:List Int} (ht:InT l t):∀x∈t,0≤x∧x < B:=by
 intro x hx
 obtain⟨i,hi,rfl⟩:=List.getElem_of_mem hx
 have hi':i < l.length:=by have:=ht.1;omega
 obtain⟨n,hn,hn6,hr⟩:=h.right _ (List.getElem_mem hi')
 have:=ht.2 i hi' hi
 rw [hr.nn] at this
 omega
theorem y6H {l:List AutT} {B:Nat} (h:LOkB B l) {T:List (List Int)} (hn:T.Nodup) (hT:∀t∈T,InT l t):T.length≤4000:=by
 have h1:=y6d (B ^ l.length) (T.map (y5G B)) ?_ ?_
 ·rw [List.length_map] at h1
  have h2:=h.pw
  omega
 ·rw [List.Nodup,List.pairwise_map]
  refine List.Pairwise.imp_of_mem (fun {a b} ha hb hab e=>hab ?_) hn
  exact ya3 ((hT a ha).1.trans (hT b hb).1.symm) ((hT a ha).smallB h) ((hT b hb).smallB h) e
 ·intro x hx
  obtain⟨t,ht,rfl⟩:=List.mem_map.1 hx
  rw [←(hT t ht).1]
  exact yaH ((hT t ht).smallB h)
end Go.Proofs.YtecmobjeeonmaaaGreatDoor
