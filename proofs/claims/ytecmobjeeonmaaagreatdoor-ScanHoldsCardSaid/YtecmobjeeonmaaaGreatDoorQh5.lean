/- Parts of the proof, without what nothing here names. -/
import Derived.Test.YtecmobjeeonmaaaGreatDoorProg
import Derived.Shelf.SlSortCmp.NoneTotal
import Derived.Ground.SlsfProg
import Derived.Test.YtecmobjeeonmaaaGreatDoorQh4
set_option maxRecDepth 100000
set_option maxHeartbeats 8000000
namespace Go.Proofs.YtecmobjeeonmaaaGreatDoor
open Go Go.RowKit
noncomputable section
def y1k (st32:Int×List Int) (st48:Int) (b52:Bool):Option (Int ⊕ (List Int)):=
 if b52 then
  (app st32.2 ([st32.1]:List Int)).bind fun x54=>
  some (.inr x54)
 else
  some (.inl (W (st48 + 1)))
def y1X (r1:AutT×AutT×List Int) (r2:AutT×List (List Int)×Int) (st32:Int×List Int) (st48:Int):Option (Int ⊕ (List Int)):=
 if decide (st48 < (r1.2.2.length:Int)) then
  (idx r1.2.2 st48).bind fun x51=>
  (idx r2.2.1 st32.1).bind fun x55=>
  (idx x55 0).bind fun x56=>
  (y2G r1.1 x56 x51).bind fun r57=>
  if decide (r57≥0) then
   (y2G r2.1 st32.1 x51).bind fun r60=>
   y1k st32 st48 (decide (r60 < 0))
  else
   y1k st32 st48 false
 else
  some (.inr st32.2)
def y1l (r1:AutT×AutT×List Int) (r2:AutT×List (List Int)×Int) (st32:Int×List Int):Option ((Int×List Int) ⊕ (List Int)):=
 if decide (st32.1 < (r2.2.1.length:Int)) then
  (iter (y1X r1 r2 st32) 0).bind fun o48=>
  some (.inl (W (st32.1 + 1),o48))
 else
  some (.inr st32.2)
def y3u (p0:(Int×y1Y)×(Int×y1Y)×Int) (p1:Bool):Option (AutT×AutT×List Int):=
 (y3r p0).bind fun r1=>
 if(!p1) then
  some r1
 else
  (yk ([r1.1,r1.2.1]:List AutT)).bind fun r2=>
  (iter (y1l r1 r2) (0,([]:List Int))).bind fun o32=>
  (y2e r2.1 o32 r1.2.2).bind fun r35=>
  some (r1.1,r35.1.2.2.1,r1.2.2)
theorem y7s {p0:(Int×y1Y)×(Int×y1Y)×Int} {p1:Bool} {r:(AutT×AutT×List Int)} (hm:y3u p0 p1=some r):
  Fw Tryz.prog 16 ⟨0,[]⟩ [.a (lx30 p0),.b p1] [] (.g [lF qI r.1.1,lI r.1.2.1,lF qI r.1.2.2.1,lF qT r.1.2.2.2,lH 0,lI r.2.1.2.1,lH 1,lH 2,lH 3]) [ROW qI 3 r.2.1.1,ROW qI 3 r.2.1.2.2.1,ROW qT 124 r.2.1.2.2.2,ROW qI 3 r.2.2]:=by
 unfold y3u at hm
 refine Fw.mk' Tryz.func16 R Tryz.ntmps16 R R (fun C=>?_) R R
 refine .seq (.reg (.op (O.box 0 R Z R R R) R (.op (O.al 1 R zz37 R Z R) R (.nil (.seqN (.seq (.reg (.op (O.lg (l':=(lx30 p0)) ag30 Z R (.B R) R R R) R (bS hm fun r1 er1 hm=> .op (O.ca (r':= .tp [.a [lH 2,lI r1.1.2.1,lH 3,lH 4],.a [lH 5,lI r1.2.1.2.1,lH 6,lH 7],.h 8]) [2,3,4,5,6,7,8] [(0,ROW qI 3 r1.1.1),(1,ROW qI 3 r1.1.2.2.1),(2,ROW qT 124 r1.1.2.2.2),(3,ROW qI 3 r1.2.1.1),(4,ROW qI 3 r1.2.1.2.2.1),(5,ROW qT 124 r1.2.1.2.2.2),(6,ROW qI 3 r1.2.2)] (some 9) (y7r er1) cf72 R R Z R R R R ⟨⟨_,R,fun _ _ _ _ h=>h⟩,⟨_,R,fun _ _ _ _ h=>h⟩,⟨_,R,fun _ _ _ _ h=>h⟩,⟨_,R,fun _ _ _ _ h=>h⟩,⟨_,R,fun _ _ _ _ h=>h⟩,⟨_,R,fun _ _ _ _ h=>h⟩,⟨_,R,fun _ _ _ _ h=>h⟩,trivial⟩ (fun _ _ _ h=>h) R) R (.mv R (.op (O.ex Z R R R) R (.op (O.ex Z R R R) R (.op (O.ex Z R R R) R (.op (O.al 9 R zz35 R Z R) R (.op (O.al 10 R zz35 R Z R) R (.op (O.st ag35.sz Z R R R R R) R (.op (O.st ag35.sz Z R R R R R) R (.sa R (.nil (.seqN (.seq (.reg (.op (O.lg (l':=[lH 2,lI r1.1.2.1,lH 3,lH 4]) ag35 Z R (.B R) R R R) R (.op (O.lg (l':=[lH 5,lI r1.2.1.2.1,lH 6,lH 7]) ag35 Z R (.B R) R R R) R (.mv R (.op (O.bu (l:=[lH 2,lI r1.1.2.1,lH 3,lH 4,lH 5,lI r1.2.1.2.1,lH 6,lH 7,lH 8]) pl37 R Z R R R) R (.op (O.al 11 R zz37 R Z R) R (.op (O.st ag37.sz Z R R R R R) R (.nil (.seqN (.seq (.seq (.reg (.mv R (.op (O.not Z R R) R (.nil (.seqN ?_)))))))))))))))))))))))))))))))))))))
 rcases ifS hm with ⟨hc,hm⟩ | ⟨hc,hm⟩
 ·refine .cT R hc ?_
  refine .seq (.reg (.op (O.lg (l':=[lH 2,lI r1.1.2.1,lH 3,lH 4,lH 5,lI r1.2.1.2.1,lH 6,lH 7,lH 8]) ag37 Z R (.B R) R R R) R (.op (O.st ag37.sz Z R R R R R) R (.nil (.seqN (.ret (.seqR (.fz 2 [] [1,9,11] R R fR R R (.fz 3 [] [1,9,11] R R fR R R (.fz 4 [] [1,9,11] R R fR R R ?_))))))))))
  obtain rfl:=oi hm
  exact WX.rt [5,6,7,8] (.inl R) Tryz.results16 (.cell R R ag37 R .nil) R (fun _ _ _ h=>h) ⟨⟨_,R,fun _ _ _ _ h=>h⟩,⟨_,R,fun _ _ _ _ h=>h⟩,⟨_,R,fun _ _ _ _ h=>h⟩,⟨_,R,fun _ _ _ _ h=>h⟩,trivial⟩
 ·refine .cF R hc ?_
  refine .skip (.seqN (.seq (.reg (.op (O.lg (l':=[lH 2,lI r1.1.2.1,lH 3,lH 4]) ag35 Z R (.B R) R R R) R (.op (O.lg (l':=[lH 5,lI r1.2.1.2.1,lH 6,lH 7]) ag35 Z R (.B R) R R R) R (.fz 2 [32] [9,11] R R fR R R (.fz 3 [32] [9,11] R R fR R R (.fz 4 [32] [9,11] R R fR R R (.fz 5 [33] [10,11] R R fR R R (.fz 6 [33] [10,11] R R fR R R (.fz 7 [33] [10,11] R R fR R R (.op (O.bsF (r:=rE35) (zs:=([r1.1,r1.2.1]:List AutT)) bs66 R R Z R R R (.c (.p .l (.p .k (.p .l .l))) (.c (.p .l (.p .k (.p .l .l))) .n)) R R R) R (bS hm fun r2 er2 hm=> .op (O.ca (r':= .tp [.a [lH 12,lI r2.1.2.1,lH 13,lH 14],.h 15,.i r2.2.2]) [12,13,14,15] [(0,ROW qI 3 r2.1.1),(1,ROW qI 3 r2.1.2.2.1),(2,ROW qT 124 r2.1.2.2.2),(3,ROW (rL qI) 32 r2.2.1)] (some 16) (y4r er2) cf32 R R Z R R R R ⟨⟨_,R,fun _ _ _ _ h=>h⟩,⟨_,R,fun _ _ _ _ h=>h⟩,⟨_,R,fun _ _ _ _ h=>h⟩,⟨_,R,fun _ _ _ _ h=>h⟩,trivial⟩ (fun _ _ _ h=>h) R) R (.mv R (.op (O.ex Z R R R) R (.op (O.ex Z R R R) R (.op (O.ex Z R R R) R (.op (O.al 16 R zz35 R Z R) R (.op (O.st ag35.sz Z R R R R R) R (.sa R (.sa R (.nil (.seqN (.seq (.reg (.sa R (.nil (.seqN (.seq (.seq (.reg (.sa R (.nil (.seqN (.block (bS hm fun o32 eo32 hm=>?_))))))))))))))))))))))))))))))))))))
  refine .cut1 (z:= .exit 0) o32 (fun (o32:List Int)=>⟨[(12,.h 0),(9,.q 1 0),(8,.q 5 0),(7,.h 6),(4,.q 7 0)],[(0,ROW qI 3 o32),(1,.bx 35 [lH 2,lI r2.1.2.1,lH 3,lH 4]),(2,ROW qI 3 r2.1.1),(3,ROW qI 3 r2.1.2.2.1),(4,ROW qT 124 r2.1.2.2.2),(5,.bx 37 [lF qI r1.1.1,lI r1.1.2.1,lF qI r1.1.2.2.1,lF qT r1.1.2.2.2,lF qI r1.2.1.1,lI r1.2.1.2.1,lF qI r1.2.1.2.2.1,lF qT r1.2.1.2.2.2,lH 6]),(6,ROW qI 3 r1.2.2),(7,.bx 37 [lN,lI 0,lN,lN,lN,lI 0,lN,lN,lN])],8⟩) ?_ fun K34=>?_
  ·skip
   refine .blkE (.seqN (.seq (.reg (.op (O.lg (l':=[lH 2,lI r2.1.2.1,lH 3,lH 4]) ag35 Z R (.B R) R R R) R (.mv R (.mv R (bS hm fun r35 er35 hm=> .op (O.caY (r':= .tp [.a [lH 8,lH 9,lH 10,lI r35.1.2.1,lH 11,lI r35.1.2.2.1.2.1,lH 12,lH 13,lH 14],.i r35.2]) [8,9,10,11,12,13,14] [(0,ROW qI 3 r35.1.1.1),(1,ROW qI 3 r35.1.1.2.1),(2,ROW rE286 286 r35.1.1.2.2),(3,ROW qI 3 r35.1.2.2.1.1),(4,ROW qI 3 r35.1.2.2.1.2.2.1),(5,ROW qT 124 r35.1.2.2.1.2.2.2),(6,ROW qI 3 r35.1.2.2.2)] (some 15) (y6V er35) cf74 R R Z R R ⟨⟨R,.hr R,.rf,.hr R,.hr R,trivial⟩,⟨R,.hr R,trivial⟩,⟨R,.hr R,trivial⟩,trivial⟩ R ⟨.row flr3,.row flr3,.row ycw,.row flr3,.row flr3,.row y4x,.row flr3,trivial⟩ (fun _ _ _ _ h=>h) ⟨⟨_,R,fun _ _ _ _ h=>h⟩,⟨_,R,fun _ _ _ _ h=>h⟩,⟨_,R,fun _ _ _ _ h=>h⟩,⟨_,R,fun _ _ _ _ h=>h⟩,⟨_,R,fun _ _ _ _ h=>h⟩,⟨_,R,fun _ _ _ _ h=>h⟩,⟨_,R,fun _ _ _ _ h=>h⟩,trivial⟩ (fun _ _ _ h=>h) R) R (.mv R (.op (O.ex Z R R R) R (.op (O.ex Z R R R) R (.op (O.al 15 R zz131 R Z R) R (.op (O.st ag131.sz Z R R R R R) R (.sa R (.nil (.seqN (.seq (.reg (.op (O.faP ybu Z R R) R (.op (O.lg (l':=[lH 11,lI r35.1.2.2.1.2.1,lH 12,lH 13]) ag35 Z R (.B R) R R R) R (.op (O.faP y6Q Z R R) R (.op (O.st ag35.sz Z R R R R R) R (.nil (.seqN (.seq (.reg (.op (O.lg (l':=[lF qI r1.1.1,lI r1.1.2.1,lF qI r1.1.2.2.1,lF qT r1.1.2.2.2,lH 11,lI r35.1.2.2.1.2.1,lH 12,lH 13,lH 6]) ag37 Z R (.B R) R R R) R (.op (O.st ag37.sz Z R R R R R) R (.nil (.seqN (.ret ?_))))))))))))))))))))))))))))))
   obtain rfl:=oi hm
   exact WX.rt [11,12,13,6] (.inl R) Tryz.results16 (.cell R R ag37 R .nil) R (fun _ _ _ h=>h) ⟨⟨_,R,fun _ _ _ _ h=>h⟩,⟨_,R,fun _ _ _ _ h=>h⟩,⟨_,R,fun _ _ _ _ h=>h⟩,⟨_,R,fun _ _ _ _ h=>h⟩,trivial⟩
  refine .nlg qI 3 12 0 R R (.iter (fun (st32:Int×List Int)=>⟨[(13,.i st32.1),(12,.h 0),(10,.h 1),(9,.q 2 0),(8,.q 6 0),(7,.h 7),(5,.q 8 0),(4,.q 9 0)],[(0,ROW qI 3 st32.2),(1,ROW (rL qI) 32 r2.2.1),(2,.bx 35 [lH 3,lI r2.1.2.1,lH 4,lH 5]),(3,ROW qI 3 r2.1.1),(4,ROW qI 3 r2.1.2.2.1),(5,ROW qT 124 r2.1.2.2.2),(6,.bx 37 [lF qI r1.1.1,lI r1.1.2.1,lF qI r1.1.2.2.1,lF qT r1.1.2.2.2,lF qI r1.2.1.1,lI r1.2.1.2.1,lF qI r1.2.1.2.2.1,lF qT r1.2.1.2.2.2,lH 7]),(7,ROW qI 3 r1.2.2),(8,.bx 35 [lF qI r1.1.1,lI r1.1.2.1,lF qI r1.1.2.2.1,lF qT r1.1.2.2.2]),(9,.bx 37 [lN,lI 0,lN,lN,lN,lI 0,lN,lN,lN])],10⟩) eo32 [(0,17),(1,15),(2,16),(3,12),(4,13),(5,14),(6,11),(7,8),(8,9),(9,1)] R ?_)
  intro st32 res32 hm ih32 ho32
  unfold y1l at hm
  refine .seq (.seq (.reg (.mv R (.mv R (.op (O.lenH sl53 Z R R R) R (.bi R (.nil (.seqN ?_))))))))
  rcases ifS hm with ⟨hc,hm⟩ | ⟨hc,hm⟩
  ·refine .cT R hc ?_
   refine .skip (.seqN (.seq (.block (.seq (.reg (.mv R (.op (O.lenH sl32 Z R R R) R (.mv R (.nil (.seqN (.block (bS hm fun o48 eo48 hm=>?_))))))))))))
   refine .cut1 (z:= .exit 2) o48 (fun (o48:List Int)=>⟨[(12,.h 0),(13,.i st32.1),(10,.h 1),(9,.q 2 0),(8,.q 6 0),(7,.h 7),(5,.q 8 0),(4,.q 9 0)],[(0,ROW qI 3 o48),(1,ROW (rL qI) 32 r2.2.1),(2,.bx 35 [lH 3,lI r2.1.2.1,lH 4,lH 5]),(3,ROW qI 3 r2.1.1),(4,ROW qI 3 r2.1.2.2.1),(5,ROW qT 124 r2.1.2.2.2),(6,.bx 37 [lF qI r1.1.1,lI r1.1.2.1,lF qI r1.1.2.2.1,lF qT r1.1.2.2.2,lF qI r1.2.1.1,lI r1.2.1.2.1,lF qI r1.2.1.2.2.1,lF qT r1.2.1.2.2.2,lH 7]),(7,ROW qI 3 r1.2.2),(8,.bx 35 [lF qI r1.1.1,lI r1.1.2.1,lF qI r1.1.2.2.1,lF qT r1.1.2.2.2]),(9,.bx 37 [lN,lI 0,lN,lN,lN,lI 0,lN,lN,lN])],10⟩) ?_ fun K50=>?_
   ·skip
    exact .blkE (.blkN (.seqN (.reg (.mv R (.bi R (.sa R (.nil ((ih32 _ (oi hm).symm).sub [] R))))))))
   refine .iter (fun (st48:Int)=>⟨[(47,.i st48),(46,.i (r1.2.2.length:Int)),(45,.h 0),(13,.i st32.1),(12,.h 1),(10,.h 2),(9,.q 3 0),(8,.q 7 0),(7,.h 0),(5,.q 8 0),(4,.q 9 0)],[(0,ROW qI 3 r1.2.2),(1,ROW qI 3 st32.2),(2,ROW (rL qI) 32 r2.2.1),(3,.bx 35 [lH 4,lI r2.1.2.1,lH 5,lH 6]),(4,ROW qI 3 r2.1.1),(5,ROW qI 3 r2.1.2.2.1),(6,ROW qT 124 r2.1.2.2.2),(7,.bx 37 [lF qI r1.1.1,lI r1.1.2.1,lF qI r1.1.2.2.1,lF qT r1.1.2.2.2,lF qI r1.2.1.1,lI r1.2.1.2.1,lF qI r1.2.1.2.2.1,lF qT r1.2.1.2.2.2,lH 0]),(8,.bx 35 [lF qI r1.1.1,lI r1.1.2.1,lF qI r1.1.2.2.1,lF qT r1.1.2.2.2]),(9,.bx 37 [lN,lI 0,lN,lN,lN,lI 0,lN,lN,lN])],10⟩) eo48 [(0,7),(1,0),(2,1),(3,2),(4,3),(5,4),(6,5),(7,6)] R ?_
   intro st48 res48 hm ih48 ho48
   unfold y1X at hm
   refine .seq (.reg (.bi R (.nil (.seqN (.seq ?_)))))
   rcases ifS hm with ⟨hc,hm⟩ | ⟨hc,hm⟩
   ·refine .cT R hc ?_
    refine .skip (.seqN (.seq (.block (.seq (.reg (bS hm fun x51 ex51 hm=> .op (O.ir sl32 Z R R R ex51 R) R (.op (O.ld nag3 Z R (.R R ex51 lv3) R R) R (.sa R (.nil (.seqN ?_))))))))))
    refine .join1 (fun (b52:Bool)=>y1k st32 st48 b52=some res48) (fun b52=>⟨[(67,.b b52),(47,.i st48),(46,.i (r1.2.2.length:Int)),(45,.h 0),(13,.i st32.1),(12,.h 1),(10,.h 2),(9,.q 3 0),(8,.q 7 0),(7,.h 0),(5,.q 8 0),(4,.q 9 0)],[(0,ROW qI 3 r1.2.2),(1,ROW qI 3 st32.2),(2,ROW (rL qI) 32 r2.2.1),(3,.bx 35 [lH 4,lI r2.1.2.1,lH 5,lH 6]),(4,ROW qI 3 r2.1.1),(5,ROW qI 3 r2.1.2.2.1),(6,ROW qT 124 r2.1.2.2.2),(7,.bx 37 [lF qI r1.1.1,lI r1.1.2.1,lF qI r1.1.2.2.1,lF qT r1.1.2.2.2,lF qI r1.2.1.1,lI r1.2.1.2.1,lF qI r1.2.1.2.2.1,lF qT r1.2.1.2.2.2,lH 0]),(8,.bx 35 [lF qI r1.1.1,lI r1.1.2.1,lF qI r1.1.2.2.1,lF qT r1.1.2.2.2]),(9,.bx 37 [lN,lI 0,lN,lN,lN,lI 0,lN,lN,lN])],10⟩) ?_ ?_
    ·intro b52 hm
     unfold y1k at hm
     rcases ifS hm with ⟨hc,hm⟩ | ⟨hc,hm⟩
     ·refine .cT R hc ?_
      exact .seq (.reg (.mv R (.mv R (.op (O.bsF (r:=qI) (zs:=([st32.1]:List Int)) bs32 R R Z R R R (.c .k .n) R R R) R (bS hm fun x54 ex54 hm=> .op (O.ap 10 Tryz.underlying32 el3 R R Z R R (.fr R) ex54 R) R (.sa R (.nil (.seqN (.exit (.blkX R (.seqX (.seqX ((K50 _ (ho48 _ (oi hm).symm)).sub [(0,10),(1,2),(2,3),(3,4),(4,5),(5,6),(6,7),(7,0)] R)))))))))))))
     ·refine .cF R hc ?_
      exact .skip (.blkN (.seqN (.reg (.bi R (.mv R (.nil ((ih48 _ (oi hm).symm).sub [] R)))))))
    ·intro Jj53
     refine .sub (τ:=⟨[(15,.i x51),(47,.i st48),(46,.i (r1.2.2.length:Int)),(45,.h 0),(13,.i st32.1),(12,.h 1),(10,.h 2),(9,.q 3 0),(8,.q 7 0),(7,.h 0),(5,.q 8 0),(4,.q 9 0)],[(0,ROW qI 3 r1.2.2),(1,ROW qI 3 st32.2),(2,ROW (rL qI) 32 r2.2.1),(3,.bx 35 [lH 4,lI r2.1.2.1,lH 5,lH 6]),(4,ROW qI 3 r2.1.1),(5,ROW qI 3 r2.1.2.2.1),(6,ROW qT 124 r2.1.2.2.2),(7,.bx 37 [lF qI r1.1.1,lI r1.1.2.1,lF qI r1.1.2.2.1,lF qT r1.1.2.2.2,lF qI r1.2.1.1,lI r1.2.1.2.1,lF qI r1.2.1.2.2.1,lF qT r1.2.1.2.2.2,lH 0]),(8,.bx 35 [lF qI r1.1.1,lI r1.1.2.1,lF qI r1.1.2.2.1,lF qT r1.1.2.2.2]),(9,.bx 37 [lN,lI 0,lN,lN,lN,lI 0,lN,lN,lN])],10⟩) ?_ [] R
     refine bS hm fun x55 ex55 hm=>bS hm fun x56 ex56 hm=>bS hm fun r57 er57 hm=> .drP 10 [(10,[]),(10,[]),(10,[]),(10,[oF,oT,oT]),(10,fA 1 (tT 3)),(10,fA 1 (tT 4)),(10,fA 1 (tT 5)),(10,[]),(10,tT 8),(10,tT 9)] [_,_,_,_,_,_,_,_,_,_] ⟨O.lg (l':=[lF qI r1.1.1,lI r1.1.2.1,lF qI r1.1.2.2.1,lF qT r1.1.2.2.2]) ag35 Z R (.B R) R R R,O.mv Z R R,O.mv Z R R,O.ir sl53 Z R R R ex55 R,O.ld nag32 Z R (.R R ex55 lv32) R R,O.ix sl32 Z R R ex56 R,O.ld nag3 Z R (.E lv3) R R,O.mv Z R R,O.ca0 (y5D er57) cf73 R R Z R R R,O.bi Z R R R R,trivial⟩ fun hp58=>?_
     rcases ifS hm with ⟨hc59,hm⟩ | ⟨hc59,hm⟩
     ·skip
      exact bS hm fun r60 er60 hm=> .drF hp58 [(10,tT 10),(10,tT 11),(10,tT 11),(10,tT 11),(10,tT 14),(10,tT 15),(10,tT 16)] [_,_,_,_,_,_,_] ⟨[(67,.b (decide (r60 < 0))),(47,.i st48),(46,.i (r1.2.2.length:Int)),(45,.h 0),(13,.i st32.1),(12,.h 1),(10,.h 2),(9,.q 3 0),(8,.q 7 0),(7,.h 0),(5,.q 8 0),(4,.q 9 0)],[(0,ROW qI 3 r1.2.2),(1,ROW qI 3 st32.2),(2,ROW (rL qI) 32 r2.2.1),(3,.bx 35 [lH 4,lI r2.1.2.1,lH 5,lH 6]),(4,ROW qI 3 r2.1.1),(5,ROW qI 3 r2.1.2.2.1),(6,ROW qT 124 r2.1.2.2.2),(7,.bx 37 [lF qI r1.1.1,lI r1.1.2.1,lF qI r1.1.2.2.1,lF qT r1.1.2.2.2,lF qI r1.2.1.1,lI r1.2.1.2.1,lF qI r1.2.1.2.2.1,lF qT r1.2.1.2.2.2,lH 0]),(8,.bx 35 [lF qI r1.1.1,lI r1.1.2.1,lF qI r1.1.2.2.1,lF qT r1.1.2.2.2]),(9,.bx 37 [lN,lI 0,lN,lN,lN,lI 0,lN,lN,lN])],10⟩ ⟨O.kn (O.mv Z R R) hc59,O.lg (l':=[lH 4,lI r2.1.2.1,lH 5,lH 6]) ag35 (Gu.mk R R) R (.B R) R R R,O.mv (Gu.mk R R) R R,O.mv (Gu.mk R R) R R,O.caZ (y5D er60) cf73 R R (Gu.mk R R) R ⟨⟨R,.hr R,.rf,.hr R,.hr R,trivial⟩,⟨R,LnL.rf⟩,⟨R,LnL.rf⟩,trivial⟩ (fun _ _ _ _ _ h=>h) R,O.bi (Gu.mk R R) R R R R,O.pkT Z R R R R,trivial⟩ (by kernel_rfl) R ((Jj53 _ hm).sub [] R)
     ·skip
      exact .drF hp58 [(10,tT 10),(10,tT 11),(10,tT 11),(10,tT 11),(10,tT 14),(10,tT 15),(10,tT 16)] [_,_,_,_,_,_,_] ⟨[(67,.b false),(47,.i st48),(46,.i (r1.2.2.length:Int)),(45,.h 0),(13,.i st32.1),(12,.h 1),(10,.h 2),(9,.q 3 0),(8,.q 7 0),(7,.h 0),(5,.q 8 0),(4,.q 9 0)],[(0,ROW qI 3 r1.2.2),(1,ROW qI 3 st32.2),(2,ROW (rL qI) 32 r2.2.1),(3,.bx 35 [lH 4,lI r2.1.2.1,lH 5,lH 6]),(4,ROW qI 3 r2.1.1),(5,ROW qI 3 r2.1.2.2.1),(6,ROW qT 124 r2.1.2.2.2),(7,.bx 37 [lF qI r1.1.1,lI r1.1.2.1,lF qI r1.1.2.2.1,lF qT r1.1.2.2.2,lF qI r1.2.1.1,lI r1.2.1.2.1,lF qI r1.2.1.2.2.1,lF qT r1.2.1.2.2.2,lH 0]),(8,.bx 35 [lF qI r1.1.1,lI r1.1.2.1,lF qI r1.1.2.2.1,lF qT r1.1.2.2.2]),(9,.bx 37 [lN,lI 0,lN,lN,lN,lI 0,lN,lN,lN])],10⟩ ⟨O.kn (O.mv Z R R) hc59,O.skip R R R R,O.skip R R R R,O.skip R R R R,O.skip R R R R,O.skip R R R R,O.pkF Z R R R R,trivial⟩ (by kernel_rfl) R ((Jj53 _ hm).sub [] R)
   ·refine .cF R hc ?_
    exact .exit (.seqX (.seqX ((K50 _ (ho48 _ (oi hm).symm)).sub [(0,1),(1,2),(2,3),(3,4),(4,5),(5,6),(6,7),(7,0)] R)))
  ·refine .cF R hc ?_
   exact .exit (.seqX (.seqX ((K34 _ (ho32 _ (oi hm).symm)).sub [(1,2),(2,3),(3,4),(4,5),(5,6),(6,7),(7,9)] R)))
def y4d (p0:AutT×AutT×List Int) (p1:List Int):Option (AutT×Int):=
 (y4U p0 p1).bind fun r1=>
 if(r1.2 != 0) then
  some ((([]:List Int),0,([]:List Int),([]:List (Int×Int×Int))),r1.2)
 else
  r1.1.bind fun x2=>
  (y2d x2 p1).bind fun r3=>
  some (r3.1,0)
theorem y8p {p0:AutT×AutT×List Int} {p1:List Int} {r:AutT×Int} (hm:y4d p0 p1=some r):
  Fw Tryz.prog 18 ⟨0,[]⟩ [.a [lF qI p0.1.1,lI p0.1.2.1,lF qI p0.1.2.2.1,lF qT p0.1.2.2.2,lF qI p0.2.1.1,lI p0.2.1.2.1,lF qI p0.2.1.2.2.1,lF qT p0.2.1.2.2.2,lF qI p0.2.2],.f qI p1] [] (.tp [.a [lF qI r.1.1,lI r.1.2.1,lF qI r.1.2.2.1,lF qT r.1.2.2.2],.i r.2]) []:=by
 unfold y4d at hm
 refine Fw.mk' Tryz.func18 R Tryz.ntmps18 R R (fun C=>?_) R R
 refine .seq (.reg (.op (O.box 0 R Z R R R) R (.op (O.al 1 R zz35 R Z R) R (.sa R (.nil (.seqN (.seq (.reg (.op (O.lg (l':=[lF qI p0.1.1,lI p0.1.2.1,lF qI p0.1.2.2.1,lF qT p0.1.2.2.2,lF qI p0.2.1.1,lI p0.2.1.2.1,lF qI p0.2.1.2.2.1,lF qT p0.2.1.2.2.2,lF qI p0.2.2]) ag37 Z R (.B R) R R R) R (.mv R (bS hm fun r1 er1 hm=> .op (O.ca0 (y8i er1) cf77 R R Z R R R) R (.mv R (.op (O.ex Z R R R) R (.op (O.ex Z R R R) R (.sa R (.sa R (.nil (.seqN (.seq (.seq (.reg (.mv R (.bi R (.nil (.seqN ?_)))))))))))))))))))))))))
 rcases ifS hm with ⟨hc,hm⟩ | ⟨hc,hm⟩
 ·refine .cT R hc ?_
  refine .seq (.reg (.op (O.bu (l:=[lN,lI 0,lN,lN]) pl35 R Z R R R) R (.mv R (.op (O.st ag35.sz Z R R R R R) R (.sa R (.nil (.seqN (.ret (.seqR (.cno 1 R (.c (.nf (r:=qI)) (.c .rf (.c (.nf (r:=qI)) (.c (.nf (r:=qT)) .n)))) R ?_))))))))))
  obtain rfl:=oi hm
  exact WX.rt [] (.inl R) Tryz.results18 (.cell R R ag35 R (.tmp R .nil)) R (fun _ _ _ h=>h) trivial
 ·refine .cF R hc ?_
  refine .skip (.seqN (.seq (.reg (.mv R (.mv R (bS hm fun x2 ex2 hm=> .cnt 18 R (.c (.pd ex2 lv155) .n) R (.cnt 6 R (.c (.pd ex2 lv155) .n) R (.cnt 12 R (.c (.pd ex2 lv155) .n) R (bS hm fun r3 er3 hm=> .op (O.ca0 (y5h er3) cf78 R R Z R R R) R (.op (O.flg (l':=[lF qI r3.1.1,lI r3.1.2.1,lF qI r3.1.2.2.1,lF qT r3.1.2.2.2]) Tryz.underlying141 R R ag35 Z R R R) R (.op (O.st ag35.sz Z R R R R R) R (.sa R (.nil (.seqN (.ret ?_)))))))))))))))
  obtain rfl:=oi hm
  exact WX.rt [] (.inl R) Tryz.results18 (.cell R R ag35 R (.tmp R .nil)) R (fun _ _ _ h=>h) trivial
def y4D (p0:List AutT):Option (AutT×Int):=
 (yk p0).bind fun r1=>
 some (r1.1,r1.2.2)
theorem y8q {p0:List AutT} {r:AutT×Int} (hm:y4D p0=some r):
  Fw Tryz.prog 20 ⟨0,[]⟩ [.f rE35 p0] [] (.tp [.a [lH 0,lI r.1.2.1,lH 1,lH 2],.i r.2]) [ROW qI 3 r.1.1,ROW qI 3 r.1.2.2.1,ROW qT 124 r.1.2.2.2]:=by
 unfold y4D at hm
 refine Fw.mk' Tryz.func20 R Tryz.ntmps20 R R (fun C=>?_) R R
 refine .seq (.reg (.op (O.al 0 R zz35 R Z R) R (.sa R (.nil (.seqN (.seq (.reg (.mv R (bS hm fun r1 er1 hm=> .op (O.ca (r':= .tp [.a [lH 1,lI r1.1.2.1,lH 2,lH 3],.h 4,.i r1.2.2]) [1,2,3,4] [(0,ROW qI 3 r1.1.1),(1,ROW qI 3 r1.1.2.2.1),(2,ROW qT 124 r1.1.2.2.2),(3,ROW (rL qI) 32 r1.2.1)] (some 5) (y4r er1) cf32 R R Z R R R R ⟨⟨_,R,fun _ _ _ _ h=>h⟩,⟨_,R,fun _ _ _ _ h=>h⟩,⟨_,R,fun _ _ _ _ h=>h⟩,⟨_,R,fun _ _ _ _ h=>h⟩,trivial⟩ (fun _ _ _ h=>h) R) R (.mv R (.op (O.ex Z R R R) R (.op (O.ex Z R R R) R (.op (O.ex Z R R R) R (.op (O.al 5 R zz35 R Z R) R (.op (O.st ag35.sz Z R R R R R) R (.sa R (.sa R (.nil (.seqN (.seq (.reg (.op (O.lg (l':=[lH 1,lI r1.1.2.1,lH 2,lH 3]) ag35 Z R (.B R) R R R) R (.mv R (.op (O.st ag35.sz Z R R R R R) R (.sa R (.nil (.seqN (.ret ?_))))))))))))))))))))))))))))
 obtain rfl:=oi hm
 exact WX.rt [1,2,3] (.inl R) Tryz.results20 (.cell R R ag35 R (.tmp R .nil)) R (fun _ _ _ h=>h) ⟨⟨_,R,fun _ _ _ _ h=>h⟩,⟨_,R,fun _ _ _ _ h=>h⟩,⟨_,R,fun _ _ _ _ h=>h⟩,trivial⟩
def y2f (b2:Bool):Option Bool:=
 some b2
def y3F (p0:(AutT×(List KeyT))×(AutT×(List KeyT))×(AutT×(List KeyT))×List (List Int)×List Int×List Int) (p1:Int) (p2:Int) (p3:Int):Option Bool:=
 (y1f p0.2.2.1 p1 p2).bind fun r1=>
 if(r1 != (-1)) then
  (y1f p0.2.2.1 p1 p3).bind fun r6=>
  if(r6 != (-1)) then
   (y1f p0.2.2.1 r1 p3).bind fun r9=>
   if(r9 == (-1)) then
    (idx p0.2.2.2.1 r1).bind fun x12=>
    (idx x12 0).bind fun x13=>
    (y1f p0.1 x13 p3).bind fun r14=>
    y2f (r14 != (-1))
   else
    y2f false
  else
   y2f false
 else
  y2f false
theorem y7M {p0:(AutT×(List KeyT))×(AutT×(List KeyT))×(AutT×(List KeyT))×List (List Int)×List Int×List Int} {p1:Int} {p2:Int} {p3:Int} {r:Bool} (hm:y3F p0 p1 p2 p3=some r):
  Fw Tryz.prog 90 ⟨0,[]⟩ [.o (lQ 155 (lx155 p0) 0),.i p1,.i p2,.i p3] [] (.b r) []:=by
 unfold y3F at hm
 refine Fw.mk' Tryz.func90 R Tryz.ntmps90 R R (fun C=>?_) R R
 refine .seq (.reg (.sa R (.nil (.seqN (.seq (.reg (.mv R (.op (O.nc .Q Z R R) R (.op (O.faQ y4T Z R R) R (.op (O.lg (l':=[lF qI p0.2.2.1.1.1,lI p0.2.2.1.1.2.1,lF qI p0.2.2.1.1.2.2.1,lF qT p0.2.2.1.1.2.2.2,lM kvP qI p0.2.2.1.2]) ag141 Z R .Q R R R) R (.mv R (.mv R (bS hm fun r1 er1 hm=> .op (O.ca0 (y2g er1) cf150 R R Z R R R) R (.sa R (.nil (.seqN ?_))))))))))))))))
 refine .join1 (fun (b2:Bool)=>y2f b2=some r) (fun b2=>⟨[(8,.b b2)],[],0⟩) ?_ ?_
 ·intro b2 hm
  unfold y2f at hm
  refine .ret ?_
  obtain rfl:=oi hm
  exact WX.rt [] (.inl R) Tryz.results90 (.tmp R .nil) R (fun _ _ _ h=>h) trivial
 ·intro Jj3
  refine .sub (τ:=⟨[(9,.i r1),(0,.o (lQ 155 (lx155 p0) 0)),(1,.i p1),(3,.i p3)],[],0⟩) ?_ [] R
  refine .drP 2 [(0,[]),(0,[oT])] [_,_] ⟨O.mv Z R R,O.bi Z R R R R,trivial⟩ fun hp4=>?_
  rcases ifS hm with ⟨hc5,hm⟩ | ⟨hc5,hm⟩
  ·skip
   refine bS hm fun r6 er6 hm=> .drX hp4 12 [(0,[oT,oT]),(0,tT 3),(0,tT 4),(0,tT 5),(0,tT 6),(0,tT 3),(0,tT 3),(0,tT 9),(0,tT 10),(0,tT 11)] [_,_,_,_,_,_,_,_,_,_] ⟨O.kn (O.mv Z R R) hc5,O.mv (Gu.mk R R) R R,O.nc .Q (Gu.mk R R) R R,O.faQ y4T (Gu.mk R R) R R,O.lg (l':=[lF qI p0.2.2.1.1.1,lI p0.2.2.1.1.2.1,lF qI p0.2.2.1.1.2.2.1,lF qT p0.2.2.1.1.2.2.2,lM kvP qI p0.2.2.1.2]) ag141 (Gu.mk R R) R .Q R R R,O.mv (Gu.mk R R) R R,O.mv (Gu.mk R R) R R,O.ca0 (y2g er6) cf150 R R (Gu.mk R R) R R R,O.bi (Gu.mk R R) R R R R,O.pkT Z R R R R,trivial⟩ (by kernel_rfl) fun hp7=>?_
   rcases ifS hm with ⟨hc8,hm⟩ | ⟨hc8,hm⟩
   ·skip
    refine bS hm fun r9 er9 hm=> .drX hp7 22 [(0,tT 12),(0,tT 13),(0,tT 14),(0,tT 15),(0,tT 16),(0,tT 13),(0,tT 13),(0,tT 19),(0,tT 20),(0,tT 21)] [_,_,_,_,_,_,_,_,_,_] ⟨O.kn (O.mv Z R R) hc8,O.mv (Gu.mk R R) R R,O.nc .Q (Gu.mk R R) R R,O.faQ y4T (Gu.mk R R) R R,O.lg (l':=[lF qI p0.2.2.1.1.1,lI p0.2.2.1.1.2.1,lF qI p0.2.2.1.1.2.2.1,lF qT p0.2.2.1.1.2.2.2,lM kvP qI p0.2.2.1.2]) ag141 (Gu.mk R R) R .Q R R R,O.mv (Gu.mk R R) R R,O.mv (Gu.mk R R) R R,O.ca0 (y2g er9) cf150 R R (Gu.mk R R) R R R,O.bi (Gu.mk R R) R R R R,O.pkT Z R R R R,trivial⟩ (by kernel_rfl) fun hp10=>?_
    rcases ifS hm with ⟨hc11,hm⟩ | ⟨hc11,hm⟩
    ·skip
     exact bS hm fun x12 ex12 hm=>bS hm fun x13 ex13 hm=>bS hm fun r14 er14 hm=> .drF hp10 [(0,tT 22),(0,tT 23),(0,tT 24),(0,tT 25),(0,tT 26),(0,tT 23),(0,tA 23 (fA 4 (tT 1))),(0,tA 23 (fA 4 (tT 2))),(0,tA 23 (fA 4 (tT 3))),(0,tT 23),(0,tA 23 (fA 4 (tT 5))),(0,tA 23 (fA 4 (tT 6))),(0,tA 23 (fA 4 (tT 7))),(0,tA 23 (fA 4 (tT 8))),(0,tT 23),(0,tT 37),(0,tT 38),(0,tT 39),(0,tT 40)] [_,_,_,_,_,_,_,_,_,_,_,_,_,_,_,_,_,_,_] ⟨[(8,.b (r14 != (-1)))],[],0⟩ ⟨O.kn (O.mv Z R R) hc11,O.mv (Gu.mk R R) R R,O.nc .Q (Gu.mk R R) R R,O.faQ y9Z (Gu.mk R R) R R,O.lg (l':=[lF qI p0.1.1.1,lI p0.1.1.2.1,lF qI p0.1.1.2.2.1,lF qT p0.1.1.2.2.2,lM kvP qI p0.1.2]) ag141 (Gu.mk R R) R .Q R R R,O.mv (Gu.mk R R) R R,O.nc .Q (Gu.mk R R) R R,O.faQ y7F (Gu.mk R R) R R,O.ld nag53 (Gu.mk R R) R .Q R R,O.mv (Gu.mk R R) R R,O.ix sl53 (Gu.mk R R) R R ex12 R,O.ld nag32 (Gu.mk R R) R (.E lv32) R R,O.ix sl32 (Gu.mk R R) R R ex13 R,O.ld nag3 (Gu.mk R R) R (.E lv3) R R,O.mv (Gu.mk R R) R R,O.ca0 (y2g er14) cf150 R R (Gu.mk R R) R R R,O.bi (Gu.mk R R) R R R R,O.pkT Z R R R R,O.as Z R R,trivial⟩ (by kernel_rfl) R ((Jj3 _ hm).sub [] R)
    ·skip
     exact .drF hp10 [(0,tT 22),(0,tT 23),(0,tT 24),(0,tT 25),(0,tT 26),(0,tT 23),(0,tA 23 (fA 4 (tT 1))),(0,tA 23 (fA 4 (tT 2))),(0,tA 23 (fA 4 (tT 3))),(0,tT 23),(0,tA 23 (fA 4 (tT 5))),(0,tA 23 (fA 4 (tT 6))),(0,tA 23 (fA 4 (tT 7))),(0,tA 23 (fA 4 (tT 8))),(0,tT 23),(0,tT 37),(0,tT 38),(0,tT 39),(0,tT 40)] [_,_,_,_,_,_,_,_,_,_,_,_,_,_,_,_,_,_,_] ⟨[(8,.b false)],[],0⟩ ⟨O.kn (O.mv Z R R) hc11,O.skip R R R R,O.skip R R R R,O.skip R R R R,O.skip R R R R,O.skip R R R R,O.skip R R R R,O.skip R R R R,O.skip R R R R,O.skip R R R R,O.skip R R R R,O.skip R R R R,O.skip R R R R,O.skip R R R R,O.skip R R R R,O.skip R R R R,O.skip R R R R,O.pkF Z R R R R,O.as Z R R,trivial⟩ (by kernel_rfl) R ((Jj3 _ hm).sub [] R)
   ·skip
    exact .drF hp7 [(0,tT 12),(0,tT 13),(0,tT 14),(0,tT 15),(0,tT 16),(0,tT 13),(0,tT 13),(0,tT 19),(0,tT 20),(0,tT 21),(0,tT 22),(0,tT 23),(0,tT 24),(0,tT 25),(0,tT 26),(0,tT 23),(0,tA 23 (fA 4 (tT 1))),(0,tA 23 (fA 4 (tT 2))),(0,tA 23 (fA 4 (tT 3))),(0,tT 23),(0,tA 23 (fA 4 (tT 5))),(0,tA 23 (fA 4 (tT 6))),(0,tA 23 (fA 4 (tT 7))),(0,tA 23 (fA 4 (tT 8))),(0,tT 23),(0,tT 37),(0,tT 38),(0,tT 39),(0,tT 40)] [_,_,_,_,_,_,_,_,_,_,_,_,_,_,_,_,_,_,_,_,_,_,_,_,_,_,_,_,_] ⟨[(8,.b false)],[],0⟩ ⟨O.kn (O.mv Z R R) hc8,O.skip R R R R,O.skip R R R R,O.skip R R R R,O.skip R R R R,O.skip R R R R,O.skip R R R R,O.skip R R R R,O.skip R R R R,O.pkF Z R R R R,O.mv Z R R,O.skip R R R R,O.skip R R R R,O.skip R R R R,O.skip R R R R,O.skip R R R R,O.skip R R R R,O.skip R R R R,O.skip R R R R,O.skip R R R R,O.skip R R R R,O.skip R R R R,O.skip R R R R,O.skip R R R R,O.skip R R R R,O.skip R R R R,O.skip R R R R,O.pkF Z R R R R,O.as Z R R,trivial⟩ (by kernel_rfl) R ((Jj3 _ hm).sub [] R)
  ·skip
   exact .drF hp4 [(0,[oT,oT]),(0,tT 3),(0,tT 4),(0,tT 5),(0,tT 6),(0,tT 3),(0,tT 3),(0,tT 9),(0,tT 10),(0,tT 11),(0,tT 12),(0,tT 13),(0,tT 14),(0,tT 15),(0,tT 16),(0,tT 13),(0,tT 13),(0,tT 19),(0,tT 20),(0,tT 21),(0,tT 22),(0,tT 23),(0,tT 24),(0,tT 25),(0,tT 26),(0,tT 23),(0,tA 23 (fA 4 (tT 1))),(0,tA 23 (fA 4 (tT 2))),(0,tA 23 (fA 4 (tT 3))),(0,tT 23),(0,tA 23 (fA 4 (tT 5))),(0,tA 23 (fA 4 (tT 6))),(0,tA 23 (fA 4 (tT 7))),(0,tA 23 (fA 4 (tT 8))),(0,tT 23),(0,tT 37),(0,tT 38),(0,tT 39),(0,tT 40)] [_,_,_,_,_,_,_,_,_,_,_,_,_,_,_,_,_,_,_,_,_,_,_,_,_,_,_,_,_,_,_,_,_,_,_,_,_,_,_] ⟨[(8,.b false)],[],0⟩ ⟨O.kn (O.mv Z R R) hc5,O.skip R R R R,O.skip R R R R,O.skip R R R R,O.skip R R R R,O.skip R R R R,O.skip R R R R,O.skip R R R R,O.skip R R R R,O.pkF Z R R R R,O.mv Z R R,O.skip R R R R,O.skip R R R R,O.skip R R R R,O.skip R R R R,O.skip R R R R,O.skip R R R R,O.skip R R R R,O.skip R R R R,O.pkF Z R R R R,O.mv Z R R,O.skip R R R R,O.skip R R R R,O.skip R R R R,O.skip R R R R,O.skip R R R R,O.skip R R R R,O.skip R R R R,O.skip R R R R,O.skip R R R R,O.skip R R R R,O.skip R R R R,O.skip R R R R,O.skip R R R R,O.skip R R R R,O.skip R R R R,O.skip R R R R,O.pkF Z R R R R,O.as Z R R,trivial⟩ (by kernel_rfl) R ((Jj3 _ hm).sub [] R)
def y3J (x2:(AutT×(List KeyT))×(AutT×(List KeyT))×(AutT×(List KeyT))×List (List Int)×List Int×List Int) (st46:Int) (x78:Int) (st84:Int):Option (Int ⊕ (Unit ⊕ (List Int×List Int))):=
 if decide (st84 < (x2.2.2.2.2.2.length:Int)) then
  (idx x2.2.2.2.2.2 st84).bind fun x91=>
  (y3F x2 st46 x78 x91).bind fun r92=>
  if r92 then
   (y2h x2.2.2.1 st46).bind fun r93=>
   some (.inr (.inr ((r93,([x78,x91]:List Int)))))
  else
   some (.inl (W (st84 + 1)))
 else
  some (.inr (.inl ()))
def y3K (x2:(AutT×(List KeyT))×(AutT×(List KeyT))×(AutT×(List KeyT))×List (List Int)×List Int×List Int) (st46:Int) (st71:Int):Option (Int ⊕ (Unit ⊕ (List Int×List Int))):=
 if decide (st71 < (x2.2.2.2.2.1.length:Int)) then
  (idx x2.2.2.2.2.1 st71).bind fun x78=>
  (iter (y3J x2 st46 x78) 0).bind fun o84=>
  match o84 with
  | .inl u87=>
   some (.inl (W (st71 + 1)))
  | .inr (u89)=>
   some (.inr (.inr (u89)))
 else
  some (.inr (.inl ()))
def y4m (x2:(AutT×(List KeyT))×(AutT×(List KeyT))×(AutT×(List KeyT))×List (List Int)×List Int×List Int) (st46:Int):Option (Int ⊕ (Unit ⊕ (List Int×List Int))):=
 if decide (st46 < (x2.2.2.2.1.length:Int)) then
  (iter (y3K x2 st46) 0).bind fun o71=>
  match o71 with
  | .inl u74=>
   some (.inl (W (st46 + 1)))
  | .inr (u76)=>
   some (.inr (.inr (u76)))
 else
  some (.inr (.inl ()))
def y4v (p0:AutT×AutT×List Int):Option ((Int×List Int×List Int)×Bool×Int):=
 (y2S p0).bind fun r1=>
 if(r1.2 != 0) then
  some ((0,([]:List Int),([]:List Int)),false,r1.2)
 else
  r1.1.bind fun x2=>
  (iter (y4m x2) 0).bind fun o46=>
  match o46 with
  | .inl u49=>
   some ((0,([]:List Int),([]:List Int)),true,0)
  | .inr (u51)=>
   some ((2,u51),false,0)
theorem y9G {p0:AutT×AutT×List Int} {r:(Int×List Int×List Int)×Bool×Int} (hm:y4v p0=some r):
  Fw Tryz.prog 30 ⟨0,[]⟩ [.a [lF qI p0.1.1,lI p0.1.2.1,lF qI p0.1.2.2.1,lF qT p0.1.2.2.2,lF qI p0.2.1.1,lI p0.2.1.2.1,lF qI p0.2.1.2.2.1,lF qT p0.2.1.2.2.2,lF qI p0.2.2]] [] (.tp [.a [lI r.1.1,lH 0,lF qI r.1.2.2],.b r.2.1,.i r.2.2]) [ROW qI 3 r.1.2.1]:=by
 unfold y4v at hm
 refine Fw.mk' Tryz.func30 R Tryz.ntmps30 R R (fun C=>?_) R R
 refine .seq (.reg (.op (O.box 0 R Z R R R) R (.op (O.al 1 R zz44 R Z R) R (.sa R (.sa R (.nil (.seqN (.seq (.reg (.op (O.lg (l':=[lF qI p0.1.1,lI p0.1.2.1,lF qI p0.1.2.2.1,lF qT p0.1.2.2.2,lF qI p0.2.1.1,lI p0.2.1.2.1,lF qI p0.2.1.2.2.1,lF qT p0.2.1.2.2.2,lF qI p0.2.2]) ag37 Z R (.B R) R R R) R (bS hm fun r1 er1 hm=> .op (O.ca0 (y6C er1) cf85 R R Z R R R) R (.mv R (.op (O.ex Z R R R) R (.op (O.ex Z R R R) R (.sa R (.sa R (.nil (.seqN (.seq (.seq (.reg (.mv R (.bi R (.nil (.seqN ?_)))))))))))))))))))))))))
 rcases ifS hm with ⟨hc,hm⟩ | ⟨hc,hm⟩
 ·refine .cT R hc ?_
  refine .seq (.reg (.op (O.bu (l:=[lI 0,lN,lN]) pl44 R Z R R R) R (.mv R (.op (O.st ag44.sz Z R R R R R) R (.sa R (.sa R (.nil (.seqN (.ret (.seqR (.nlb qI 3 1 1 R R (.cno 1 R (.c .rf (.c .rf (.c (.nf (r:=qI)) .n))) R ?_))))))))))))
  obtain rfl:=oi hm
  exact WX.rt [2] (.inl R) Tryz.results30 (.cell R R ag44 R (.tmp R (.tmp R .nil))) R (fun _ _ _ h=>h) ⟨⟨_,R,fun _ _ _ _ h=>h⟩,trivial⟩
 ·refine .cF R hc ?_
  refine .skip (.seqN (.seq (.seq (.reg (.mv R (bS hm fun x2 ex2 hm=> .cnt 20 R (.c (.pd ex2 lv155) .n) R (.cnt 5 R (.c (.pd ex2 lv155) .n) R (.cnt 14 R (.c (.pd ex2 lv155) .n) R (.op (O.nc .Q Z R R) R (.op (O.faQ y7F Z R R) R (.op (O.ld nag53 Z R .Q R R) R (.op (O.len sl53 Z R R) R (.mv R (.nil (.seqN (.block (bS hm fun o46 eo46 hm=>?_)))))))))))))))))
  refine .cutU (z:= .exit 0) (fun u49=> .inl u49=o46) (fun (u49:Unit)=>⟨[(2,.q 0 0)],[(0,.bx 44 [lI 0,lN,lN])],1⟩) ?_ fun K50=>?_
  ·rintro u49 rfl
   dsimp only at hm
   refine .blkE (.seqN (.seq (.reg (.op (O.bu (l:=[lI 0,lN,lN]) pl44 R Z R R R) R (.op (O.st ag44.sz Z R R R R R) R (.sa R (.sa R (.nil (.seqN (.ret (.nlb qI 3 0 1 R R (.cno 0 R (.c .rf (.c .rf (.c (.nf (r:=qI)) .n))) R ?_))))))))))))
   obtain rfl:=oi hm
   exact WX.rt [1] (.inl R) Tryz.results30 (.cell R R ag44 R (.tmp R (.tmp R .nil))) R (fun _ _ _ h=>h) ⟨⟨_,R,fun _ _ _ _ h=>h⟩,trivial⟩
  refine .cutU (z:= .ret) (fun u51=> .inr (u51)=o46) (fun (u51:List Int×List Int)=>⟨[(4,.i 0),(3,.b false),(2,.q 0 0)],[(0,.bx 44 [lI 2,lH 1,lF qI u51.2]),(1,ROW qI 3 u51.1)],2⟩) ?_ fun K52=>?_
  ·rintro u51 rfl
   dsimp only at hm
   refine .blkR (.seqR ?_)
   obtain rfl:=oi hm
   exact WX.rt [1] (.inl R) Tryz.results30 (.cell R R ag44 R (.tmp R (.tmp R .nil))) R (fun _ _ _ h=>h) ⟨⟨_,R,fun _ _ _ _ h=>h⟩,trivial⟩
  refine .iter (fun (st46:Int)=>⟨[(25,.i st46),(24,.i (x2.2.2.2.1.length:Int)),(5,.o (lQ 155 (lx155 x2) 0)),(2,.q 0 0)],[(0,.bx 44 [lI 0,lN,lN])],1⟩) eo46 [(0,1)] R ?_
  intro st46 res46 hm ih46 ho46
  unfold y4m at hm
  refine .seq (.reg (.bi R (.nil (.seqN (.seq ?_)))))
  rcases ifS hm with ⟨hc,hm⟩ | ⟨hc,hm⟩
  ·refine .cT R hc ?_
   refine .skip (.seqN (.seq (.block (.seq (.reg (.mv R (.sa R (.nil (.seqN (.seq (.reg (.mv R (.op (O.nc .Q Z R R) R (.op (O.faQ y8N Z R R) R (.op (O.ld nag32 Z R .Q R R) R (.op (O.len sl32 Z R R) R (.mv R (.nil (.seqN (.block (bS hm fun o71 eo71 hm=>?_)))))))))))))))))))))
   refine .cutU (z:= .exit 2) (fun u74=> .inl u74=o71) (fun (u74:Unit)=>⟨[(25,.i st46),(24,.i (x2.2.2.2.1.length:Int)),(5,.o (lQ 155 (lx155 x2) 0)),(2,.q 0 0)],[(0,.bx 44 [lI 0,lN,lN])],1⟩) ?_ fun K75=>?_
   ·rintro u74 rfl
    dsimp only at hm
    exact .blkE (.blkN (.seqN (.reg (.bi R (.mv R (.nil ((ih46 _ (oi hm).symm).sub [] R)))))))
   refine .cutU (z:= .ret) (fun u76=> .inr (u76)=o71) (fun (u76:List Int×List Int)=>⟨[(4,.i 0),(3,.b false),(2,.q 0 0)],[(0,.bx 44 [lI 2,lH 1,lF qI u76.2]),(1,ROW qI 3 u76.1)],2⟩) ?_ fun K77=>?_
   ·rintro u76 rfl
    dsimp only at hm
    exact .blkR (.blkR (.seqR (.seqR ((K52 _ (ho46 _ (oi hm).symm)).sub [] R))))
   refine .iter (fun (st71:Int)=>⟨[(33,.i st71),(32,.i (x2.2.2.2.2.1.length:Int)),(31,.f qI x2.2.2.2.2.1),(6,.i st46),(25,.i st46),(24,.i (x2.2.2.2.1.length:Int)),(5,.o (lQ 155 (lx155 x2) 0)),(2,.q 0 0)],[(0,.bx 44 [lI 0,lN,lN])],1⟩) eo71 [] R ?_
   intro st71 res71 hm ih71 ho71
   unfold y3K at hm
   refine .seq (.reg (.bi R (.nil (.seqN (.seq ?_)))))
   rcases ifS hm with ⟨hc,hm⟩ | ⟨hc,hm⟩
   ·refine .cT R hc ?_
    refine .skip (.seqN (.seq (.block (.seq (.reg (bS hm fun x78 ex78 hm=> .op (O.ix sl32 Z R R ex78 R) R (.op (O.ld nag3 Z R (.E lv3) R R) R (.sa R (.nil (.seqN (.seq (.reg (.mv R (.op (O.nc .Q Z R R) R (.op (O.faQ ye2 Z R R) R (.op (O.ld nag32 Z R .Q R R) R (.op (O.len sl32 Z R R) R (.mv R (.nil (.seqN (.block (bS hm fun o84 eo84 hm=>?_))))))))))))))))))))))
    refine .cutU (z:= .exit 4) (fun u87=> .inl u87=o84) (fun (u87:Unit)=>⟨[(33,.i st71),(32,.i (x2.2.2.2.2.1.length:Int)),(31,.f qI x2.2.2.2.2.1),(6,.i st46),(25,.i st46),(24,.i (x2.2.2.2.1.length:Int)),(5,.o (lQ 155 (lx155 x2) 0)),(2,.q 0 0)],[(0,.bx 44 [lI 0,lN,lN])],1⟩) ?_ fun K88=>?_
    ·rintro u87 rfl
     dsimp only at hm
     exact .blkE (.blkN (.seqN (.reg (.bi R (.mv R (.nil ((ih71 _ (oi hm).symm).sub [] R)))))))
    refine .cutU (z:= .ret) (fun u89=> .inr (u89)=o84) (fun (u89:List Int×List Int)=>⟨[(4,.i 0),(3,.b false),(2,.q 0 0)],[(0,.bx 44 [lI 2,lH 1,lF qI u89.2]),(1,ROW qI 3 u89.1)],2⟩) ?_ fun K90=>?_
    ·rintro u89 rfl
     dsimp only at hm
     exact .blkR (.blkR (.seqR (.seqR ((K77 _ (ho71 _ (oi hm).symm)).sub [] R))))
    refine .iter (fun (st84:Int)=>⟨[(42,.i st84),(41,.i (x2.2.2.2.2.2.length:Int)),(40,.f qI x2.2.2.2.2.2),(8,.i x78),(33,.i st71),(32,.i (x2.2.2.2.2.1.length:Int)),(31,.f qI x2.2.2.2.2.1),(6,.i st46),(25,.i st46),(24,.i (x2.2.2.2.1.length:Int)),(5,.o (lQ 155 (lx155 x2) 0)),(2,.q 0 0)],[(0,.bx 44 [lI 0,lN,lN])],1⟩) eo84 [] R ?_
    intro st84 res84 hm ih84 ho84
    unfold y3J at hm
    refine .seq (.reg (.bi R (.nil (.seqN (.seq ?_)))))
    rcases ifS hm with ⟨hc,hm⟩ | ⟨hc,hm⟩
    ·refine .cT R hc ?_
     refine .skip (.seqN (.seq (.block (.seq (.reg (bS hm fun x91 ex91 hm=> .op (O.ix sl32 Z R R ex91 R) R (.op (O.ld nag3 Z R (.E lv3) R R) R (.sa R (.nil (.seqN (.seq (.reg (.mv R (.mv R (.mv R (.mv R (bS hm fun r92 er92 hm=> .op (O.ca0 (y7M er92) cf90 R R Z R R R) R (.nil (.seqN ?_)))))))))))))))))))
     rcases ifS hm with ⟨hc,hm⟩ | ⟨hc,hm⟩
     ·refine .cT R hc ?_
      exact .seq (.reg (.mv R (.op (O.nc .Q Z R R) R (.op (O.faQ y4T Z R R) R (.op (O.lg (l':=[lF qI x2.2.2.1.1.1,lI x2.2.2.1.1.2.1,lF qI x2.2.2.1.1.2.2.1,lF qT x2.2.2.1.1.2.2.2,lM kvP qI x2.2.2.1.2]) ag141 Z R .Q R R R) R (.mv R (bS hm fun r93 er93 hm=> .op (O.ca (r':= .h 1) [1] [(0,ROW qI 3 r93)] (some 2) (y4W er93) cf81 R R Z R R R R ⟨⟨_,R,fun _ _ _ _ h=>h⟩,trivial⟩ (fun _ _ _ h=>h) R) R (.mv R (.mv R (.op (O.bsF (r:=qI) (zs:=([x78,x91]:List Int)) bs32 R R Z R R R (.c .k (.c .k .n)) R R R) R (.op (O.bu (l:=[lI 2,lH 1,lF qI ([x78,x91]:List Int)]) pl44 R Z R R R) R (.op (O.st ag44.sz Z R R R R R) R (.sa R (.sa R (.nil (.seqN (.ret (.blkR (.seqR (.seqR ((K90 _ (ho84 _ (oi hm).symm)).sub [] R)))))))))))))))))))))
     ·refine .cF R hc ?_
      exact .skip (.blkN (.seqN (.reg (.bi R (.mv R (.nil ((ih84 _ (oi hm).symm).sub [] R)))))))
    ·refine .cF R hc ?_
     exact .exit (.seqX (.seqX ((K88 _ (ho84 _ (oi hm).symm)).sub [] R)))
   ·refine .cF R hc ?_
    exact .exit (.seqX (.seqX ((K75 _ (ho71 _ (oi hm).symm)).sub [] R)))
  ·refine .cF R hc ?_
   exact .exit (.seqX (.seqX ((K50 _ (ho46 _ (oi hm).symm)).sub [] R)))
def yg (p0:List (Int×Int×Int)) (p1:Int) (p2:(Int×Int×Int)→Int→Option Int) (st7:Int×Int):Option ((Int×Int) ⊕ Int):=
 if decide (st7.2 < st7.1) then
  (idx p0 (W ((IntKind.u64.wrap (W (st7.2 + st7.1))).fdiv (2 ^ (min (1:Int).toNat 64))))).bind fun x15=>
  (p2 x15 p1).bind fun r16=>
  if decide (r16 < 0) then
   some (.inl (st7.1,W ((W ((IntKind.u64.wrap (W (st7.2 + st7.1))).fdiv (2 ^ (min (1:Int).toNat 64)))) + 1)))
  else
   some (.inl (W ((IntKind.u64.wrap (W (st7.2 + st7.1))).fdiv (2 ^ (min (1:Int).toNat 64))),st7.2))
 else
  some (.inr st7.2)
def ye (p0:List (Int×Int×Int)) (p1:Int) (p2:(Int×Int×Int)→Int→Option Int):Option (Int×Bool):=
 (iter (yg p0 p1 p2) ((p0.length:Int),0)).bind fun o7=>
 (if decide (o7 < (p0.length:Int)) then
  (idx p0 o7).bind fun x13=>
  (p2 x13 p1).bind fun r14=>
  some (r14 == 0)
 else
  some false).bind fun b10=>
 some (o7,b10)
theorem y2u {p0:List (Int×Int×Int)} {p1:Int} {p2:(Int×Int×Int)→Int→Option Int} {r:Int×Bool} (hm:ye p0 p1 p2=some r):
  Fw Tryz.prog 166 ⟨0,[]⟩ [.f qT p0,.i p1,.o (lW Tryz.prog (fun (x:(Int×Int×Int)×Int)=> [.a [lI x.1.1,lI x.1.2.1,lI x.1.2.2],.i x.2]) (fun (r:Int)=> .i r) (fun x=>p2 x.1 x.2))] [] (.tp [.i r.1,.b r.2]) []:=by
 unfold ye at hm
 refine Fw.mk' Tryz.func166 R Tryz.ntmps166 R R (fun C=>?_) R R
 refine .seq (.reg (.sa R (.sa R (.nil (.seqN (.seq (.reg (.mv R (.op (O.len sl33 Z R R) R (.sa R (.nil (.seqN (.seq (.reg (.mv R (.sa R (.sa R (.nil (.seqN (.seq (.block (bS hm fun o7 eo7 hm=>?_))))))))))))))))))))))
 refine .cut1 (z:= .exit 0) o7 (fun (o7:Int)=>⟨[(9,.i o7),(8,.i (p0.length:Int)),(0,.f qT p0),(1,.i p1),(2,.o (lW Tryz.prog (fun (x:(Int×Int×Int)×Int)=> [.a [lI x.1.1,lI x.1.2.1,lI x.1.2.2],.i x.2]) (fun (r:Int)=> .i r) (fun x=>p2 x.1 x.2)))],[],0⟩) ?_ fun K9=>?_
 ·skip
  refine .blkE (.seqN (.seq (.reg (.mv R (.mv R (.mv R (.bi R (.mv R (bS hm fun b10 eb10 hm=>?_)))))))))
  refine .cut 9 (fun (v11:Bool)=>b10=v11) (fun v11=>⟨[(48,.b v11),(35,.i o7)],[],0⟩) ?_ ?_
  ·rintro _ rfl
   refine .sa R (.sa R (.nil (.seqN (.ret ?_))))
   obtain rfl:=oi hm
   exact WX.rt [] (.inl R) Tryz.results166 (.tmp R (.tmp R .nil)) R (fun _ _ _ h=>h) trivial
  ·intro J12
   rcases ifS eb10 with ⟨hc,hm⟩ | ⟨hc,hm⟩
   ·refine .know (d:=39) R hc ?_
    refine .op (O.mv (Gu.mk R R) R R) R (.op (O.mv (Gu.mk R R) R R) R (.op (O.mv (Gu.mk R R) R R) R (bS hm fun x13 ex13 hm=> .op (O.ix sl33 (Gu.mk R R) R R ex13 R) R (.op (O.lg (l':=[lI x13.1,lI x13.2.1,lI x13.2.2]) ag124 (Gu.mk R R) R (.E lv124) R R R) R (.op (O.mv (Gu.mk R R) R R) R (bS hm fun r14 er14 hm=>?_))))))
    refine .op (O.fv (y:=(x13,p1)) R R R (Gu.mk R R) R er14 R R) R ?_
    exact .op (O.bi (Gu.mk R R) R R R R) R (.op (O.pkT Z R R R R) R ((J12 (r14 == 0) (oi hm).symm).sub [] R))
   ·refine .know (d:=39) R hc ?_
    exact .sk R (.sk R (.sk R (.sk R (.sk R (.sk R (.sk R (.sk R (.op (O.pkF Z R R R R) R ((J12 false (oi hm).symm).sub [] R)))))))))
 refine .iter (fun (st7:Int×Int)=>⟨[(10,.i st7.1),(9,.i st7.2),(8,.i (p0.length:Int)),(0,.f qT p0),(1,.i p1),(2,.o (lW Tryz.prog (fun (x:(Int×Int×Int)×Int)=> [.a [lI x.1.1,lI x.1.2.1,lI x.1.2.2],.i x.2]) (fun (r:Int)=> .i r) (fun x=>p2 x.1 x.2)))],[],0⟩) eo7 [] R ?_
 intro st7 res7 hm ih7 ho7
 unfold yg at hm
 refine .seq (.seq (.reg (.mv R (.mv R (.bi R (.nil (.seqN ?_)))))))
 rcases ifS hm with ⟨hc,hm⟩ | ⟨hc,hm⟩
 ·refine .cT R hc ?_
  refine .skip (.seqN (.block (.seq (.reg (.mv R (.mv R (.bi R (.op (O.cv Tryz.underlying3 Tryz.underlying295 Z R R) R (.op (O.shr Z R R (by decide) R) R (.op (O.cv Tryz.underlying295 Tryz.underlying3 Z R R) R (.sa R (.nil (.seqN (.seq (.reg (.mv R (.mv R (.mv R (bS hm fun x15 ex15 hm=> .op (O.ix sl33 Z R R ex15 R) R (.op (O.lg (l':=[lI x15.1,lI x15.2.1,lI x15.2.2]) ag124 Z R (.E lv124) R R R) R (.mv R (bS hm fun r16 er16 hm=>?_))))))))))))))))))))))
  refine .op (O.fv (y:=(x15,p1)) R R R Z R er16 R R) R ?_
  refine .bi R (.nil (.seqN ?_))
  rcases ifS hm with ⟨hc,hm⟩ | ⟨hc,hm⟩
  ·refine .cT R hc ?_
   exact .reg (.mv R (.bi R (.sa R (.nil (.blkN ((ih7 _ (oi hm).symm).sub [] R))))))
  ·refine .cF R hc ?_
   exact .reg (.mv R (.sa R (.nil (.blkN ((ih7 _ (oi hm).symm).sub [] R)))))
 ·refine .cF R hc ?_
  exact .exit (.seqX (.seqX ((K9 _ (ho7 _ (oi hm).symm)).sub [] R)))
def y4e (p0:Int×Int×Int) (p1:Int):Option Int:=
 some (W (p0.1 - p1))
theorem y8r {p0:Int×Int×Int} {p1:Int} {r:Int} (hm:y4e p0 p1=some r):
  Fw Tryz.prog 167 ⟨0,[]⟩ [.a [lI p0.1,lI p0.2.1,lI p0.2.2],.i p1] [] (.i r) []:=by
 unfold y4e at hm
 refine Fw.mk' Tryz.func167 R Tryz.ntmps167 R R (fun C=>?_) R R
 refine .seq (.reg (.op (O.box 0 R Z R R R) R (.sa R (.nil (.seqN (.seq (.reg (.op (O.faP y2a Z R R) R (.op (O.ld nag3 Z R (.B R) R R) R (.mv R (.bi R (.sa R (.nil (.seqN (.ret ?_)))))))))))))))
 obtain rfl:=oi hm
 exact WX.rt [] (.inl R) Tryz.results167 (.tmp R .nil) R (fun _ _ _ h=>h) trivial
def y4f (p0:Int×Int×Int) (p1:Int):Option Int:=
 some (W (p0.1 - p1))
theorem y8s {p0:Int×Int×Int} {p1:Int} {r:Int} (hm:y4f p0 p1=some r):
  Fw Tryz.prog 168 ⟨0,[]⟩ [.a [lI p0.1,lI p0.2.1,lI p0.2.2],.i p1] [] (.i r) []:=by
 unfold y4f at hm
 refine Fw.mk' Tryz.func168 R Tryz.ntmps168 R R (fun C=>?_) R R
 refine .seq (.reg (.op (O.box 0 R Z R R R) R (.sa R (.nil (.seqN (.seq (.reg (.op (O.faP y2a Z R R) R (.op (O.ld nag3 Z R (.B R) R R) R (.mv R (.bi R (.sa R (.nil (.seqN (.ret ?_)))))))))))))))
 obtain rfl:=oi hm
 exact WX.rt [] (.inl R) Tryz.results168 (.tmp R .nil) R (fun _ _ _ h=>h) trivial
def y2N (p0:AutT) (p1:Int):Option EdgL:=
 (ye p0.2.2.2 p1 y4e).bind fun r1=>
 (ye p0.2.2.2 (W (p1 + 1)) y4f).bind fun r2=>
 (slc p0.2.2.2 r1.1 r2.1).bind fun x3=>
 some x3
theorem y5v {p0:AutT} {p1:Int} {r:EdgL} (hm:y2N p0 p1=some r):
  Fw Tryz.prog 102 ⟨0,[]⟩ [.a [lF qI p0.1,lI p0.2.1,lF qI p0.2.2.1,lF qT p0.2.2.2],.i p1] [] (.f qT r) []:=by
 unfold y2N at hm
 refine Fw.mk' Tryz.func102 R Tryz.ntmps102 R R (fun C=>?_) R R
 refine .seq (.reg (.op (O.box 0 R Z R R R) R (.sa R (.nil (.seqN (.seq (.reg (.op (O.faP yo Z R R) R (.op (O.ld nag33 Z R (.B R) R R) R (.mv R (bS hm fun r1 er1 hm=> .op (O.ca0c (y2u er1) cf166 R R Z R ⟨⟨R,.rf⟩,⟨R,.rf⟩,⟨R,(.c (.fn cf167 (fun x r h=>y8r h) (fun _=>R)) .n)⟩,trivial⟩ R R) R (.mv R (.op (O.ex Z R R R) R (.op (O.ex Z R R R) R (.sa R (.sa R (.nil (.seqN (.seq (.reg (.op (O.faP yo Z R R) R (.op (O.ld nag33 Z R (.B R) R R) R (.mv R (.bi R (bS hm fun r2 er2 hm=> .op (O.ca0c (y2u er2) cf166 R R Z R ⟨⟨R,.rf⟩,⟨R,.rf⟩,⟨R,(.c (.fn cf168 (fun x r h=>y8s h) (fun _=>R)) .n)⟩,trivial⟩ R R) R (.mv R (.op (O.ex Z R R R) R (.op (O.ex Z R R R) R (.sa R (.sa R (.nil (.seqN (.seq (.reg (.op (O.faP yo Z R R) R (.op (O.ld nag33 Z R (.B R) R R) R (.mv R ?_)))))))))))))))))))))))))))))))))))))
 refine .mv R (bS hm fun x3 ex3 hm=> .op (O.sl sl33 Z R R R ex3 R) R (.sa R (.nil (.seqN (.ret ?_)))))
 obtain rfl:=oi hm
 exact WX.rt [] (.inl R) Tryz.results102 (.tmp R .nil) R (fun _ _ _ h=>h) trivial
def y3v (st45:Int×List (List Int)) (l48:List (List Int)):Option ((Int×List (List Int)) ⊕ (List (List Int))):=
 some (.inl (W (st45.1 + 1),l48))
def y3w (p0:AutT) (p2:Bool) (u30:(List (List Int×Int))) (st45:Int×List (List Int)):Option ((Int×List (List Int)) ⊕ (List (List Int))):=
 if decide (st45.1 < (u30.length:Int)) then
  (idx u30 st45.1).bind fun x50=>
  (if (!p2) then
   some true
  else
   (yj p0.2.2.1 x50.2).bind fun r56=>
   some r56).bind fun b51=>
  if b51 then
   (app ([]:List Int) x50.1).bind fun x54=>
   (app st45.2 ([x54]:List (List Int))).bind fun x55=>
   y3v st45 x55
  else
   y3v st45 st45.2
 else
  some (.inr st45.2)
def y2I (st28:Int×(List (List Int×Int))) (r61:EdgL) (st71:Int×(List (List Int×Int))):Option ((Int×(List (List Int×Int))) ⊕ (List (List Int×Int))):=
 if decide (st71.1 < (r61.length:Int)) then
  (idx r61 st71.1).bind fun x74=>
  (idx st71.2 st28.1).bind fun x75=>
  (yS x75.1).bind fun r76=>
  (app r76 ([x74.2.1]:List Int)).bind fun x77=>
  (app st71.2 ([(x77,x74.2.2)]:List (List Int×Int))).bind fun x78=>
  some (.inl (W (st71.1 + 1),x78))
 else
  some (.inr st71.2)
def y3x (p0:AutT) (p1:Int) (st28:Int×(List (List Int×Int))):Option ((Int×(List (List Int×Int))) ⊕ ((List (List Int×Int)) ⊕ Unit)):=
 if decide (st28.1 < (st28.2.length:Int)) then
  (idx st28.2 st28.1).bind fun x59=>
  if((x59.1.length:Int) == p1) then
   some (.inr (.inl st28.2))
  else
   (idx st28.2 st28.1).bind fun x60=>
   (y2N p0 x60.2).bind fun r61=>
   (iter (y2I st28 r61) (0,st28.2)).bind fun o71=>
   if decide ((o71.length:Int) > 1024) then
    some (.inr (.inr (())))
   else
    some (.inl (W (st28.1 + 1),o71))
 else
  some (.inr (.inl st28.2))
def yY (p0:AutT) (p1:Int) (p2:Bool):Option (List (List Int)×Int):=
 (yt p0).bind fun r1=>
 if(r1 != 0) then
  some (([]:List (List Int)),r1)
 else
  if((decide (p1 < 0)) || (decide (p1 > 4096))) then
   some (([]:List (List Int)),2)
  else
   if(p0.2.1 == 0) then
    some (([]:List (List Int)),0)
   else
    (iter (y3x p0 p1) (0,([(([]:List Int),0)]:List (List Int×Int)))).bind fun o28=>
    match o28 with
    | .inl u30=>
     (iter (y3w p0 p2 u30) (0,([]:List (List Int)))).bind fun o45=>
     some (o45,0)
    | .inr (u57)=>
     some (([]:List (List Int)),3)
theorem y6j {p0:AutT} {p1:Int} {p2:Bool} {r:List (List Int)×Int} (hm:yY p0 p1 p2=some r):
  Fw Tryz.prog 34 ⟨0,[]⟩ [.a [lF qI p0.1,lI p0.2.1,lF qI p0.2.2.1,lF qT p0.2.2.2],.i p1,.b p2] [] (.tp [.h 0,.i r.2]) [ROW (rL qI) 32 r.1]:=by
 unfold yY at hm
 refine Fw.mk' Tryz.func34 R Tryz.ntmps34 R R (fun C=>?_) R R
 refine .seq (.reg (.op (O.box 0 R Z R R R) R (.sa R (.sa R (.nil (.seqN (.seq (.seq (.reg (.op (O.lg (l':=[lF qI p0.1,lI p0.2.1,lF qI p0.2.2.1,lF qT p0.2.2.2]) ag35 Z R (.B R) R R R) R (bS hm fun r1 er1 hm=> .op (O.ca0 (y1B er1) cf101 R R Z R R R) R (.sa R (.nil (.seqN (.seq (.reg (.mv R (.bi R (.nil (.seqN ?_))))))))))))))))))))
 rcases ifS hm with ⟨hc,hm⟩ | ⟨hc,hm⟩
 ·refine .cT R hc ?_
  refine .seq (.reg (.mv R (.sa R (.sa R (.nil (.seqN (.ret (.seqR (.nlg (rL qI) 32 6 0 R R ?_)))))))))
  obtain rfl:=oi hm
  exact WX.rt [1] (.inl R) Tryz.results34 (.tmp R (.tmp R .nil)) R (fun _ _ _ h=>h) ⟨⟨_,R,fun _ _ _ _ h=>h⟩,trivial⟩
 ·refine .cF R hc ?_
  refine .skip (.seqN (.seq (.seq (.reg (.mv R (.bi R (.mv R ?_)))))))
  refine .cut 3 (fun (v2:Bool)=>((decide (p1 < 0)) || (decide (p1 > 4096)))=v2) (fun v2=>⟨[(26,.b v2),(3,.q 0 0),(1,.i p1),(2,.b p2)],[(0,.bx 35 [lF qI p0.1,lI p0.2.1,lF qI p0.2.2.1,lF qT p0.2.2.2])],1⟩) ?_ ?_
  ·rintro _ rfl
   refine .nil (.seqN ?_)
   rcases ifS hm with ⟨hc,hm⟩ | ⟨hc,hm⟩
   ·refine .cT R hc ?_
    refine .seq (.reg (.sa R (.sa R (.nil (.seqN (.ret (.seqR (.nlg (rL qI) 32 6 0 R R ?_))))))))
    obtain rfl:=oi hm
    exact WX.rt [1] (.inl R) Tryz.results34 (.tmp R (.tmp R .nil)) R (fun _ _ _ h=>h) ⟨⟨_,R,fun _ _ _ _ h=>h⟩,trivial⟩
   ·refine .cF R hc ?_
    refine .skip (.seqN (.seq (.seq (.reg (.op (O.faP y1g Z R R) R (.op (O.ld nag3 Z R (.B R) R R) R (.bi R (.nil (.seqN ?_)))))))))
    rcases ifS hm with ⟨hc,hm⟩ | ⟨hc,hm⟩
    ·refine .cT R hc ?_
     refine .seq (.reg (.sa R (.sa R (.nil (.seqN (.ret (.seqR (.nlg (rL qI) 32 6 0 R R ?_))))))))
     obtain rfl:=oi hm
     exact WX.rt [1] (.inl R) Tryz.results34 (.tmp R (.tmp R .nil)) R (fun _ _ _ h=>h) ⟨⟨_,R,fun _ _ _ _ h=>h⟩,trivial⟩
    ·refine .cF R hc ?_
     refine .skip (.seqN (.seq (.reg (.op (O.bu (l:=[lN,lI 0]) pl173 R Z R R R) R (.op (O.bsO (r:=rE173) (zs:=([(([]:List Int),0)]:List (List Int×Int))) 1 R bs174 R R Z R R R (.c (.p .n .k) .n) R R R) R (.sa R (.nil (.seqN (.seq (.seq (.reg (.sa R (.nil (.seqN (.block (bS hm fun o28 eo28 hm=>?_))))))))))))))))
     refine .cutU (z:= .exit 0) (fun u30=> .inl u30=o28) (fun (u30:(List (List Int×Int)))=>⟨[(9,.h 0),(3,.q 1 0),(2,.b p2)],[(0,ROW rE173 173 u30),(1,.bx 35 [lF qI p0.1,lI p0.2.1,lF qI p0.2.2.1,lF qT p0.2.2.2])],2⟩) ?_ fun K31=>?_
     ·rintro u30 rfl
      dsimp only at hm
      refine .blkE (.seqN (.seq (.reg (.sa R (.nil (.seqN (.seq (.seq (.reg (.mv R (.op (O.lenH sl174 Z R R R) R (.mv R (.nil (.seqN (.block (bS hm fun o45 eo45 hm=>?_))))))))))))))))
      refine .cut1 (z:= .exit 4) o45 (fun (o45:List (List Int))=>⟨[(13,.h 0)],[(0,ROW (rL qI) 32 o45)],1⟩) ?_ fun K47=>?_
      ·skip
       refine .blkE (.seqN (.seq (.reg (.mv R (.sa R (.sa R (.nil (.seqN (.ret ?_)))))))))
       obtain rfl:=oi hm
       exact WX.rt [0] (.inl R) Tryz.results34 (.tmp R (.tmp R .nil)) R (fun _ _ _ h=>h) ⟨⟨_,R,fun _ _ _ _ h=>h⟩,trivial⟩
      refine .nlg (rL qI) 32 13 0 R R (.iter (fun (st45:Int×List (List Int))=>⟨[(80,.i st45.1),(79,.i (u30.length:Int)),(78,.h 0),(13,.h 1),(3,.q 2 0),(2,.b p2)],[(0,ROW rE173 173 u30),(1,ROW (rL qI) 32 st45.2),(2,.bx 35 [lF qI p0.1,lI p0.2.1,lF qI p0.2.2.1,lF qT p0.2.2.2])],3⟩) eo45 [(1,2),(2,1)] R ?_)
      intro st45 res45 hm ih45 ho45
      unfold y3w at hm
      refine .seq (.reg (.bi R (.nil (.seqN (.seq ?_)))))
      rcases ifS hm with ⟨hc,hm⟩ | ⟨hc,hm⟩
      ·refine .cT R hc ?_
       refine .skip (.seqN ?_)
       refine .join1 (fun (l48:List (List Int))=>y3v st45 l48=some res45) (fun l48=>⟨[(13,.h 0),(80,.i st45.1),(79,.i (u30.length:Int)),(78,.h 1),(3,.q 2 0),(2,.b p2)],[(0,ROW (rL qI) 32 l48),(1,ROW rE173 173 u30),(2,.bx 35 [lF qI p0.1,lI p0.2.1,lF qI p0.2.2.1,lF qT p0.2.2.2])],3⟩) ?_ ?_
       ·intro l48 hm
        unfold y3v at hm
        exact .reg (.bi R (.mv R (.nil ((ih45 _ (oi hm).symm).sub [(0,1),(1,0)] R))))
       ·intro Jj49
        refine .block (.seq (.reg (bS hm fun x50 ex50 hm=> .op (O.ir sl174 Z R R R ex50 R) R (.op (O.lg (l':=[lF qI x50.1,lI x50.2]) ag173 Z R (.R R ex50 lv173) R R R) R (.op (O.al 3 R zz173 R Z R) R (.op (O.st ag173.sz Z R R R R R) R (.nil (.seqN (.seq (.reg (.mv R (.op (O.not Z R R) R (.mv R (bS hm fun b51 eb51 hm=>?_))))))))))))))
        refine .cut 6 (fun (v52:Bool)=>b51=v52) (fun v52=>⟨[(92,.b v52),(15,.q 3 0),(80,.i st45.1),(79,.i (u30.length:Int)),(78,.h 0),(13,.h 1),(3,.q 2 0),(2,.b p2)],[(3,.bx 173 [lF qI x50.1,lI x50.2]),(0,ROW rE173 173 u30),(1,ROW (rL qI) 32 st45.2),(2,.bx 35 [lF qI p0.1,lI p0.2.1,lF qI p0.2.2.1,lF qT p0.2.2.2])],4⟩) ?_ ?_
        ·rintro _ rfl
         refine .nil (.seqN ?_)
         rcases ifS hm with ⟨hc,hm⟩ | ⟨hc,hm⟩
         ·refine .cT R hc ?_
          exact .reg (.mv R (.op (O.b0O (r:=qI) 4 R bs32 R Z R) R (.op (O.faP ya1 Z R R) R (.op (O.ld nag32 Z R (.B R) R R) R (bS hm fun x54 ex54 hm=> .op (O.ap 5 Tryz.underlying32 el3 R R Z R R (.fr R) ex54 R) R (.fz 5 [97] [] R R fR R R (.op (O.bsF (r:=(rL qI)) (zs:=([x54]:List (List Int))) bs53 R R Z R R R (.c .l .n) R R R) R (bS hm fun x55 ex55 hm=> .op (O.ap 6 Tryz.underlying53 el32 R R Z R R (.fr R) ex55 R) R (.sa R (.nil (.blkN ((Jj49 _ hm).sub [(0,6),(1,0)] R))))))))))))
         ·refine .cF R hc ?_
          exact .skip (.blkN ((Jj49 _ hm).sub [(0,1),(1,0)] R))
        ·intro J53
         rcases ifS eb51 with ⟨hc,hm⟩ | ⟨hc,hm⟩
         ·refine .know (d:=86) R hc ?_
          exact .sk R (.sk R (.sk R (.sk R (.sk R (.op (O.pkT Z R R R R) R ((J53 true (oi hm).symm).sub [] R))))))
         ·refine .know (d:=86) R hc ?_
          exact .op (O.faP y2j (Gu.mk R R) R R) R (.op (O.ld nag32 (Gu.mk R R) R (.B R) R R) R (.op (O.faP ybv (Gu.mk R R) R R) R (.op (O.ld nag3 (Gu.mk R R) R (.B R) R R) R (bS hm fun r56 er56 hm=> .op (O.ca0 (yX er56) cf104 R R (Gu.mk R R) R R R) R (.op (O.pkF Z R R R R) R ((J53 r56 (oi hm).symm).sub [] R))))))
      ·refine .cF R hc ?_
       exact .exit (.seqX (.seqX ((K47 _ (ho45 _ (oi hm).symm)).sub [(0,1)] R)))
     refine .cutU (z:= .ret) (fun u57=> .inr (u57)=o28) (fun (u57:Unit)=>⟨[(7,.i 3),(6,.o (lN))],[],0⟩) ?_ fun K58=>?_
     ·rintro u57 rfl
      dsimp only at hm
      refine .blkR (.seqR (.nlg (rL qI) 32 6 0 R R ?_))
      obtain rfl:=oi hm
      exact WX.rt [0] (.inl R) Tryz.results34 (.tmp R (.tmp R .nil)) R (fun _ _ _ h=>h) ⟨⟨_,R,fun _ _ _ _ h=>h⟩,trivial⟩
     refine .iter (fun (st28:Int×(List (List Int×Int)))=>⟨[(10,.i st28.1),(9,.h 0),(3,.q 1 0),(1,.i p1),(2,.b p2)],[(0,ROW rE173 173 st28.2),(1,.bx 35 [lF qI p0.1,lI p0.2.1,lF qI p0.2.2.1,lF qT p0.2.2.2])],2⟩) eo28 [(0,1),(1,0)] R ?_
     intro st28 res28 hm ih28 ho28
     unfold y3x at hm
     refine .seq (.seq (.reg (.mv R (.mv R (.op (O.lenH sl174 Z R R R) R (.bi R (.nil (.seqN ?_))))))))
     rcases ifS hm with ⟨hc,hm⟩ | ⟨hc,hm⟩
     ·refine .cT R hc ?_
      refine .skip (.seqN (.seq (.block (.seq (.seq (.reg (.mv R (.mv R (bS hm fun x59 ex59 hm=> .op (O.ir sl174 Z R R R ex59 R) R (.op (O.faR ya1 Z R R) R (.op (O.ld nag32 Z R (.R R ex59 lv173) R R) R (.op (O.len sl32 Z R R) R (.mv R (.bi R (.nil (.seqN ?_))))))))))))))))
      rcases ifS hm with ⟨hc,hm⟩ | ⟨hc,hm⟩
      ·refine .cT R hc ?_
       exact .exit (.seqX (.blkX R (.seqX (.seqX ((K31 _ (ho28 _ (oi hm).symm)).sub [] R)))))
      ·refine .cF R hc ?_
       refine .skip (.seqN (.seq (.seq ?_)))
       refine .sub (τ:=⟨[(10,.i st28.1),(9,.h 0),(3,.q 1 0),(1,.i p1),(2,.b p2)],[(0,ROW rE173 173 st28.2),(1,.bx 35 [lF qI p0.1,lI p0.2.1,lF qI p0.2.2.1,lF qT p0.2.2.2])],2⟩) ?_ [] R
       refine bS hm fun x60 ex60 hm=>bS hm fun r61 er61 hm=>?_
       refine .drw [(2,[]),(2,[]),(2,[]),(2,[oF,oT,oT]),(2,fA 1 (tT 3)),(2,fA 1 (tT 4)),(2,tT 6),(2,tT 7),(2,[])] [_,_,_,_,_,_,_,_,_] ⟨[(54,.i 0),(53,.i (r61.length:Int)),(52,.f qT r61),(10,.i st28.1),(9,.h 0),(3,.q 1 0),(1,.i p1),(2,.b p2)],[(0,ROW rE173 173 st28.2),(1,.bx 35 [lF qI p0.1,lI p0.2.1,lF qI p0.2.2.1,lF qT p0.2.2.2])],2⟩ ⟨O.lg (l':=[lF qI p0.1,lI p0.2.1,lF qI p0.2.2.1,lF qT p0.2.2.2]) ag35 Z R (.B R) R R R,O.mv Z R R,O.mv Z R R,O.ir sl174 Z R R R ex60 R,O.faR ybv Z R R,O.ld nag3 Z R (.R R ex60 lv173) R R,O.ca0 (y5v er61) cf102 R R Z R R R,O.len sl33 Z R R,O.mv Z R R,trivial⟩ (by kernel_rfl) R ?_
       refine .seqN (.block (bS hm fun o71 eo71 hm=>?_))
       refine .cut1 (z:= .exit 2) o71 (fun (o71:(List (List Int×Int)))=>⟨[(10,.i st28.1),(9,.h 0),(3,.q 1 0),(1,.i p1),(2,.b p2)],[(0,ROW rE173 173 o71),(1,.bx 35 [lF qI p0.1,lI p0.2.1,lF qI p0.2.2.1,lF qT p0.2.2.2])],2⟩) ?_ fun K73=>?_
       ·skip
        refine .blkE (.seqN (.seq (.reg (.mv R (.op (O.lenH sl174 Z R R R) R (.bi R (.nil (.seqN ?_))))))))
        rcases ifS hm with ⟨hc,hm⟩ | ⟨hc,hm⟩
        ·refine .cT R hc ?_
         exact .seq (.reg (.sa R (.sa R (.nil (.seqN (.ret (.blkR (.seqR (.seqR ((K58 _ (ho28 _ (oi hm).symm)).sub [] R))))))))))
        ·refine .cF R hc ?_
         exact .skip (.blkN (.seqN (.reg (.mv R (.bi R (.sa R (.nil ((ih28 _ (oi hm).symm).sub [] R))))))))
       refine .iter (fun (st71:Int×(List (List Int×Int)))=>⟨[(54,.i st71.1),(53,.i (r61.length:Int)),(52,.f qT r61),(10,.i st28.1),(9,.h 0),(3,.q 1 0),(1,.i p1),(2,.b p2)],[(0,ROW rE173 173 st71.2),(1,.bx 35 [lF qI p0.1,lI p0.2.1,lF qI p0.2.2.1,lF qT p0.2.2.2])],2⟩) eo71 [] R ?_
       intro st71 res71 hm ih71 ho71
       unfold y2I at hm
       refine .seq (.reg (.bi R (.nil (.seqN (.seq ?_)))))
       rcases ifS hm with ⟨hc,hm⟩ | ⟨hc,hm⟩
       ·refine .cT R hc ?_
        refine .skip (.seqN (.seq (.block (.seq (.reg (bS hm fun x74 ex74 hm=> .op (O.ix sl33 Z R R ex74 R) R (.op (O.lg (l':=[lI x74.1,lI x74.2.1,lI x74.2.2]) ag124 Z R (.E lv124) R R R) R (.op (O.al 2 R zz124 R Z R) R (.op (O.st ag124.sz Z R R R R R) R (.nil (.seqN ?_)))))))))))
        refine .sub (τ:=⟨[(12,.q 2 0),(54,.i st71.1),(53,.i (r61.length:Int)),(52,.f qT r61),(10,.i st28.1),(9,.h 0),(3,.q 1 0),(1,.i p1),(2,.b p2)],[(2,.bx 124 [lI x74.1,lI x74.2.1,lI x74.2.2]),(0,ROW rE173 173 st71.2),(1,.bx 35 [lF qI p0.1,lI p0.2.1,lF qI p0.2.2.1,lF qT p0.2.2.2])],3⟩) ?_ [] R
        refine bS hm fun x75 ex75 hm=>bS hm fun r76 er76 hm=>bS hm fun x77 ex77 hm=>bS hm fun x78 ex78 hm=>?_
        refine .drz 5 [(6,3)] [(3,[],[],[]),(3,[],[],[]),(3,[],[],[]),(3,[oF,oT,oT],[],[]),(3,[oF,oT,oT,oT],[],[]),(3,[oF,oT,oT,oT,oT],[],[]),(3,[oF,oT,oT,oT,oT,oT],[],[]),(3,[],[],[]),(3,[oF,oF,oF,oF,oF,oF,oF,oT],[],[]),(3,[oF,oF,oF,oF,oF,oF,oF,oT,oT],[],[]),(4,[oF,oT,oT,oT,oT,oT,oT,oT,oT,oT],[],[]),(3,[],[],[]),(3,[oF,oF,oF,oF,oF,oF,oF,oF,oF,oF,oF,oT],[],[]),(4,[oF,oT,oT,oT,oT,oT,oT,oT,oT,oT,oT,oT,oT],[],[(6,3)]),(4,[oF,oT,oT,oT,oT,oT,oT,oT,oT,oT,oT,oT,oT,oT],[],[(6,3)]),(4,[oT,oT,oT,oT,oT,oT,oT,oT,oT,oT,oT,oT,oT,oT,oT],[],[(6,3)]),(5,[oT,oT,oT,oT,oT,oT,oT,oT,oT,oT,oT,oT,oT,oT,oT,oT],[],[(6,3)])] [_,_,_,_,_,_,_,_,_,_,_,_,_,_,_,_,_] ⟨[(9,.h 4),(54,.i st71.1),(53,.i (r61.length:Int)),(52,.f qT r61),(10,.i st28.1),(3,.q 1 0),(1,.i p1),(2,.b p2)],[(4,ROW rE173 173 x78),(1,.bx 35 [lF qI p0.1,lI p0.2.1,lF qI p0.2.2.1,lF qT p0.2.2.2])],5⟩ ⟨O.mv Z R R,O.mv Z R R,O.mv Z R R,O.ir sl174 Z R R R ex75 R,O.faR ya1 Z R R,O.ld nag32 Z R (.R R ex75 lv173) R R,O.ca (r':= .h 3) [3] [(0,ROW qI 3 r76)] (some 4) (y2B er76) cf103 R R Z R R R R ⟨⟨_,R,fun _ _ _ _ h=>h⟩,trivial⟩ (fun _ _ _ h=>h) R,O.faP y3B Z R R,O.ld nag3 Z R (.B R) R R,O.bsF (r:=qI) (zs:=([x74.2.1]:List Int)) bs32 R R Z R R R (.c .k .n) R R R,O.apZ Tryz.underlying32 el3 R Z R R (.fr R) ex77 R,O.faP y2b Z R R,O.ld nag3 Z R (.B R) R R,O.bu (l:=[lF qI x77,lI x74.2.2]) pl173 R Z R R R,O.bsF (r:=rE173) (zs:=([(x77,x74.2.2)]:List (List Int×Int))) bs174 R R Z R R R (.c (.p .l .k) .n) R R R,O.ap 4 Tryz.underlying174 el173 R R Z R R (.fr R) ex78 R,O.as Z R R,trivial⟩ (by kernel_rfl) R ?_
        exact .blkN (.seqN (.reg (.bi R (.mv R (.nil ((ih71 _ (oi hm).symm).sub [(0,4)] R))))))
       ·refine .cF R hc ?_
        exact .exit (.seqX (.seqX ((K73 _ (ho71 _ (oi hm).symm)).sub [] R)))
     ·refine .cF R hc ?_
      exact .exit (.seqX (.seqX ((K31 _ (ho28 _ (oi hm).symm)).sub [] R)))
  ·intro J3
   rcases Bool.eq_false_or_eq_true (decide (p1 < 0)) with hc | hc
   ·refine .know (d:=23) R hc ?_
    exact .sk R (.sk R (.op (O.pkT Z R R R R) R ((J3 true (orT hc).symm).sub [] R)))
   ·refine .know (d:=23) R hc ?_
    exact .op (O.mv (Gu.mk R R) R R) R (.op (O.bi (Gu.mk R R) R R R R) R (.op (O.pkF Z R R R R) R ((J3 (decide (p1 > 4096)) (orF hc).symm).sub [] R)))
def y4A (p0:AutT) (p1:Int):Option Int:=
 (yt p0).bind fun r1=>
 if(r1 != 0) then
  some r1
 else
  if((decide (p1 < 0)) || (decide (p1≥p0.2.1))) then
   some 2
  else
   some 0
theorem y6W {p0:AutT} {p1:Int} {r:Int} (hm:y4A p0 p1=some r):
  Fw Tryz.prog 105 ⟨0,[]⟩ [.a [lF qI p0.1,lI p0.2.1,lF qI p0.2.2.1,lF qT p0.2.2.2],.i p1] [] (.i r) []:=by
 unfold y4A at hm
 refine Fw.mk' Tryz.func105 R Tryz.ntmps105 R R (fun C=>?_) R R
 refine .seq (.reg (.op (O.box 0 R Z R R R) R (.sa R (.nil (.seqN (.seq (.seq (.reg (.op (O.lg (l':=[lF qI p0.1,lI p0.2.1,lF qI p0.2.2.1,lF qT p0.2.2.2]) ag35 Z R (.B R) R R R) R (bS hm fun r1 er1 hm=> .op (O.ca0 (y1B er1) cf101 R R Z R R R) R (.sa R (.nil (.seqN (.seq (.reg (.mv R (.bi R (.nil (.seqN ?_)))))))))))))))))))
 rcases ifS hm with ⟨hc,hm⟩ | ⟨hc,hm⟩
 ·refine .cT R hc ?_
  refine .seq (.reg (.mv R (.sa R (.nil (.seqN (.ret (.seqR ?_)))))))
  obtain rfl:=oi hm
  exact WX.rt [] (.inl R) Tryz.results105 (.tmp R .nil) R (fun _ _ _ h=>h) trivial
 ·refine .cF R hc ?_
  refine .skip (.seqN (.seq (.seq (.reg (.mv R (.bi R (.mv R ?_)))))))
  refine .cut 5 (fun (v2:Bool)=>((decide (p1 < 0)) || (decide (p1≥p0.2.1)))=v2) (fun v2=>⟨[(18,.b v2)],[],1⟩) ?_ ?_
  ·rintro _ rfl
   refine .nil (.seqN ?_)
   rcases ifS hm with ⟨hc,hm⟩ | ⟨hc,hm⟩
   ·refine .cT R hc ?_
    refine .seq (.reg (.sa R (.nil (.seqN (.ret (.seqR ?_))))))
    obtain rfl:=oi hm
    exact WX.rt [] (.inl R) Tryz.results105 (.tmp R .nil) R (fun _ _ _ h=>h) trivial
   ·refine .cF R hc ?_
    refine .skip (.seqN (.seq (.reg (.sa R (.nil (.seqN (.ret ?_)))))))
    obtain rfl:=oi hm
    exact WX.rt [] (.inl R) Tryz.results105 (.tmp R .nil) R (fun _ _ _ h=>h) trivial
  ·intro J3
   rcases Bool.eq_false_or_eq_true (decide (p1 < 0)) with hc | hc
   ·refine .know (d:=13) R hc ?_
    exact .sk R (.sk R (.sk R (.sk R (.op (O.pkT Z R R R R) R ((J3 true (orT hc).symm).sub [] R)))))
   ·refine .know (d:=13) R hc ?_
    exact .op (O.mv (Gu.mk R R) R R) R (.op (O.faP y1g (Gu.mk R R) R R) R (.op (O.ld nag3 (Gu.mk R R) R (.B R) R R) R (.op (O.bi (Gu.mk R R) R R R R) R (.op (O.pkF Z R R R R) R ((J3 (decide (p1≥p0.2.1)) (orF hc).symm).sub [] R)))))
def y4E (q0:AutT) (p0:Int):Option Bool:=
 (yj q0.1 p0).bind fun r1=>
 some (!r1)
theorem y8t {q0:AutT} {p0:Int} {r:Bool} (hm:y4E q0 p0=some r):
  Fw Tryz.prog 107 ⟨0,[]⟩ [.i p0,.o (lQ 35 [lF qI q0.1,lI q0.2.1,lF qI q0.2.2.1,lF qT q0.2.2.2] 0)] [] (.b r) []:=by
 unfold y4E at hm
 refine Fw.mk' Tryz.func107 R Tryz.ntmps107 R R (fun C=>?_) R R
 refine .seq (.reg (.sa R (.nil (.seqN (.seq (.reg (.op (O.faQ y1z Z R R) R (.op (O.ld nag32 Z R .Q R R) R (.mv R (bS hm fun r1 er1 hm=> .op (O.ca0 (yX er1) cf104 R R Z R R R) R (.op (O.not Z R R) R (.sa R (.nil (.seqN (.ret ?_)))))))))))))))
 obtain rfl:=oi hm
 exact WX.rt [] (.inl R) Tryz.results107 (.tmp R .nil) R (fun _ _ _ h=>h) trivial
def y4j (p0:List Int) (p1:Int→Option Bool):Option Bool:=
 (y2c p0 p1).bind fun r1=>
 some (decide (r1≥0))
theorem y6x {p0:List Int} {p1:Int→Option Bool} {r:Bool} (hm:y4j p0 p1=some r):
  Fw Tryz.prog 106 ⟨0,[]⟩ [.f qI p0,.o (lW Tryz.prog (fun (x:Int)=> [.i x]) (fun (r:Bool)=> .b r) p1)] [] (.b r) []:=by
 unfold y4j at hm
 refine Fw.mk' Tryz.func106 R Tryz.ntmps106 R R (fun C=>?_) R R
 refine .seq (.reg (.sa R (.nil (.seqN (.seq (.reg (.mv R (.mv R (bS hm fun r1 er1 hm=> .op (O.ca0 (y5g er1) cf136 R R Z R R R) R (.bi R (.sa R (.nil (.seqN (.ret ?_))))))))))))))
 obtain rfl:=oi hm
 exact WX.rt [] (.inl R) Tryz.results106 (.tmp R .nil) R (fun _ _ _ h=>h) trivial
def y3S (q0:Int) (p0:Int×Int×Int):Option Bool:=
 some (p0.2.1 == q0)
theorem y8b {q0:Int} {p0:Int×Int×Int} {r:Bool} (hm:y3S q0 p0=some r):
  Fw Tryz.prog 213 ⟨0,[]⟩ [.a [lI p0.1,lI p0.2.1,lI p0.2.2],.o (lQ 3 [lI q0] 0)] [] (.b r) []:=by
 unfold y3S at hm
 refine Fw.mk' Tryz.func213 R Tryz.ntmps213 R R (fun C=>?_) R R
 refine .seq (.reg (.op (O.box 0 R Z R R R) R (.sa R (.nil (.seqN (.seq (.reg (.op (O.faP y3B Z R R) R (.op (O.ld nag3 Z R (.B R) R R) R (.op (O.ld nag3 Z R .Q R R) R (.bi R (.sa R (.nil (.seqN (.ret ?_)))))))))))))))
 obtain rfl:=oi hm
 exact WX.rt [] (.inl R) Tryz.results213 (.tmp R .nil) R (fun _ _ _ h=>h) trivial
def y4n (p0:AutT) (p1:Int) (p2:Int):Option Int:=
 (y2N p0 p1).bind fun r1=>
 (y1U r1 (y3S p2)).bind fun r2=>
 if decide (r2 < 0) then
  some (-1)
 else
  (idx r1 r2).bind fun x3=>
  some x3.2.2
theorem y8E {p0:AutT} {p1:Int} {p2:Int} {r:Int} (hm:y4n p0 p1 p2=some r):
  Fw Tryz.prog 170 ⟨0,[]⟩ [.a [lF qI p0.1,lI p0.2.1,lF qI p0.2.2.1,lF qT p0.2.2.2],.i p1,.i p2] [] (.i r) []:=by
 unfold y4n at hm
 refine Fw.mk' Tryz.func170 R Tryz.ntmps170 R R (fun C=>?_) R R
 refine .seq (.reg (.op (O.box 0 R Z R R R) R (.op (O.box 1 R Z R R R) R (.sa R (.nil (.seqN (.seq (.reg (.op (O.lg (l':=[lF qI p0.1,lI p0.2.1,lF qI p0.2.2.1,lF qT p0.2.2.2]) ag35 Z R (.B R) R R R) R (.mv R (bS hm fun r1 er1 hm=> .op (O.ca0 (y5v er1) cf102 R R Z R R R) R (.sa R (.nil (.seqN (.seq (.reg (.mv R (.fz 1 [5] [] R R fB R R (.op (O.mf (args:=(fun (x:(Int×Int×Int))=> [.a [lI x.1,lI x.2.1,lI x.2.2]])) (res:=(fun (r:Bool)=> .b r)) (m:=(y3S p2)) cf213 (fun x r h=>y8b h) (fun _=>R) R Z R R) R (bS hm fun r2 er2 hm=> .op (O.ca0 (y4Z er2) cf140 R R Z R R R) R (.sa R (.nil (.seqN (.seq (.seq (.reg (.mv R (.bi R (.nil (.seqN ?_))))))))))))))))))))))))))))))
 rcases ifS hm with ⟨hc,hm⟩ | ⟨hc,hm⟩
 ·refine .cT R hc ?_
  refine .seq (.reg (.sa R (.nil (.seqN (.ret (.seqR ?_))))))
  obtain rfl:=oi hm
  exact WX.rt [] (.inl R) Tryz.results170 (.tmp R .nil) R (fun _ _ _ h=>h) trivial
 ·refine .cF R hc ?_
  refine .skip (.seqN (.seq (.reg (.mv R (.mv R (bS hm fun x3 ex3 hm=> .op (O.ix sl33 Z R R ex3 R) R (.op (O.faE y2b Z R R) R (.op (O.ld nag3 Z R (.E lv124) R R) R (.sa R (.nil (.seqN (.ret ?_))))))))))))
  obtain rfl:=oi hm
  exact WX.rt [] (.inl R) Tryz.results170 (.tmp R .nil) R (fun _ _ _ h=>h) trivial
def y3i (p0:AutT) (p2:List Int) (st7:Int×Int):Option ((Int×Int) ⊕ (Int ⊕ (Int×Int))):=
 if decide (st7.1 < (p2.length:Int)) then
  (idx p2 st7.1).bind fun x15=>
  (y4n p0 st7.2 x15).bind fun r16=>
  if decide (r16 < 0) then
   some (.inr (.inr (st7)))
  else
   some (.inl (W (st7.1 + 1),r16))
 else
  some (.inr (.inl st7.2))
def y3j (p0:AutT) (p1:Int) (p2:List Int):Option (Int×Int):=
 (iter (y3i p0 p2) (0,p1)).bind fun o7=>
 match o7 with
 | .inl u11=>
  some (u11,(p2.length:Int))
 | .inr (u13)=>
  some (u13.2,u13.1)
theorem y6f {p0:AutT} {p1:Int} {p2:List Int} {r:Int×Int} (hm:y3j p0 p1 p2=some r):
  Fw Tryz.prog 108 ⟨0,[]⟩ [.a [lF qI p0.1,lI p0.2.1,lF qI p0.2.2.1,lF qT p0.2.2.2],.i p1,.f qI p2] [] (.tp [.i r.1,.i r.2]) []:=by
 unfold y3j at hm
 refine Fw.mk' Tryz.func108 R Tryz.ntmps108 R R (fun C=>?_) R R
 refine .seq (.reg (.op (O.box 0 R Z R R R) R (.sa R (.sa R (.nil (.seqN (.seq (.seq (.reg (.mv R (.op (O.len sl32 Z R R) R (.mv R (.nil (.seqN (.block (bS hm fun o7 eo7 hm=>?_))))))))))))))))
 refine .cutU (z:= .exit 0) (fun u11=> .inl u11=o7) (fun (u11:Int)=>⟨[(1,.i u11),(2,.f qI p2)],[],0⟩) ?_ fun K12=>?_
 ·rintro u11 rfl
  dsimp only at hm
  refine .blkE (.seqN (.seq (.reg (.mv R (.mv R (.op (O.len sl32 Z R R) R (.sa R (.sa R (.nil (.seqN (.ret ?_)))))))))))
  obtain rfl:=oi hm
  exact WX.rt [] (.inl R) Tryz.results108 (.tmp R (.tmp R .nil)) R (fun _ _ _ h=>h) trivial
 refine .cutU (z:= .ret) (fun u13=> .inr (u13)=o7) (fun (u13:Int×Int)=>⟨[(7,.i u13.1),(6,.i u13.2)],[],0⟩) ?_ fun K14=>?_
 ·rintro u13 rfl
  dsimp only at hm
  refine .blkR (.seqR ?_)
  obtain rfl:=oi hm
  exact WX.rt [] (.inl R) Tryz.results108 (.tmp R (.tmp R .nil)) R (fun _ _ _ h=>h) trivial
 refine .iter (fun (st7:Int×Int)=>⟨[(13,.i st7.1),(12,.i (p2.length:Int)),(11,.f qI p2),(3,.q 0 0),(1,.i st7.2),(2,.f qI p2)],[(0,.bx 35 [lF qI p0.1,lI p0.2.1,lF qI p0.2.2.1,lF qT p0.2.2.2])],1⟩) eo7 [] R ?_
 intro st7 res7 hm ih7 ho7
 unfold y3i at hm
 refine .seq (.reg (.bi R (.nil (.seqN (.seq ?_)))))
 rcases ifS hm with ⟨hc,hm⟩ | ⟨hc,hm⟩
 ·refine .cT R hc ?_
  refine .skip (.seqN (.seq (.block (.seq (.reg (.mv R (bS hm fun x15 ex15 hm=> .op (O.ix sl32 Z R R ex15 R) R (.op (O.ld nag3 Z R (.E lv3) R R) R (.sa R (.sa R (.nil (.seqN (.seq (.reg (.op (O.lg (l':=[lF qI p0.1,lI p0.2.1,lF qI p0.2.2.1,lF qT p0.2.2.2]) ag35 Z R (.B R) R R R) R (.mv R (.mv R (bS hm fun r16 er16 hm=> .op (O.ca0 (y8E er16) cf170 R R Z R R R) R (.sa R (.nil (.seqN (.seq (.seq (.reg (.mv R (.bi R (.nil (.seqN ?_))))))))))))))))))))))))))))
  rcases ifS hm with ⟨hc,hm⟩ | ⟨hc,hm⟩
  ·refine .cT R hc ?_
   exact .seq (.reg (.mv R (.mv R (.sa R (.sa R (.nil (.seqN (.ret (.seqR (.blkR (.seqR (.seqR ((K14 _ (ho7 _ (oi hm).symm)).sub [] R)))))))))))))
  ·refine .cF R hc ?_
   exact .skip (.seqN (.reg (.mv R (.sa R (.nil (.blkN (.seqN (.reg (.bi R (.mv R (.nil ((ih7 _ (oi hm).symm).sub [] R))))))))))))
 ·refine .cF R hc ?_
  exact .exit (.seqX (.seqX ((K12 _ (ho7 _ (oi hm).symm)).sub [] R)))
def y6g (p0:AutT) (p1:Int) (p2:List Int):Option (Int×Int×Int):=
 (y4A p0 p1).bind fun r1=>
 if(r1 != 0) then
  some (0,0,r1)
 else
  (y4j p2 (y4E p0)).bind fun r2=>
  if r2 then
   some (0,0,9)
  else
   (y3j p0 p1 p2).bind fun r3=>
   some (r3.1,r3.2,0)
theorem y8T {p0:AutT} {p1:Int} {p2:List Int} {r:Int×Int×Int} (hm:y6g p0 p1 p2=some r):
  Fw Tryz.prog 35 ⟨0,[]⟩ [.a [lF qI p0.1,lI p0.2.1,lF qI p0.2.2.1,lF qT p0.2.2.2],.i p1,.f qI p2] [] (.tp [.i r.1,.i r.2.1,.i r.2.2]) []:=by
 unfold y6g at hm
 refine Fw.mk' Tryz.func35 R Tryz.ntmps35 R R (fun C=>?_) R R
 refine .seq (.reg (.op (O.box 0 R Z R R R) R (.sa R (.sa R (.sa R (.nil (.seqN (.seq (.seq (.reg (.op (O.lg (l':=[lF qI p0.1,lI p0.2.1,lF qI p0.2.2.1,lF qT p0.2.2.2]) ag35 Z R (.B R) R R R) R (.mv R (bS hm fun r1 er1 hm=> .op (O.ca0 (y6W er1) cf105 R R Z R R R) R (.sa R (.nil (.seqN (.seq (.reg (.mv R (.bi R (.nil (.seqN ?_))))))))))))))))))))))
 rcases ifS hm with ⟨hc,hm⟩ | ⟨hc,hm⟩
 ·refine .cT R hc ?_
  refine .seq (.reg (.mv R (.sa R (.sa R (.sa R (.nil (.seqN (.ret (.seqR ?_)))))))))
  obtain rfl:=oi hm
  exact WX.rt [] (.inl R) Tryz.results35 (.tmp R (.tmp R (.tmp R .nil))) R (fun _ _ _ h=>h) trivial
 ·refine .cF R hc ?_
  refine .skip (.seqN (.seq (.seq (.reg (.mv R (.fz 0 [3] [] R R fB R R (.op (O.mf (args:=(fun (x:Int)=> [.i x])) (res:=(fun (r:Bool)=> .b r)) (m:=(y4E p0)) cf107 (fun x r h=>y8t h) (fun _=>R) R Z R R) R (bS hm fun r2 er2 hm=> .op (O.ca0 (y6x er2) cf106 R R Z R R R) R (.nil (.seqN ?_))))))))))
  rcases ifS hm with ⟨hc,hm⟩ | ⟨hc,hm⟩
  ·refine .cT R hc ?_
   refine .seq (.reg (.sa R (.sa R (.sa R (.nil (.seqN (.ret (.seqR ?_))))))))
   obtain rfl:=oi hm
   exact WX.rt [] (.inl R) Tryz.results35 (.tmp R (.tmp R (.tmp R .nil))) R (fun _ _ _ h=>h) trivial
  ·refine .cF R hc ?_
   refine .skip (.seqN (.seq (.reg (.op (O.lg (l':=[lF qI p0.1,lI p0.2.1,lF qI p0.2.2.1,lF qT p0.2.2.2]) ag35 Z R .Q R R R) R (.mv R (.mv R (bS hm fun r3 er3 hm=> .op (O.ca0 (y6f er3) cf108 R R Z R R R) R (.mv R (.op (O.ex Z R R R) R (.op (O.ex Z R R R) R (.sa R (.sa R (.nil (.seqN (.seq (.reg (.mv R (.mv R (.sa R (.sa R (.sa R (.nil (.seqN (.ret ?_))))))))))))))))))))))))
   obtain rfl:=oi hm
   exact WX.rt [] (.inl R) Tryz.results35 (.tmp R (.tmp R (.tmp R .nil))) R (fun _ _ _ h=>h) trivial
def y4p (p0:AutT) (p1:List Int):Option (Int×Bool):=
 if(p0.2.1 == 0) then
  some (0,false)
 else
  (y3j p0 0 p1).bind fun r1=>
  some (r1.1,(r1.2 == (p1.length:Int)))
theorem y7N {p0:AutT} {p1:List Int} {r:Int×Bool} (hm:y4p p0 p1=some r):
  Fw Tryz.prog 111 ⟨0,[]⟩ [.a [lF qI p0.1,lI p0.2.1,lF qI p0.2.2.1,lF qT p0.2.2.2],.f qI p1] [] (.tp [.i r.1,.b r.2]) []:=by
 unfold y4p at hm
 refine Fw.mk' Tryz.func111 R Tryz.ntmps111 R R (fun C=>?_) R R
 refine .seq (.reg (.op (O.box 0 R Z R R R) R (.sa R (.sa R (.nil (.seqN (.seq (.seq (.reg (.op (O.faP y1g Z R R) R (.op (O.ld nag3 Z R (.B R) R R) R (.bi R (.nil (.seqN ?_))))))))))))))
 rcases ifS hm with ⟨hc,hm⟩ | ⟨hc,hm⟩
 ·refine .cT R hc ?_
  refine .seq (.reg (.sa R (.sa R (.nil (.seqN (.ret (.seqR ?_)))))))
  obtain rfl:=oi hm
  exact WX.rt [] (.inl R) Tryz.results111 (.tmp R (.tmp R .nil)) R (fun _ _ _ h=>h) trivial
 ·refine .cF R hc ?_
  refine .skip (.seqN (.seq (.reg (.op (O.lg (l':=[lF qI p0.1,lI p0.2.1,lF qI p0.2.2.1,lF qT p0.2.2.2]) ag35 Z R (.B R) R R R) R (.mv R (bS hm fun r1 er1 hm=> .op (O.ca0 (y6f er1) cf108 R R Z R R R) R (.mv R (.op (O.ex Z R R R) R (.op (O.ex Z R R R) R (.sa R (.sa R (.nil (.seqN (.seq (.reg (.mv R (.mv R (.mv R (.op (O.len sl32 Z R R) R (.bi R (.sa R (.sa R (.nil (.seqN (.ret ?_)))))))))))))))))))))))))
  obtain rfl:=oi hm
  exact WX.rt [] (.inl R) Tryz.results111 (.tmp R (.tmp R .nil)) R (fun _ _ _ h=>h) trivial
def y3k (p0:AutT) (p1:List Int):Option (Bool×Int):=
 (yt p0).bind fun r1=>
 if(r1 != 0) then
  some (false,r1)
 else
  (y4p p0 p1).bind fun r2=>
  some (r2.2,0)
theorem y7d {p0:AutT} {p1:List Int} {r:Bool×Int} (hm:y3k p0 p1=some r):
  Fw Tryz.prog 38 ⟨0,[]⟩ [.a [lF qI p0.1,lI p0.2.1,lF qI p0.2.2.1,lF qT p0.2.2.2],.f qI p1] [] (.tp [.b r.1,.i r.2]) []:=by
 unfold y3k at hm
 refine Fw.mk' Tryz.func38 R Tryz.ntmps38 R R (fun C=>?_) R R
 refine .seq (.reg (.op (O.box 0 R Z R R R) R (.sa R (.sa R (.nil (.seqN (.seq (.seq (.reg (.op (O.lg (l':=[lF qI p0.1,lI p0.2.1,lF qI p0.2.2.1,lF qT p0.2.2.2]) ag35 Z R (.B R) R R R) R (bS hm fun r1 er1 hm=> .op (O.ca0 (y1B er1) cf101 R R Z R R R) R (.sa R (.nil (.seqN (.seq (.reg (.mv R (.bi R (.nil (.seqN ?_))))))))))))))))))))
 rcases ifS hm with ⟨hc,hm⟩ | ⟨hc,hm⟩
 ·refine .cT R hc ?_
  refine .seq (.reg (.mv R (.sa R (.sa R (.nil (.seqN (.ret (.seqR ?_))))))))
  obtain rfl:=oi hm
  exact WX.rt [] (.inl R) Tryz.results38 (.tmp R (.tmp R .nil)) R (fun _ _ _ h=>h) trivial
 ·refine .cF R hc ?_
  refine .skip (.seqN (.seq (.reg (.op (O.lg (l':=[lF qI p0.1,lI p0.2.1,lF qI p0.2.2.1,lF qT p0.2.2.2]) ag35 Z R (.B R) R R R) R (.mv R (bS hm fun r2 er2 hm=> .op (O.ca0 (y7N er2) cf111 R R Z R R R) R (.mv R (.op (O.ex Z R R R) R (.op (O.ex Z R R R) R (.sa R (.sa R (.nil (.seqN (.seq (.reg (.mv R (.sa R (.sa R (.nil (.seqN (.ret ?_)))))))))))))))))))))
  obtain rfl:=oi hm
  exact WX.rt [] (.inl R) Tryz.results38 (.tmp R (.tmp R .nil)) R (fun _ _ _ h=>h) trivial
def y4t :Option AutT:=
 some (([0,2]:List Int),3,([2]:List Int),([(0,0,2),(0,2,0),(2,2,0)]:List (Int×Int×Int)))
theorem y6H {r:AutT} (hm:y4t=some r):
  Fw Tryz.prog 174 ⟨0,[]⟩ [] [] (.g [lF qI r.1,lI r.2.1,lF qI r.2.2.1,lF qT r.2.2.2]) []:=by
 unfold y4t at hm
 refine Fw.mk' Tryz.func174 R Tryz.ntmps174 R R (fun C=>?_) R R
 refine .seq (.reg (.op (O.al 0 R zz35 R Z R) R (.nil (.seqN (.seq (.reg (.op (O.bsF (r:=qI) (zs:=([0,2]:List Int)) bs32 R R Z R R R (.c .k (.c .k .n)) R R R) R (.op (O.bsF (r:=qI) (zs:=([2]:List Int)) bs32 R R Z R R R (.c .k .n) R R R) R (.op (O.bu (l:=[lI 0,lI 0,lI 2]) pl124 R Z R R R) R (.op (O.bu (l:=[lI 0,lI 2,lI 0]) pl124 R Z R R R) R (.op (O.bu (l:=[lI 2,lI 2,lI 0]) pl124 R Z R R R) R (.op (O.bsF (r:=qT) (zs:=([(0,0,2),(0,2,0),(2,2,0)]:List (Int×Int×Int))) bs33 R R Z R R R (.c (.p .k (.p .k .k)) (.c (.p .k (.p .k .k)) (.c (.p .k (.p .k .k)) .n))) R R R) R (.op (O.bu (l:=[lF qI ([0,2]:List Int),lI 3,lF qI ([2]:List Int),lF qT ([(0,0,2),(0,2,0),(2,2,0)]:List (Int×Int×Int))]) pl35 R Z R R R) R (.op (O.st ag35.sz Z R R R R R) R (.nil (.seqN (.ret ?_)))))))))))))))))
 obtain rfl:=oi hm
 exact WX.rt [] (.inl R) Tryz.results174 (.cell R R ag35 R .nil) R (fun _ _ _ h=>h) trivial
def y3y (st64:Int×List Int×List Int×List Int×EdgL) (st91:Int×List Int×List Int×EdgL) (x96:Int×Int×Int) (l97:List Int) (l98:List Int):Option ((Int×List Int×List Int×EdgL) ⊕ (List Int×List Int×EdgL)):=
 (idx l98 x96.2.2).bind fun x100=>
 (app st91.2.2.2 ([(st64.1,x96.2.1,x100)]:List (Int×Int×Int))).bind fun x101=>
 some (.inl (W (st91.1 + 1),l97,l98,x101))
def y5j (st64:Int×List Int×List Int×List Int×EdgL) (r72:EdgL) (st91:Int×List Int×List Int×EdgL):Option ((Int×List Int×List Int×EdgL) ⊕ (List Int×List Int×EdgL)):=
 if decide (st91.1 < (r72.length:Int)) then
  (idx r72 st91.1).bind fun x96=>
  (idx st91.2.2.1 x96.2.2).bind fun x102=>
  if decide (x102 < 0) then
   (idx st91.2.2.1 x96.2.2).bind fun x103=>
   (upd st91.2.2.1 x96.2.2 (st91.2.1.length:Int)).bind fun x104=>
   (app st91.2.1 ([x96.2.2]:List Int)).bind fun x105=>
   y3y st64 st91 x96 x105 x104
  else
   y3y st64 st91 x96 st91.2.1 st91.2.2.1
 else
  some (.inr st91.2)
def y3z (p0:AutT) (st64:Int×List Int×List Int×List Int×EdgL) (l69:List Int):Option ((Int×List Int×List Int×List Int×EdgL) ⊕ (List Int×List Int×EdgL)):=
 (idx st64.2.1 st64.1).bind fun x71=>
 (y2N p0 x71).bind fun r72=>
 (iter (y5j st64 r72) (0,st64.2.1,st64.2.2.1,st64.2.2.2.2)).bind fun o91=>
 some (.inl (W (st64.1 + 1),o91.1,o91.2.1,l69,o91.2.2))
def y5k (p0:AutT) (st64:Int×List Int×List Int×List Int×EdgL):Option ((Int×List Int×List Int×List Int×EdgL) ⊕ (List Int×List Int×EdgL)):=
 if decide (st64.1 < (st64.2.1.length:Int)) then
  (idx st64.2.1 st64.1).bind fun x106=>
  (y2k p0.2.2.1 x106).bind fun r107=>
  if r107.2 then
   (app st64.2.2.2.1 ([st64.1]:List Int)).bind fun x108=>
   y3z p0 st64 x108
  else
   y3z p0 st64 st64.2.2.2.1
 else
  some (.inr (st64.2.1,st64.2.2.2))
def y5l (x2:List Int) (st9:Int×List Int):Option ((Int×List Int) ⊕ (List Int)):=
 if decide (st9.1 < (x2.length:Int)) then
  (idx st9.2 st9.1).bind fun x109=>
  (upd st9.2 st9.1 (-1)).bind fun x110=>
  some (.inl (W (st9.1 + 1),x110))
 else
  some (.inr st9.2)
def y3W (p0:AutT):Option AutT:=
 (yS p0.1).bind fun r1=>
 if(p0.2.1 == 0) then
  some (r1,0,([]:List Int),([]:List (Int×Int×Int)))
 else
  (mkL p0.2.1 (0:Int)).bind fun x2=>
  (iter (y5l x2) (0,x2)).bind fun o9=>
  (idx o9 0).bind fun x12=>
  (upd o9 0 0).bind fun x13=>
  (iter (y5k p0) (0,([0]:List Int),x13,([]:List Int),([]:List (Int×Int×Int)))).bind fun o64=>
  some (r1,(o64.1.length:Int),o64.2)
theorem y5s {p0:AutT} {r:AutT} (hm:y3W p0=some r):
  Fw Tryz.prog 178 ⟨0,[]⟩ [.a [lF qI p0.1,lI p0.2.1,lF qI p0.2.2.1,lF qT p0.2.2.2]] [] (.g [lH 0,lI r.2.1,lH 1,lH 2]) [ROW qI 3 r.1,ROW qI 3 r.2.2.1,ROW qT 124 r.2.2.2]:=by
 unfold y3W at hm
 refine Fw.mk' Tryz.func178 R Tryz.ntmps178 R R (fun C=>?_) R R
 refine .seq (.reg (.op (O.box 0 R Z R R R) R (.op (O.al 1 R zz35 R Z R) R (.nil (.seqN (.seq (.reg (.op (O.faP y1z Z R R) R (.op (O.ld nag32 Z R (.B R) R R) R (bS hm fun r1 er1 hm=> .op (O.ca (r':= .h 2) [2] [(0,ROW qI 3 r1)] (some 3) (y2B er1) cf103 R R Z R R R R ⟨⟨_,R,fun _ _ _ _ h=>h⟩,trivial⟩ (fun _ _ _ h=>h) R) R (.op (O.bu (l:=[lH 2,lI 0,lN,lN]) pl35 R Z R R R) R (.op (O.al 3 R zz35 R Z R) R (.op (O.st ag35.sz Z R R R R R) R (.nil (.seqN (.seq (.seq (.reg (.op (O.faP y1g Z R R) R (.op (O.ld nag3 Z R (.B R) R R) R (.bi R (.nil (.seqN ?_)))))))))))))))))))))))
 rcases ifS hm with ⟨hc,hm⟩ | ⟨hc,hm⟩
 ·refine .cT R hc ?_
  refine .seq (.reg (.op (O.lg (l':=[lH 2,lI 0,lN,lN]) ag35 Z R (.B R) R R R) R (.op (O.st ag35.sz Z R R R R R) R (.nil (.seqN (.ret (.seqR (.nlb qI 3 1 2 R R (.nlb qT 124 1 3 R R ?_)))))))))
  obtain rfl:=oi hm
  exact WX.rt [2,4,5] (.inl R) Tryz.results178 (.cell R R ag35 R .nil) R (fun _ _ _ h=>h) ⟨⟨_,R,fun _ _ _ _ h=>h⟩,⟨_,R,fun _ _ _ _ h=>h⟩,⟨_,R,fun _ _ _ _ h=>h⟩,trivial⟩
 ·refine .cF R hc ?_
  refine .skip (.seqN (.seq (.reg (.op (O.faP y1g Z R R) R (.op (O.ld nag3 Z R (.B R) R R) R (bS hm fun x2 ex2 hm=> .op (O.mk (z:=(0:Int)) 4 Tryz.underlying32 zr3 R R Z R R ex2 R) R (.sa R (.nil (.seqN (.seq (.seq (.reg (.mv R (.op (O.lenH sl32 Z R R R) R (.mv R (.nil (.seqN (.block (bS hm fun o9 eo9 hm=>?_)))))))))))))))))))
  refine .cut1 (z:= .exit 0) o9 (fun (o9:List Int)=>⟨[(4,.h 0),(3,.q 1 0),(2,.q 3 0),(1,.q 4 0)],[(0,ROW qI 3 o9),(1,.bx 35 [lH 2,lI 0,lN,lN]),(2,ROW qI 3 r1),(3,.bx 35 [lN,lI 0,lN,lN]),(4,.bx 35 [lF qI p0.1,lI p0.2.1,lF qI p0.2.2.1,lF qT p0.2.2.2])],5⟩) ?_ fun K11=>?_
  ·skip
   refine .blkE (.seqN (.seq (.reg (.mv R (bS hm fun x12 ex12 hm=> .op (O.ir sl32 Z R R R ex12 R) R (bS hm fun x13 ex13 hm=> .op (O.su (z:=0) nag3.sz Z R R ex12 ex13 R R R lv3 R .k) R (.nil (.seqN (.seq (.reg (.op (O.bsO (r:=qI) (zs:=([0]:List Int)) 5 R bs32 R R Z R R R (.c .k .n) R R R) R (.sa R (.nil (.seqN (.seq (.seq (.reg (.sa R (.nil (.seqN (.block (bS hm fun o64 eo64 hm=>?_))))))))))))))))))))))
   refine .cut1 (z:= .exit 2) o64 (fun (o64:List Int×List Int×EdgL)=>⟨[(6,.h 0),(3,.q 1 0),(2,.q 5 0)],[(0,ROW qI 3 o64.1),(1,.bx 35 [lH 2,lI 0,lH 3,lH 4]),(2,ROW qI 3 r1),(3,ROW qI 3 o64.2.1),(4,ROW qT 124 o64.2.2),(5,.bx 35 [lN,lI 0,lN,lN])],6⟩) ?_ fun K68=>?_
   ·skip
    refine .blkE (.seqN (.seq (.reg (.mv R (.op (O.lenH sl32 Z R R R) R (.op (O.faP y1g Z R R) R (.op (O.st nag3.sz Z R R R R R) R (.nil (.seqN (.seq (.reg (.op (O.lg (l':=[lH 2,lI (o64.1.length:Int),lH 3,lH 4]) ag35 Z R (.B R) R R R) R (.op (O.st ag35.sz Z R R R R R) R (.nil (.seqN (.ret ?_))))))))))))))))
    obtain rfl:=oi hm
    exact WX.rt [2,3,4] (.inl R) Tryz.results178 (.cell R R ag35 R .nil) R (fun _ _ _ h=>h) ⟨⟨_,R,fun _ _ _ _ h=>h⟩,⟨_,R,fun _ _ _ _ h=>h⟩,⟨_,R,fun _ _ _ _ h=>h⟩,trivial⟩
   refine .nlb qI 3 1 2 R R (.nlb qT 124 1 3 R R (.iter (fun (st64:Int×List Int×List Int×List Int×EdgL)=>⟨[(7,.i st64.1),(6,.h 0),(4,.h 1),(3,.q 2 0),(2,.q 6 0),(1,.q 7 0)],[(0,ROW qI 3 st64.2.1),(1,ROW qI 3 st64.2.2.1),(2,.bx 35 [lH 3,lI 0,lH 4,lH 5]),(3,ROW qI 3 r1),(4,ROW qI 3 st64.2.2.2.1),(5,ROW qT 124 st64.2.2.2.2),(6,.bx 35 [lN,lI 0,lN,lN]),(7,.bx 35 [lF qI p0.1,lI p0.2.1,lF qI p0.2.2.1,lF qT p0.2.2.2])],8⟩) eo64 [(0,5),(1,0),(2,1),(3,2),(4,6),(5,7),(6,3),(7,4)] R ?_))
   intro st64 res64 hm ih64 ho64
   unfold y5k at hm
   refine .seq (.seq (.reg (.mv R (.mv R (.op (O.lenH sl32 Z R R R) R (.bi R (.nil (.seqN ?_))))))))
   rcases ifS hm with ⟨hc,hm⟩ | ⟨hc,hm⟩
   ·refine .cT R hc ?_
    refine .skip (.seqN (.seq (.block ?_)))
    refine .join1 (fun (l69:List Int)=>y3z p0 st64 l69=some res64) (fun l69=>⟨[(7,.i st64.1),(6,.h 0),(4,.h 1),(3,.q 2 0),(2,.q 6 0),(1,.q 7 0)],[(0,ROW qI 3 st64.2.1),(1,ROW qI 3 st64.2.2.1),(2,.bx 35 [lH 3,lI 0,lH 4,lH 5]),(3,ROW qI 3 r1),(4,ROW qI 3 l69),(5,ROW qT 124 st64.2.2.2.2),(6,.bx 35 [lN,lI 0,lN,lN]),(7,.bx 35 [lF qI p0.1,lI p0.2.1,lF qI p0.2.2.1,lF qT p0.2.2.2])],8⟩) ?_ ?_
    ·intro l69 hm
     unfold y3z at hm
     refine .seq ?_
     refine .sub (τ:=⟨[(7,.i st64.1),(6,.h 0),(4,.h 1),(3,.q 2 0),(2,.q 6 0),(1,.q 7 0)],[(0,ROW qI 3 st64.2.1),(1,ROW qI 3 st64.2.2.1),(2,.bx 35 [lH 3,lI 0,lH 4,lH 5]),(3,ROW qI 3 r1),(4,ROW qI 3 l69),(5,ROW qT 124 st64.2.2.2.2),(6,.bx 35 [lN,lI 0,lN,lN]),(7,.bx 35 [lF qI p0.1,lI p0.2.1,lF qI p0.2.2.1,lF qT p0.2.2.2])],8⟩) ?_ [] R
     refine bS hm fun x71 ex71 hm=>bS hm fun r72 er72 hm=>?_
     refine .drw [(8,[]),(8,[]),(8,[]),(8,[oF,oT,oT]),(8,fA 1 (tT 3)),(8,tT 5),(8,tT 6),(8,[])] [_,_,_,_,_,_,_,_] ⟨[(65,.i 0),(64,.i (r72.length:Int)),(63,.f qT r72),(7,.i st64.1),(6,.h 0),(4,.h 1),(3,.q 2 0),(2,.q 6 0),(1,.q 7 0)],[(0,ROW qI 3 st64.2.1),(1,ROW qI 3 st64.2.2.1),(2,.bx 35 [lH 3,lI 0,lH 4,lH 5]),(3,ROW qI 3 r1),(4,ROW qI 3 l69),(5,ROW qT 124 st64.2.2.2.2),(6,.bx 35 [lN,lI 0,lN,lN]),(7,.bx 35 [lF qI p0.1,lI p0.2.1,lF qI p0.2.2.1,lF qT p0.2.2.2])],8⟩ ⟨O.lg (l':=[lF qI p0.1,lI p0.2.1,lF qI p0.2.2.1,lF qT p0.2.2.2]) ag35 Z R (.B R) R R R,O.mv Z R R,O.mv Z R R,O.ir sl32 Z R R R ex71 R,O.ld nag3 Z R (.R R ex71 lv3) R R,O.ca0 (y5v er72) cf102 R R Z R R R,O.len sl33 Z R R,O.mv Z R R,trivial⟩ (by kernel_rfl) R ?_
     refine .seqN (.block (bS hm fun o91 eo91 hm=>?_))
     refine .cut1 (z:= .exit 4) o91 (fun (o91:List Int×List Int×EdgL)=>⟨[(7,.i st64.1),(6,.h 0),(4,.h 1),(3,.q 2 0),(2,.q 6 0),(1,.q 7 0)],[(0,ROW qI 3 o91.1),(1,ROW qI 3 o91.2.1),(2,.bx 35 [lH 3,lI 0,lH 4,lH 5]),(3,ROW qI 3 r1),(4,ROW qI 3 l69),(5,ROW qT 124 o91.2.2),(6,.bx 35 [lN,lI 0,lN,lN]),(7,.bx 35 [lF qI p0.1,lI p0.2.1,lF qI p0.2.2.1,lF qT p0.2.2.2])],8⟩) ?_ fun K95=>?_
     ·skip
      exact .blkE (.blkN (.seqN (.reg (.mv R (.bi R (.sa R (.nil ((ih64 _ (oi hm).symm).sub [] R))))))))
     refine .iter (fun (st91:Int×List Int×List Int×EdgL)=>⟨[(65,.i st91.1),(64,.i (r72.length:Int)),(63,.f qT r72),(7,.i st64.1),(6,.h 0),(4,.h 1),(3,.q 2 0),(2,.q 6 0),(1,.q 7 0)],[(0,ROW qI 3 st91.2.1),(1,ROW qI 3 st91.2.2.1),(2,.bx 35 [lH 3,lI 0,lH 4,lH 5]),(3,ROW qI 3 r1),(4,ROW qI 3 l69),(5,ROW qT 124 st91.2.2.2),(6,.bx 35 [lN,lI 0,lN,lN]),(7,.bx 35 [lF qI p0.1,lI p0.2.1,lF qI p0.2.2.1,lF qT p0.2.2.2])],8⟩) eo91 [] R ?_
     intro st91 res91 hm ih91 ho91
     unfold y5j at hm
     refine .seq (.reg (.bi R (.nil (.seqN (.seq ?_)))))
     rcases ifS hm with ⟨hc,hm⟩ | ⟨hc,hm⟩
     ·refine .cT R hc ?_
      refine .skip (.seqN (.seq (.block (.seq (.reg (bS hm fun x96 ex96 hm=> .op (O.ix sl33 Z R R ex96 R) R (.op (O.lg (l':=[lI x96.1,lI x96.2.1,lI x96.2.2]) ag124 Z R (.E lv124) R R R) R (.op (O.al 8 R zz124 R Z R) R (.op (O.st ag124.sz Z R R R R R) R (.nil (.seqN ?_)))))))))))
      refine .join2 (fun (l97:List Int) (l98:List Int)=>y3y st64 st91 x96 l97 l98=some res91) (fun l97 l98=>⟨[(6,.h 0),(11,.q 1 0),(65,.i st91.1),(64,.i (r72.length:Int)),(63,.f qT r72),(7,.i st64.1),(4,.h 2),(3,.q 3 0),(2,.q 7 0),(1,.q 8 0)],[(0,ROW qI 3 l97),(1,.bx 124 [lI x96.1,lI x96.2.1,lI x96.2.2]),(2,ROW qI 3 l98),(3,.bx 35 [lH 4,lI 0,lH 5,lH 6]),(4,ROW qI 3 r1),(5,ROW qI 3 l69),(6,ROW qT 124 st91.2.2.2),(7,.bx 35 [lN,lI 0,lN,lN]),(8,.bx 35 [lF qI p0.1,lI p0.2.1,lF qI p0.2.2.1,lF qT p0.2.2.2])],9⟩) ?_ ?_
      ·intro l97 l98 hm
       unfold y3y at hm
       refine .sub (τ:=⟨[(6,.h 0),(11,.q 1 0),(65,.i st91.1),(64,.i (r72.length:Int)),(63,.f qT r72),(7,.i st64.1),(4,.h 2),(3,.q 3 0),(2,.q 7 0),(1,.q 8 0)],[(0,ROW qI 3 l97),(1,.bx 124 [lI x96.1,lI x96.2.1,lI x96.2.2]),(2,ROW qI 3 l98),(3,.bx 35 [lH 4,lI 0,lH 5,lH 6]),(4,ROW qI 3 r1),(5,ROW qI 3 l69),(6,ROW qT 124 st91.2.2.2),(7,.bx 35 [lN,lI 0,lN,lN]),(8,.bx 35 [lF qI p0.1,lI p0.2.1,lF qI p0.2.2.1,lF qT p0.2.2.2])],9⟩) ?_ [] R
       refine bS hm fun x100 ex100 hm=>bS hm fun x101 ex101 hm=>?_
       refine .drg 10 [(9,[]),(9,[oT]),(9,[]),(9,[]),(9,[oF,oF,oF,oT]),(9,[]),(9,[]),(9,[oF,oF,oF,oF,oF,oF,oT]),(9,fA 5 (tT 3)),(9,fA 5 (tT 4)),(9,fA 2 (tT 8)),(9,fA 2 (tT 9)),(9,tT 12),(10,tT 13),(10,tT 14)] [_,_,_,_,_,_,_,_,_,_,_,_,_,_,_] ⟨[(6,.h 0),(65,.i st91.1),(64,.i (r72.length:Int)),(63,.f qT r72),(7,.i st64.1),(4,.h 2),(3,.q 3 0),(2,.q 7 0),(1,.q 8 0)],[(0,ROW qI 3 l97),(2,ROW qI 3 l98),(3,.bx 35 [lH 4,lI 0,lH 5,lH 9]),(4,ROW qI 3 r1),(5,ROW qI 3 l69),(9,ROW qT 124 x101),(7,.bx 35 [lN,lI 0,lN,lN]),(8,.bx 35 [lF qI p0.1,lI p0.2.1,lF qI p0.2.2.1,lF qT p0.2.2.2])],10⟩ ⟨O.faP yo Z R R,O.ld nag33 Z R (.B R) R R,O.mv Z R R,O.faP y3B Z R R,O.ld nag3 Z R (.B R) R R,O.mv Z R R,O.faP y2b Z R R,O.ld nag3 Z R (.B R) R R,O.ir sl32 Z R R R ex100 R,O.ld nag3 Z R (.R R ex100 lv3) R R,O.bu (l:=[lI st64.1,lI x96.2.1,lI x100]) pl124 R Z R R R,O.bsF (r:=qT) (zs:=([(st64.1,x96.2.1,x100)]:List (Int×Int×Int))) bs33 R R Z R R R (.c (.p .k (.p .k .k)) .n) R R R,O.ap 9 Tryz.underlying33 el124 R R Z R R (.fr R) ex101 R,O.faP yo Z R R,O.st nag33.sz Z R R R R R,trivial⟩ (by kernel_rfl) R ?_
       exact .blkN (.seqN (.reg (.bi R (.mv R (.nil ((ih91 _ (oi hm).symm).sub [(1,2),(2,3),(3,4),(4,5),(5,9),(6,7),(7,8)] R))))))
      ·intro Jj99
       refine .seq (.reg (.mv R (.op (O.faP y2b Z R R) R (.op (O.ld nag3 Z R (.B R) R R) R (bS hm fun x102 ex102 hm=> .op (O.ir sl32 Z R R R ex102 R) R (.op (O.ld nag3 Z R (.R R ex102 lv3) R R) R (.bi R (.nil (.seqN ?_)))))))))
       rcases ifS hm with ⟨hc,hm⟩ | ⟨hc,hm⟩
       ·refine .cT R hc ?_
        exact .seq (.reg (.mv R (.op (O.faP y2b Z R R) R (.op (O.ld nag3 Z R (.B R) R R) R (.mv R (.op (O.lenH sl32 Z R R R) R (bS hm fun x103 ex103 hm=> .op (O.ir sl32 Z R R R ex103 R) R (bS hm fun x104 ex104 hm=> .op (O.su (z:=(st91.2.1.length:Int)) nag3.sz Z R R ex103 ex104 R R R lv3 R .k) R (.nil (.seqN (.reg (.mv R (.op (O.faP y2b Z R R) R (.op (O.ld nag3 Z R (.B R) R R) R (.op (O.bsF (r:=qI) (zs:=([x96.2.2]:List Int)) bs32 R R Z R R R (.c .k .n) R R R) R (bS hm fun x105 ex105 hm=> .op (O.ap 9 Tryz.underlying32 el3 R R Z R R (.fr R) ex105 R) R (.sa R (.nil ((Jj99 _ _ hm).sub [(0,9),(1,8),(2,1),(3,2),(4,3),(5,4),(6,5),(7,6),(8,7)] R)))))))))))))))))))
       ·refine .cF R hc ?_
        exact .skip ((Jj99 _ _ hm).sub [(1,8),(2,1),(3,2),(4,3),(5,4),(6,5),(7,6),(8,7)] R)
     ·refine .cF R hc ?_
      exact .exit (.seqX (.seqX ((K95 _ (ho91 _ (oi hm).symm)).sub [] R)))
    ·intro Jj70
     refine .seq ?_
     refine .sub (τ:=⟨[(7,.i st64.1),(6,.h 0),(4,.h 1),(3,.q 2 0),(2,.q 6 0),(1,.q 7 0)],[(0,ROW qI 3 st64.2.1),(1,ROW qI 3 st64.2.2.1),(2,.bx 35 [lH 3,lI 0,lH 4,lH 5]),(3,ROW qI 3 r1),(4,ROW qI 3 st64.2.2.2.1),(5,ROW qT 124 st64.2.2.2.2),(6,.bx 35 [lN,lI 0,lN,lN]),(7,.bx 35 [lF qI p0.1,lI p0.2.1,lF qI p0.2.2.1,lF qT p0.2.2.2])],8⟩) ?_ [] R
     refine bS hm fun x106 ex106 hm=>bS hm fun r107 er107 hm=>?_
     refine .drw [(8,[]),(8,[oT]),(8,[]),(8,[]),(8,[oF,oF,oT,oT]),(8,fA 2 (tT 3)),(8,tT 6),(8,tT 7),(8,tT 8),(8,tT 8),(8,tT 9),(8,tT 11)] [_,_,_,_,_,_,_,_,_,_,_,_] ⟨[(9,.b r107.2),(7,.i st64.1),(6,.h 0),(4,.h 1),(3,.q 2 0),(2,.q 6 0),(1,.q 7 0)],[(0,ROW qI 3 st64.2.1),(1,ROW qI 3 st64.2.2.1),(2,.bx 35 [lH 3,lI 0,lH 4,lH 5]),(3,ROW qI 3 r1),(4,ROW qI 3 st64.2.2.2.1),(5,ROW qT 124 st64.2.2.2.2),(6,.bx 35 [lN,lI 0,lN,lN]),(7,.bx 35 [lF qI p0.1,lI p0.2.1,lF qI p0.2.2.1,lF qT p0.2.2.2])],8⟩ ⟨O.faP y2j Z R R,O.ld nag32 Z R (.B R) R R,O.mv Z R R,O.mv Z R R,O.ir sl32 Z R R R ex106 R,O.ld nag3 Z R (.R R ex106 lv3) R R,O.ca0 (y4N er107) cf158 R R Z R R R,O.mv Z R R,O.ex Z R R R,O.ex Z R R R,O.as Z R R,O.as Z R R,trivial⟩ (by kernel_rfl) R ?_
     refine .seqN (.seq (.reg (.mv R (.nil (.seqN ?_)))))
     rcases ifS hm with ⟨hc,hm⟩ | ⟨hc,hm⟩
     ·refine .cT R hc ?_
      exact .reg (.op (O.faP y2j Z R R) R (.op (O.ld nag32 Z R (.B R) R R) R (.mv R (.op (O.bsF (r:=qI) (zs:=([st64.1]:List Int)) bs32 R R Z R R R (.c .k .n) R R R) R (bS hm fun x108 ex108 hm=> .op (O.ap 8 Tryz.underlying32 el3 R R Z R R (.fr R) ex108 R) R (.op (O.faP y2j Z R R) R (.op (O.st nag32.sz Z R R R R R) R (.nil ((Jj70 _ hm).sub [(4,8)] R)))))))))
     ·refine .cF R hc ?_
      exact .skip ((Jj70 _ hm).sub [] R)
   ·refine .cF R hc ?_
    exact .exit (.seqX (.seqX ((K68 _ (ho64 _ (oi hm).symm)).sub [(1,2),(2,3),(3,4),(4,5),(5,6)] R)))
  refine .iter (fun (st9:Int×List Int)=>⟨[(25,.i st9.1),(24,.i (x2.length:Int)),(4,.h 0),(3,.q 1 0),(2,.q 3 0),(1,.q 4 0)],[(0,ROW qI 3 st9.2),(1,.bx 35 [lH 2,lI 0,lN,lN]),(2,ROW qI 3 r1),(3,.bx 35 [lN,lI 0,lN,lN]),(4,.bx 35 [lF qI p0.1,lI p0.2.1,lF qI p0.2.2.1,lF qT p0.2.2.2])],5⟩) eo9 [(0,4),(1,3),(3,1),(4,0)] R ?_
  intro st9 res9 hm ih9 ho9
  unfold y5l at hm
  refine .seq (.reg (.bi R (.nil (.seqN (.seq ?_)))))
  rcases ifS hm with ⟨hc,hm⟩ | ⟨hc,hm⟩
  ·refine .cT R hc ?_
   exact .skip (.seqN (.seq (.block (.seq (.reg (.mv R (.sa R (.nil (.seqN (.reg (.mv R (.mv R (bS hm fun x109 ex109 hm=> .op (O.ir sl32 Z R R R ex109 R) R (bS hm fun x110 ex110 hm=> .op (O.su (z:=(-1)) nag3.sz Z R R ex109 ex110 R R R lv3 R .k) R (.nil (.blkN (.seqN (.reg (.bi R (.mv R (.nil ((ih9 _ (oi hm).symm).sub [] R))))))))))))))))))))))
  ·refine .cF R hc ?_
   exact .exit (.seqX (.seqX ((K11 _ (ho9 _ (oi hm).symm)).sub [] R)))
def y4J (p0:AutT):Option (AutT×Int):=
 (yt p0).bind fun r1=>
 if(r1 != 0) then
  some ((([]:List Int),0,([]:List Int),([]:List (Int×Int×Int))),r1)
 else
  (y3W p0).bind fun r2=>
  some (r2,0)
theorem y7e {p0:AutT} {r:AutT×Int} (hm:y4J p0=some r):
  Fw Tryz.prog 116 ⟨0,[]⟩ [.a [lF qI p0.1,lI p0.2.1,lF qI p0.2.2.1,lF qT p0.2.2.2]] [] (.tp [.a [lH 0,lI r.1.2.1,lH 1,lH 2],.i r.2]) [ROW qI 3 r.1.1,ROW qI 3 r.1.2.2.1,ROW qT 124 r.1.2.2.2]:=by
 unfold y4J at hm
 refine Fw.mk' Tryz.func116 R Tryz.ntmps116 R R (fun C=>?_) R R
 refine .seq (.reg (.op (O.box 0 R Z R R R) R (.op (O.al 1 R zz35 R Z R) R (.sa R (.nil (.seqN (.seq (.seq (.reg (.op (O.lg (l':=[lF qI p0.1,lI p0.2.1,lF qI p0.2.2.1,lF qT p0.2.2.2]) ag35 Z R (.B R) R R R) R (bS hm fun r1 er1 hm=> .op (O.ca0 (y1B er1) cf101 R R Z R R R) R (.sa R (.nil (.seqN (.seq (.reg (.mv R (.bi R (.nil (.seqN ?_))))))))))))))))))))
 rcases ifS hm with ⟨hc,hm⟩ | ⟨hc,hm⟩
 ·refine .cT R hc ?_
  refine .seq (.reg (.op (O.bu (l:=[lN,lI 0,lN,lN]) pl35 R Z R R R) R (.mv R (.op (O.st ag35.sz Z R R R R R) R (.sa R (.nil (.seqN (.ret (.seqR (.nlb qI 3 1 0 R R (.nlb qI 3 1 2 R R (.nlb qT 124 1 3 R R ?_))))))))))))
  obtain rfl:=oi hm
  exact WX.rt [2,3,4] (.inl R) Tryz.results116 (.cell R R ag35 R (.tmp R .nil)) R (fun _ _ _ h=>h) ⟨⟨_,R,fun _ _ _ _ h=>h⟩,⟨_,R,fun _ _ _ _ h=>h⟩,⟨_,R,fun _ _ _ _ h=>h⟩,trivial⟩
 ·refine .cF R hc ?_
  refine .skip (.seqN (.seq (.reg (.op (O.lg (l':=[lF qI p0.1,lI p0.2.1,lF qI p0.2.2.1,lF qT p0.2.2.2]) ag35 Z R (.B R) R R R) R (bS hm fun r2 er2 hm=> .op (O.ca (r':= .g [lH 2,lI r2.2.1,lH 3,lH 4]) [2,3,4] [(0,ROW qI 3 r2.1),(1,ROW qI 3 r2.2.2.1),(2,ROW qT 124 r2.2.2.2)] (some 5) (y5s er2) cf178 R R Z R R R R ⟨⟨_,R,fun _ _ _ _ h=>h⟩,⟨_,R,fun _ _ _ _ h=>h⟩,⟨_,R,fun _ _ _ _ h=>h⟩,trivial⟩ (fun _ _ _ h=>h) R) R (.op (O.st ag35.sz Z R R R R R) R (.sa R (.nil (.seqN (.ret ?_))))))))))
  obtain rfl:=oi hm
  exact WX.rt [2,3,4] (.inl R) Tryz.results116 (.cell R R ag35 R (.tmp R .nil)) R (fun _ _ _ h=>h) ⟨⟨_,R,fun _ _ _ _ h=>h⟩,⟨_,R,fun _ _ _ _ h=>h⟩,⟨_,R,fun _ _ _ _ h=>h⟩,trivial⟩
end
end Go.Proofs.YtecmobjeeonmaaaGreatDoor
namespace Go.Proofs
open Go.Shelf
def Tryz.sortE_ren :Go.Shelf.Ren:=⟨fun | 6=>240 | 15=>234 | 14=>268 | 28=>254 | 29=>255 | 20=>285 | 21=>286 | 22=>287 | 23=>288 | 24=>289 | 25=>290 | 26=>291 | 27=>292 | 46=>303 | 47=>274 | 48=>275 | 49=>304 | 50=>305 | 57=>320 | n=>n,fun | 22=>33 | 24=>124 | 25=>321 | 3=>3 | 39=>295 | 0=>0 | 53=>334 | 55=>336 | 4=>4 | 46=>328 | 45=>327 | 50=>170 | 5=>5 | 9=>9 | 66=>351 | 70=>355 | 76=>378 | 77=>58 | n=>n,fun | n=>n⟩
theorem Tryz.sortE :Go.Proofs.SlLaysF0.n6 Tryz.prog Tryz.sortE_ren:={
 mixed:=by kernel_rfl
 f6:=⟨Tryz.f240.name,by decide,Tryz.func240.trans (congrArg some (by kernel_rfl))⟩
 f14:=⟨Tryz.f268.name,by decide,Tryz.func268.trans (congrArg some (by kernel_rfl))⟩
 f15:=Tryz.func234.trans (congrArg some (by kernel_rfl))
 f20:=⟨Tryz.f285.name,by decide,Tryz.func285.trans (congrArg some (by kernel_rfl))⟩
 f21:=⟨Tryz.f286.name,by decide,Tryz.func286.trans (congrArg some (by kernel_rfl))⟩
 f22:=⟨Tryz.f287.name,by decide,Tryz.func287.trans (congrArg some (by kernel_rfl))⟩
 f23:=⟨Tryz.f288.name,by decide,Tryz.func288.trans (congrArg some (by kernel_rfl))⟩
 f24:=⟨Tryz.f289.name,by decide,Tryz.func289.trans (congrArg some (by kernel_rfl))⟩
 f25:=⟨Tryz.f290.name,by decide,Tryz.func290.trans (congrArg some (by kernel_rfl))⟩
 f26:=⟨Tryz.f291.name,by decide,Tryz.func291.trans (congrArg some (by kernel_rfl))⟩
 f27:=⟨Tryz.f292.name,by decide,Tryz.func292.trans (congrArg some (by kernel_rfl))⟩
 f28:=Tryz.func254.trans (congrArg some (by kernel_rfl))
 f29:=Tryz.func255.trans (congrArg some (by kernel_rfl))
 f46:=⟨Tryz.f303.name,by decide,Tryz.func303.trans (congrArg some (by kernel_rfl))⟩
 f47:=Tryz.func274.trans (congrArg some (by kernel_rfl))
 f48:=Tryz.func275.trans (congrArg some (by kernel_rfl))
 f49:=⟨Tryz.f304.name,by decide,Tryz.func304.trans (congrArg some (by kernel_rfl))⟩
 f50:=⟨Tryz.f305.name,by decide,Tryz.func305.trans (congrArg some (by kernel_rfl))⟩
 f57:=⟨Tryz.f320.name,by decide,Tryz.func320.trans (congrArg some (by kernel_rfl))⟩
 t0:=Tryz.underlying0
 a0:=Tryz.isAgg0
 z0:=Tryz.sizeOf0
 v0:=Tryz.zeroValue0
 t3:=Tryz.underlying3
 a3:=Tryz.isAgg3
 z3:=Tryz.sizeOf3
 v3:=Tryz.zeroValue3
 t4:=Tryz.underlying4
 a4:=Tryz.isAgg4
 z4:=Tryz.sizeOf4
 v4:=Tryz.zeroValue4
 t5:=Tryz.underlying5
 a5:=Tryz.isAgg5
 z5:=Tryz.sizeOf5
 v5:=Tryz.zeroValue5
 t9:=Tryz.underlying9
 a9:=Tryz.isAgg9
 z9:=Tryz.sizeOf9
 v9:=Tryz.zeroValue9
 t22:=Tryz.underlying33
 a22:=Tryz.isAgg33
 z22:=Tryz.sizeOf33
 v22:=Tryz.zeroValue33
 t25:=Tryz.underlying321
 a25:=Tryz.isAgg321
 z25:=Tryz.sizeOf321
 v25:=Tryz.zeroValue321
 t39:=Tryz.underlying295
 a39:=Tryz.isAgg295
 z39:=Tryz.sizeOf295
 v39:=Tryz.zeroValue295
 t45:=Tryz.underlying327
 a45:=Tryz.isAgg327
 z45:=Tryz.sizeOf327
 v45:=Tryz.zeroValue327
 t46:=Tryz.underlying328
 a46:=Tryz.isAgg328
 z46:=Tryz.sizeOf328
 v46:=Tryz.zeroValue328
 t50:=Tryz.underlying170
 a50:=Tryz.isAgg170
 z50:=Tryz.sizeOf170
 v50:=Tryz.zeroValue170
 t53:=Tryz.underlying334
 a53:=Tryz.isAgg334
 z53:=Tryz.sizeOf334
 v53:=Tryz.zeroValue334
 t55:=Tryz.underlying336
 a55:=Tryz.isAgg336
 z55:=Tryz.sizeOf336
 v55:=Tryz.zeroValue336
 t66:=Tryz.underlying351
 a66:=Tryz.isAgg351
 z66:=Tryz.sizeOf351
 v66:=Tryz.zeroValue351
 t70:=Tryz.underlying355
 a70:=Tryz.isAgg355
 z70:=Tryz.sizeOf355
 v70:=Tryz.zeroValue355
 t76:=Tryz.underlying378
 a76:=Tryz.isAgg378
 z76:=Tryz.sizeOf378
 v76:=Tryz.zeroValue378
 t77:=Tryz.underlying58
 a77:=Tryz.isAgg58
 z77:=Tryz.sizeOf58
 v77:=Tryz.zeroValue58 }
end Go.Proofs
namespace Go.Proofs.YtecmobjeeonmaaaGreatDoor
open Go Go.RowKit Go.Sort Go.Lib
def insL {α:Type} (lt:α→α→Bool) (x:α):List α→List α
 | []=> [x]
 | y :: l=>if lt x y then x :: y :: l else y :: insL lt x l
def srtL {α:Type} (lt:α→α→Bool):List α→List α
 | []=> []
 | x :: l=>insL lt x (srtL lt l)
theorem y8F {α:Type} (lt:α→α→Bool) (x:α):∀l,(insL lt x l).Perm (x :: l)
 | []=> .refl _
 | y :: l=>by
  unfold insL
  split
  ·exact .refl _
  ·exact ((y8F lt x l).cons y).trans (.swap _ _ _)
theorem y7k {α:Type} (lt:α→α→Bool):∀l,(srtL lt l).Perm l
 | []=> .refl _
 | x :: l=>(y8F lt x _).trans ((y7k lt l).cons x)
theorem ybw {α:Type} {lt:α→α→Bool} (ht:∀x y z,lt x y=false→lt y z=false→lt x z=false) (ha:∀x y,lt x y=true→lt y x=false) (x:α):∀l:List α,l.Pairwise (fun a b=>lt b a=false)→(insL lt x l).Pairwise fun a b=>lt b a=false
 | [],_=>List.pairwise_singleton _ _
 | y :: l,h=>by
  unfold insL
  split
  ·rename_i hx
   refine List.Pairwise.cons (fun z hz=>?_) h
   rcases List.mem_cons.1 hz with rfl | hz
   ·exact ha _ _ hx
   ·exact ht _ _ _ ((List.pairwise_cons.1 h).1 z hz) (ha _ _ hx)
  ·rename_i hx
   refine List.Pairwise.cons (fun z hz=>?_) (ybw ht ha x l (List.pairwise_cons.1 h).2)
   rcases List.mem_cons.1 ((y8F lt x l).mem_iff.1 hz) with rfl | hz
   ·simpa using hx
   ·exact (List.pairwise_cons.1 h).1 z hz
theorem ybx {α:Type} {lt:α→α→Bool} (ht:∀x y z,lt x y=false→lt y z=false→lt x z=false) (ha:∀x y,lt x y=true→lt y x=false):∀l:List α,(srtL lt l).Pairwise fun a b=>lt b a=false
 | []=> .nil
 | x :: l=>ybw ht ha x _ (ybx ht ha l)
def encE (x:Int×Int×Int):List Value:=[.int .i64 x.1,.int .i64 x.2.1,.int .i64 x.2.2]
theorem ye4 (s:Sig) (cs:List Value) (x:Int×Int×Int):(rP qI (rP qI qI)).rd s cs x↔cs=encE x:=by
 constructor
 ·rintro ⟨_,_,rfl,rfl,_,_,rfl,rfl,rfl⟩
  rfl
 ·rintro rfl
  exact⟨_,_,rfl,rfl,_,_,rfl,rfl,rfl⟩
def cmpE (x y:Int×Int×Int):Int:=if x.1≠y.1 then x.1 - y.1 else x.2.1 - y.2.1
def ltE (x y:Int×Int×Int):Bool:=decide (cmpE x y < 0)
theorem y8O (x y:Int×Int×Int):ltE x y=true↔x.1 < y.1∨(x.1=y.1∧x.2.1 < y.2.1):=by
 unfold ltE cmpE
 split <;> simp <;> omega
theorem y6m (x y:Int×Int×Int):ltE x y=false↔y.1 < x.1∨(x.1=y.1∧y.2.1≤x.2.1):=by
 unfold ltE cmpE
 split <;> simp <;> omega
def y3N (p0:List (Int×Int×Int)):Option (List (Int×Int×Int)):=
 if(∀x∈p0,0≤x.1∧x.1 < 4294967296∧0≤x.2.1∧x.2.1 < 4294967296)∧p0.length≤4294967296∧p0.Pairwise (fun x y=>x.1≠y.1∨x.2.1≠y.2.1) then some (srtL ltE p0) else none
set_option maxHeartbeats 2000000 in
theorem ydc (x y:Int×Int×Int) (w:World) (hx:0≤x.1∧x.1 < 4294967296∧0≤x.2.1∧x.2.1 < 4294967296) (hy:0≤y.1∧y.1 < 4294967296∧0≤y.2.1∧y.2.1 < 4294967296):
  Calls Tryz.prog 241 #[.agg (encE x).toArray,.agg (encE y).toArray] w fun e w'=>e= .returned (.int .i64 (cmpE x y))∧∃q os',w'=grow (w.drewN q) os':=by
 obtain⟨x1,x2,x3⟩:=x
 obtain⟨y1,y2,y3⟩:=y
 simp only at hx hy ⊢
 show Calls Tryz.prog _ #[.agg #[.int .i64 x1,.int .i64 x2,.int .i64 x3],.agg #[.int .i64 y1,.int .i64 y2,.int .i64 y3]] w _
 unfold cmpE
 by_cases h:x1=y1
 ·rw [if_neg (by simpa using h)]
  go_enter Tryz.func241,Tryz.ntmps241
  go_wp2_with first | assumption | (simp;omega) | omega
  go_ret
  exact⟨rfl,0,_,by rw [alloc_eq_grow,alloc_eq_grow,grow_grow];rfl⟩
 ·rw [if_pos (by simpa using h)]
  go_enter Tryz.func241,Tryz.ntmps241
  go_wp2_with first | assumption | (simp;omega) | omega
  go_ret
  exact⟨rfl,0,_,by rw [alloc_eq_grow,alloc_eq_grow,grow_grow];rfl⟩
theorem exAll {α:Type} (d:Array α) (n:Nat) (h:d.size=n):d.extract 0 n=d:=by
 subst h
 simp
theorem ycx {p0:List (Int×Int×Int)} [Inhabited (_root_.Fin p0.length)] (hO:SWO (ltOf fun i j:_root_.Fin p0.length=>cmpE (p0.get i) (p0.get j))) (hd:p0.Pairwise fun x y=>x.1≠y.1∨x.2.1≠y.2.1):
  (pdq (ltOf fun i j:_root_.Fin p0.length=>cmpE (p0.get i) (p0.get j)) (List.finRange p0.length).toArray 0 p0.length (Lib.bitLen p0.length) true true).toList.map p0.get=srtL ltE p0∧(pdq (ltOf fun i j:_root_.Fin p0.length=>cmpE (p0.get i) (p0.get j)) (List.finRange p0.length).toArray 0 p0.length (Lib.bitLen p0.length) true true).size=p0.length:=by
 have hsz:(List.finRange p0.length).toArray.size=p0.length:=by simp
 obtain⟨⟨hz,_,hp⟩,hs⟩:=pdq_sorts _ hO (List.finRange p0.length).toArray 0 p0.length (Lib.bitLen p0.length) true true (Nat.zero_le _) (Nat.le_of_eq hsz.symm) (Or.inl rfl)
 generalize pdq (ltOf fun i j:_root_.Fin p0.length=>cmpE (p0.get i) (p0.get j)) (List.finRange p0.length).toArray 0 p0.length (Lib.bitLen p0.length) true true=d at hz hp hs ⊢
 rw [hsz] at hz
 refine⟨?_,hz⟩
 have hp:d.toList.Perm (List.finRange p0.length):=by
  rw [exAll d _ hz,exAll _ _ hsz] at hp
  simpa using hp
 have hm:(d.toList.map p0.get).Perm p0:=by
  have:=hp.map p0.get
  rwa [show (List.finRange p0.length).map p0.get=p0 from List.ext_getElem (by simp) (by simp)] at this
 refine List.Perm.eq_of_pairwise (le:=fun a b=>ltE b a=false) (fun a b ha hb h1 h2=>?_) ?_ (ybx (fun x y z h1 h2=>?_) (fun x y h=>?_) _) (hm.trans (y7k _ _).symm)
 ·have ha':=hm.mem_iff.1 ha
  have hb':=(y7k _ _).mem_iff.1 hb
  refine Classical.byContradiction fun hne=>?_
  have:a.1≠b.1∨a.2.1≠b.2.1:=by
   obtain⟨i,hi,rfl⟩:=List.mem_iff_getElem.1 ha'
   obtain⟨j,hj,rfl⟩:=List.mem_iff_getElem.1 hb'
   rcases Nat.lt_trichotomy i j with h | h | h
   ·exact List.pairwise_iff_getElem.1 hd i j hi hj h
   ·exact absurd (by subst h;rfl) hne
   ·have:=List.pairwise_iff_getElem.1 hd j i hj hi h
    omega
  rw [y6m] at h1 h2
  omega
 ·rw [List.pairwise_map,List.pairwise_iff_getElem]
  intro i j hi hj hij
  have:=hs i j (Nat.zero_le _) hij (by simpa [hz] using hj)
  rw [Array.length_toList] at hi hj
  rw [getElem!_pos d j hj,getElem!_pos d i hi] at this
  exact this
 ·rw [y6m] at *;omega
 ·rw [y8O] at h;rw [y6m];omega
theorem y6X {s:Sig} {p0:List (Int×Int×Int)} {t0:Nat} {a1:Option Addr} {c1:Nat} {r:List (Int×Int×Int)} (zt0:0 < t0) (h1:RowT (rP qI (rP qI qI)) s t0 124 a1 c1 p0) (hm:y3N p0=some r):
  Calls Tryz.prog 240 #[.slice a1 p0.length c1,.func (.func 241) #[] #[]] s.w (RetS (One t0) s fun v s'=>v= .tuple #[]∧r.length=p0.length∧RowT (rP qI (rP qI qI)) s' t0 124 a1 c1 r):=by
 unfold y3N at hm
 split at hm
 ·rename_i h
  obtain⟨hb,hl,hd⟩:=h
  cases hm
  by_cases h0:0 < p0.length
  ·letI:Inhabited (_root_.Fin p0.length):=⟨⟨0,h0⟩⟩
   obtain⟨b,off,rfl,hblk,htag,hH,hput⟩:=h1.sortK ye4 (fun _=>rfl) (by decide) h0 zt0
   have hin:∀i:_root_.Fin p0.length,_:=fun i=>hb _ (List.get_mem p0 i)
   have hO:SWO (ltOf fun i j:_root_.Fin p0.length=>cmpE (p0.get i) (p0.get j)):=⟨fun i=>(y6m _ _).2 (by omega),fun i j k g1 g2=>(y8O _ _).2 (by have:=(y8O _ _).1 g1;have:=(y8O _ _).1 g2;omega),fun i j k g1 g2=>(y6m _ _).2 (by have:=(y6m _ _).1 g1;have:=(y6m _ _).1 g2;omega)⟩
   have eg:∀args w,(callFunc 241 args).run Tryz.prog w= .ok (.enter 241 args) w:=enters_of Tryz.func241 (by kernel_rfl) rfl
   have hsz:(List.finRange p0.length).toArray.size=p0.length:=by simp
   have hcmp:CmpLays Tryz.prog 241 #[] (fun i:_root_.Fin p0.length=>encE (p0.get i)) 3 (fun i j=>cmpE (p0.get i) (p0.get j)) b off (List.finRange p0.length).toArray.size s.w:=fun m os dk hdk i j=>ydc _ _ _ (hin i) (hin j)
   have hS:=AnyQ.slices_SortFunc_eq Tryz.sortE 3 Tryz.isAgg124 Tryz.sizeOf124 (fun i:_root_.Fin p0.length=>encE (p0.get i)) (fun _=>rfl) (fun x v hv=>by simp [encE] at hv;rcases hv with rfl | rfl | rfl <;> rfl) (fun i j=>cmpE (p0.get i) (p0.get j)) hO 241 #[] b off c1 (List.finRange p0.length).toArray s.w eg hcmp hH hblk (by rw [hsz];omega)
   rw [hsz] at hS
   have hS:Calls Tryz.prog 240 #[.slice (some ⟨b,off,none⟩) p0.length c1,.func (.func 241) #[] #[]] s.w _:=hS
   refine hS.mono ?_
   rintro e w' ⟨rfl,n,os,rfl⟩
   obtain⟨he,hz⟩:=ycx hO hd
   obtain⟨s',hw',hm',hr⟩:=hput _ n os hz
   exact⟨_,s',hw',rfl,hm',rfl,(y7k _ _).length_eq,by rw [←he];exact hr⟩
  ·obtain rfl:p0= []:=List.eq_nil_of_length_eq_zero (by omega)
   refine(AnyF.slices_SortFunc_none (P:=Tryz.prog) (ρ:=Tryz.sortE_ren) Tryz.sortE a1 c1 (.func (.func 241) #[] #[]) s.w).mono ?_
   rintro e w' ⟨rfl,rfl⟩
   exact⟨_,s,rfl,rfl,Mv.refl _ _,rfl,rfl,h1⟩
 ·cases hm
theorem y6Y {p0:List (Int×Int×Int)} {r:List (Int×Int×Int)} (hm:y3N p0=some r):Fw Tryz.prog 240 ⟨1,[0]⟩ [.h 0,.o (lV (.func (.func 241) #[] #[]))] [ROW (rP qI (rP qI qI)) 124 p0] (.tp []) [ROW (rP qI (rP qI qI)) 124 r]:=
 ⟨fun ts β s vs ht _ _ hp ⟨v,us,h,⟨v2,us2,h2,hu,e3⟩,e2⟩ ho=>by
  have hu:us2= []:=hu
  subst hu;subst e3;subst e2
  obtain⟨rfl,_⟩:=h2
  obtain⟨t,rfl⟩:∃t,ts= [t]:=by
   match ts,ht with
   | [t],_=>exact⟨t,rfl⟩
  obtain⟨a,c,e,h2⟩:=ho 0 _ rfl
  have hv:v= .slice a p0.length c:=h.1.trans e
  subst hv
  exact Calls.mono (y6X (hp t (.head _)) h2 hm) fun en w' ⟨v,s',e1,e2,m,hv,hl,hr⟩=>⟨v,s',e1,e2,m.weak fun t' ht'=>⟨0,.head _,by rw [show t'=t from ht'];rfl⟩,β,fun _ _=>rfl,⟨[],rfl,hv⟩,fun i o ho=>by
   match i,ho with
   | 0,ho=>cases ho;exact⟨a,c,by rw [e,hl],hr⟩⟩⟩
end Go.Proofs.YtecmobjeeonmaaaGreatDoor
set_option maxRecDepth 100000
set_option maxHeartbeats 8000000
namespace Go.Proofs.YtecmobjeeonmaaaGreatDoor
open Go Go.RowKit
noncomputable section
def y4K (p0:List (Int×Int×Int)):Option EdgL:=
 (y3N p0).bind fun r1=>
 some r1
theorem y7f {p0:List (Int×Int×Int)} {r:EdgL} (hm:y4K p0=some r):
  Fw Tryz.prog 215 ⟨1,[0]⟩ [.h 0] [ROW qT 124 p0] (.tp []) [ROW qT 124 r]:=by
 unfold y4K at hm
 refine Fw.mk' Tryz.func215 R Tryz.ntmps215 R R (fun C=>?_) R R
 refine .reg (.mv R (bS hm fun r1 er1 hm=> .op (O.ca (r':= .tp []) [0] [(0,ROW qT 124 r1)] none (y6Y er1) cf240 R R Z R R R R ⟨⟨_,R,fun _ _ _ _ h=>h⟩,trivial⟩ (fun _ _ _ h=>h) R) R (.nil ?_)))
 obtain rfl:=oi hm
 exact WX.rt [0] (.inr R) Tryz.results215 .nil R (fun _ _ _ h=>h) ⟨⟨_,R,fun _ _ _ _ h=>h⟩,trivial⟩
def y5E (p0:AutT) (p1:List Int) (st23:Int×EdgL):Option ((Int×EdgL) ⊕ EdgL):=
 if decide (st23.1 < (p0.2.2.2.length:Int)) then
  (idx p0.2.2.2 st23.1).bind fun x28=>
  (y3O p0.1 x28.2.1).bind fun r29=>
  (idx p1 r29).bind fun x30=>
  (app st23.2 ([(x28.1,x30,x28.2.2)]:List (Int×Int×Int))).bind fun x31=>
  some (.inl (W (st23.1 + 1),x31))
 else
  some (.inr st23.2)
def y5F (p1:List Int) (st9:Int):Option (Int ⊕ (Unit ⊕ Int)):=
 if decide (st9 < (p1.length:Int)) then
  (idx p1 st9).bind fun x34=>
  if((decide (x34 < 0)) || (decide (x34≥32))) then
   some (.inr (.inr (2)))
  else
   (slc p1 0 st9).bind fun x37=>
   (yj x37 x34).bind fun r38=>
   if r38 then
    some (.inr (.inr (8)))
   else
    some (.inl (W (st9 + 1)))
 else
  some (.inr (.inl ()))
def y4Y (p0:AutT) (p1:List Int):Option (AutT×Int):=
 (yt p0).bind fun r1=>
 if(r1 != 0) then
  some ((([]:List Int),0,([]:List Int),([]:List (Int×Int×Int))),r1)
 else
  if((p1.length:Int) != (p0.1.length:Int)) then
   some ((([]:List Int),0,([]:List Int),([]:List (Int×Int×Int))),4)
  else
   (iter (y5F p1) 0).bind fun o9=>
   match o9 with
   | .inl u11=>
    (y2O p1).bind fun r13=>
    (y2i r13).bind fun r14=>
    (iter (y5E p0 p1) (0,([]:List (Int×Int×Int)))).bind fun o23=>
    (y4K o23).bind fun r26=>
    (y3W (r14,p0.2.1,p0.2.2.1,r26)).bind fun r27=>
    some (r27,0)
   | .inr (u32)=>
    some ((([]:List Int),0,([]:List Int),([]:List (Int×Int×Int))),u32)
theorem y7O {p0:AutT} {p1:List Int} {r:AutT×Int} (hm:y4Y p0 p1=some r):
  Fw Tryz.prog 175 ⟨0,[]⟩ [.a [lF qI p0.1,lI p0.2.1,lF qI p0.2.2.1,lF qT p0.2.2.2],.f qI p1] [] (.tp [.a [lH 0,lI r.1.2.1,lH 1,lH 2],.i r.2]) [ROW qI 3 r.1.1,ROW qI 3 r.1.2.2.1,ROW qT 124 r.1.2.2.2]:=by
 unfold y4Y at hm
 refine Fw.mk' Tryz.func175 R Tryz.ntmps175 R R (fun C=>?_) R R
 refine .seq (.reg (.op (O.box 0 R Z R R R) R (.op (O.al 1 R zz35 R Z R) R (.sa R (.nil (.seqN (.seq (.seq (.reg (.op (O.lg (l':=[lF qI p0.1,lI p0.2.1,lF qI p0.2.2.1,lF qT p0.2.2.2]) ag35 Z R (.B R) R R R) R (bS hm fun r1 er1 hm=> .op (O.ca0 (y1B er1) cf101 R R Z R R R) R (.sa R (.nil (.seqN (.seq (.reg (.mv R (.bi R (.nil (.seqN ?_))))))))))))))))))))
 rcases ifS hm with ⟨hc,hm⟩ | ⟨hc,hm⟩
 ·refine .cT R hc ?_
  refine .seq (.reg (.op (O.bu (l:=[lN,lI 0,lN,lN]) pl35 R Z R R R) R (.mv R (.op (O.st ag35.sz Z R R R R R) R (.sa R (.nil (.seqN (.ret (.seqR (.nlb qI 3 1 0 R R (.nlb qI 3 1 2 R R (.nlb qT 124 1 3 R R ?_))))))))))))
  obtain rfl:=oi hm
  exact WX.rt [2,3,4] (.inl R) Tryz.results175 (.cell R R ag35 R (.tmp R .nil)) R (fun _ _ _ h=>h) ⟨⟨_,R,fun _ _ _ _ h=>h⟩,⟨_,R,fun _ _ _ _ h=>h⟩,⟨_,R,fun _ _ _ _ h=>h⟩,trivial⟩
 ·refine .cF R hc ?_
  refine .skip (.seqN (.seq (.seq (.reg (.mv R (.op (O.len sl32 Z R R) R (.op (O.faP y1z Z R R) R (.op (O.ld nag32 Z R (.B R) R R) R (.op (O.len sl32 Z R R) R (.bi R (.nil (.seqN ?_))))))))))))
  rcases ifS hm with ⟨hc,hm⟩ | ⟨hc,hm⟩
  ·refine .cT R hc ?_
   refine .seq (.reg (.op (O.bu (l:=[lN,lI 0,lN,lN]) pl35 R Z R R R) R (.op (O.st ag35.sz Z R R R R R) R (.sa R (.nil (.seqN (.ret (.seqR (.nlb qI 3 1 0 R R (.nlb qI 3 1 2 R R (.nlb qT 124 1 3 R R ?_)))))))))))
   obtain rfl:=oi hm
   exact WX.rt [2,3,4] (.inl R) Tryz.results175 (.cell R R ag35 R (.tmp R .nil)) R (fun _ _ _ h=>h) ⟨⟨_,R,fun _ _ _ _ h=>h⟩,⟨_,R,fun _ _ _ _ h=>h⟩,⟨_,R,fun _ _ _ _ h=>h⟩,trivial⟩
  ·refine .cF R hc ?_
   refine .skip (.seqN (.seq (.seq (.reg (.mv R (.op (O.len sl32 Z R R) R (.mv R (.nil (.seqN (.block (bS hm fun o9 eo9 hm=>?_)))))))))))
   refine .cutU (z:= .exit 0) (fun u11=> .inl u11=o9) (fun (u11:Unit)=>⟨[(4,.q 0 0),(2,.q 1 0),(1,.f qI p1)],[(0,.bx 35 [lN,lI 0,lN,lN]),(1,.bx 35 [lF qI p0.1,lI p0.2.1,lF qI p0.2.2.1,lF qT p0.2.2.2])],2⟩) ?_ fun K12=>?_
   ·rintro u11 rfl
    dsimp only at hm
    refine .blkE (.seqN (.seq ?_))
    refine .sub (τ:=⟨[(4,.q 0 0),(2,.q 1 0),(1,.f qI p1)],[(0,.bx 35 [lN,lI 0,lN,lN]),(1,.bx 35 [lF qI p0.1,lI p0.2.1,lF qI p0.2.2.1,lF qT p0.2.2.2])],2⟩) ?_ [] R
    refine bS hm fun r13 er13 hm=>bS hm fun r14 er14 hm=>?_
    refine .drz 4 [(8,3)] [(2,[],[],[]),(2,[oT],[],[]),(2,[oT,oT],[],[]),(2,[],[],[]),(2,[oF,oF,oF,oT],[],[]),(2,[],[],[]),(2,[oF,oF,oF,oF,oF,oT],[],[]),(3,[oT,oT,oT,oT,oT,oT,oT],[],[]),(2,[],[],[]),(4,[oT,oT,oT,oT,oT,oT,oT,oT,oT],[],[])] [_,_,_,_,_,_,_,_,_,_] ⟨[(9,.q 3 0),(4,.q 0 0),(2,.q 1 0),(1,.f qI p1)],[(3,.bx 35 [lH 2,lI p0.2.1,lF qI p0.2.2.1,lN]),(2,ROW qI 3 r14),(0,.bx 35 [lN,lI 0,lN,lN]),(1,.bx 35 [lF qI p0.1,lI p0.2.1,lF qI p0.2.2.1,lF qT p0.2.2.2])],4⟩ ⟨O.mv Z R R,O.ca0 (y5M er13) cf157 R R Z R R R,O.ca (r':= .h 2) [2] [(0,ROW qI 3 r14)] (some 3) (y5N er14) cf156 R R Z R R R R ⟨⟨_,R,fun _ _ _ _ h=>h⟩,trivial⟩ (fun _ _ _ h=>h) R,O.faP y1g Z R R,O.ld nag3 Z R (.B R) R R,O.faP y2j Z R R,O.ld nag32 Z R (.B R) R R,O.bu (l:=[lH 2,lI p0.2.1,lF qI p0.2.2.1,lN]) pl35 R Z R R R,O.al 3 R zz35 R Z R,O.st ag35.sz Z R R R R R,trivial⟩ (by kernel_rfl) R ?_
    refine .seqN (.seq (.seq (.reg (.op (O.faP yo Z R R) R (.op (O.ld nag33 Z R (.B R) R R) R (.op (O.len sl33 Z R R) R (.mv R (.nil (.seqN (.block (bS hm fun o23 eo23 hm=>?_)))))))))))
    refine .cut1 (z:= .exit 3) o23 (fun (o23:EdgL)=>⟨[(9,.q 0 0),(4,.q 3 0)],[(0,.bx 35 [lH 1,lI p0.2.1,lF qI p0.2.2.1,lH 2]),(1,ROW qI 3 r14),(2,ROW qT 124 o23),(3,.bx 35 [lN,lI 0,lN,lN])],4⟩) ?_ fun K25=>?_
    ·skip
     refine .blkE (.seqN (.seq (.reg (.op (O.faP yo Z R R) R (.op (O.ld nag33 Z R (.B R) R R) R (bS hm fun r26 er26 hm=> .op (O.ca (r':= .tp []) [2] [(0,ROW qT 124 r26)] none (y7f er26) cf215 R R Z R R R R ⟨⟨_,R,fun _ _ _ _ h=>h⟩,trivial⟩ (fun _ _ _ h=>h) R) R (.nil (.seqN (.seq (.reg (.op (O.lg (l':=[lH 1,lI p0.2.1,lF qI p0.2.2.1,lH 2]) ag35 Z R (.B R) R R R) R (bS hm fun r27 er27 hm=> .op (O.caY (r':= .g [lH 4,lI r27.2.1,lH 5,lH 6]) [4,5,6] [(0,ROW qI 3 r27.1),(1,ROW qI 3 r27.2.2.1),(2,ROW qT 124 r27.2.2.2)] (some 7) (y5s er27) cf178 R R Z R R ⟨⟨R,.hr R,.rf,.rf,.hr R,trivial⟩,trivial⟩ R ⟨.row flr3,.row flr3,.row y4x,trivial⟩ (fun _ _ _ _ h=>h) ⟨⟨_,R,fun _ _ _ _ h=>h⟩,⟨_,R,fun _ _ _ _ h=>h⟩,⟨_,R,fun _ _ _ _ h=>h⟩,trivial⟩ (fun _ _ _ h=>h) R) R (.op (O.st ag35.sz Z R R R R R) R (.sa R (.nil (.seqN (.ret ?_)))))))))))))))))
     obtain rfl:=oi hm
     exact WX.rt [4,5,6] (.inl R) Tryz.results175 (.cell R R ag35 R (.tmp R .nil)) R (fun _ _ _ h=>h) ⟨⟨_,R,fun _ _ _ _ h=>h⟩,⟨_,R,fun _ _ _ _ h=>h⟩,⟨_,R,fun _ _ _ _ h=>h⟩,trivial⟩
    refine .nlb qT 124 3 3 R R (.iter (fun (st23:Int×EdgL)=>⟨[(59,.i st23.1),(58,.i (p0.2.2.2.length:Int)),(57,.f qT p0.2.2.2),(9,.q 0 0),(4,.q 3 0),(2,.q 4 0),(1,.f qI p1)],[(0,.bx 35 [lH 1,lI p0.2.1,lF qI p0.2.2.1,lH 2]),(1,ROW qI 3 r14),(2,ROW qT 124 st23.2),(3,.bx 35 [lN,lI 0,lN,lN]),(4,.bx 35 [lF qI p0.1,lI p0.2.1,lF qI p0.2.2.1,lF qT p0.2.2.2])],5⟩) eo23 [(0,3),(1,2),(2,4),(3,0),(4,1)] R ?_)
    intro st23 res23 hm ih23 ho23
    unfold y5E at hm
    refine .seq (.reg (.bi R (.nil (.seqN (.seq ?_)))))
    rcases ifS hm with ⟨hc,hm⟩ | ⟨hc,hm⟩
    ·refine .cT R hc ?_
     refine .skip (.seqN (.seq (.block (.seq (.reg (bS hm fun x28 ex28 hm=> .op (O.ix sl33 Z R R ex28 R) R (.op (O.lg (l':=[lI x28.1,lI x28.2.1,lI x28.2.2]) ag124 Z R (.E lv124) R R R) R (.op (O.al 5 R zz124 R Z R) R (.op (O.st ag124.sz Z R R R R R) R (.nil (.seqN (.seq (.reg (.mv R (.op (O.faP y1z Z R R) R (.op (O.ld nag32 Z R (.B R) R R) R (.op (O.faP y3B Z R R) R (.op (O.ld nag3 Z R (.B R) R R) R (bS hm fun r29 er29 hm=> .op (O.ca0 (y5Y er29) cf169 R R Z R R R) R (bS hm fun x30 ex30 hm=> .op (O.ix sl32 Z R R ex30 R) R (.op (O.ld nag3 Z R (.E lv3) R R) R (.op (O.faP y3B Z R R) R (.op (O.st nag3.sz Z R R R R R) R (.nil (.seqN (.reg (.op (O.faP yo Z R R) R (.op (O.ld nag33 Z R (.B R) R R) R (.op (O.lg (l':=[lI x28.1,lI x30,lI x28.2.2]) ag124 Z R (.B R) R R R) R (.op (O.bsF (r:=qT) (zs:=([(x28.1,x30,x28.2.2)]:List (Int×Int×Int))) bs33 R R Z R R R (.c (.p .k (.p .k .k)) .n) R R R) R (bS hm fun x31 ex31 hm=> .op (O.ap 6 Tryz.underlying33 el124 R R Z R R (.fr R) ex31 R) R (.op (O.faP yo Z R R) R (.op (O.st nag33.sz Z R R R R R) R (.nil (.blkN ?_)))))))))))))))))))))))))))))))))))
     exact .seqN (.reg (.bi R (.mv R (.nil ((ih23 _ (oi hm).symm).sub [(2,6)] R)))))
    ·refine .cF R hc ?_
     exact .exit (.seqX (.seqX ((K25 _ (ho23 _ (oi hm).symm)).sub [] R)))
   refine .cutU (z:= .ret) (fun u32=> .inr (u32)=o9) (fun (u32:Int)=>⟨[(5,.i u32),(4,.q 0 0)],[(0,.bx 35 [lN,lI 0,lN,lN])],1⟩) ?_ fun K33=>?_
   ·rintro u32 rfl
    dsimp only at hm
    refine .blkR (.seqR (.nlb qI 3 0 0 R R (.nlb qI 3 0 2 R R (.nlb qT 124 0 3 R R ?_))))
    obtain rfl:=oi hm
    exact WX.rt [1,2,3] (.inl R) Tryz.results175 (.cell R R ag35 R (.tmp R .nil)) R (fun _ _ _ h=>h) ⟨⟨_,R,fun _ _ _ _ h=>h⟩,⟨_,R,fun _ _ _ _ h=>h⟩,⟨_,R,fun _ _ _ _ h=>h⟩,trivial⟩
   refine .iter (fun (st9:Int)=>⟨[(27,.i st9),(26,.i (p1.length:Int)),(25,.f qI p1),(4,.q 0 0),(2,.q 1 0),(1,.f qI p1)],[(0,.bx 35 [lN,lI 0,lN,lN]),(1,.bx 35 [lF qI p0.1,lI p0.2.1,lF qI p0.2.2.1,lF qT p0.2.2.2])],2⟩) eo9 [(0,1),(1,0)] R ?_
   intro st9 res9 hm ih9 ho9
   unfold y5F at hm
   refine .seq (.reg (.bi R (.nil (.seqN (.seq ?_)))))
   rcases ifS hm with ⟨hc,hm⟩ | ⟨hc,hm⟩
   ·refine .cT R hc ?_
    refine .skip (.seqN (.seq (.block (.seq (.reg (.mv R (bS hm fun x34 ex34 hm=> .op (O.ix sl32 Z R R ex34 R) R (.op (O.ld nag3 Z R (.E lv3) R R) R (.sa R (.sa R (.nil (.seqN (.block (.seq (.reg (.mv R (.bi R (.mv R ?_))))))))))))))))))
    refine .cut 3 (fun (v35:Bool)=>((decide (x34 < 0)) || (decide (x34≥32)))=v35) (fun v35=>⟨[(38,.b v35),(8,.i x34),(7,.i st9),(27,.i st9),(26,.i (p1.length:Int)),(25,.f qI p1),(4,.q 0 0),(2,.q 1 0),(1,.f qI p1)],[(0,.bx 35 [lN,lI 0,lN,lN]),(1,.bx 35 [lF qI p0.1,lI p0.2.1,lF qI p0.2.2.1,lF qT p0.2.2.2])],2⟩) ?_ ?_
    ·rintro _ rfl
     refine .sa R (.nil (.seqN ?_))
     rcases ifS hm with ⟨hc,hm⟩ | ⟨hc,hm⟩
     ·refine .cT R hc ?_
      exact .seq (.reg (.op (O.bu (l:=[lN,lI 0,lN,lN]) pl35 R Z R R R) R (.op (O.st ag35.sz Z R R R R R) R (.sa R (.nil (.seqN (.ret (.blkR (.blkR (.seqR (.seqR ((K33 _ (ho9 _ (oi hm).symm)).sub [] R))))))))))))
     ·refine .cF R hc ?_
      refine .seq (.reg (.mv R (.mv R (bS hm fun x37 ex37 hm=> .op (O.sh sl32 Z R R ex37 R) R (.mv R (bS hm fun r38 er38 hm=> .op (O.ca0 (yX er38) cf104 R R Z R R R) R (.sa R (.nil (.seqN ?_)))))))))
      rcases ifS hm with ⟨hc,hm⟩ | ⟨hc,hm⟩
      ·refine .cT R hc ?_
       exact .seq (.reg (.op (O.bu (l:=[lN,lI 0,lN,lN]) pl35 R Z R R R) R (.op (O.st ag35.sz Z R R R R R) R (.sa R (.nil (.seqN (.ret (.blkR (.blkR (.seqR (.seqR ((K33 _ (ho9 _ (oi hm).symm)).sub [] R))))))))))))
      ·refine .cF R hc ?_
       exact .skip (.blkN (.blkN (.seqN (.reg (.bi R (.mv R (.nil ((ih9 _ (oi hm).symm).sub [] R))))))))
    ·intro J36
     rcases Bool.eq_false_or_eq_true (decide (x34 < 0)) with hc | hc
     ·refine .know (d:=35) R hc ?_
      exact .sk R (.sk R (.op (O.pkT Z R R R R) R ((J36 true (orT hc).symm).sub [] R)))
     ·refine .know (d:=35) R hc ?_
      exact .op (O.mv (Gu.mk R R) R R) R (.op (O.bi (Gu.mk R R) R R R R) R (.op (O.pkF Z R R R R) R ((J36 (decide (x34≥32)) (orF hc).symm).sub [] R)))
   ·refine .cF R hc ?_
    exact .exit (.seqX (.seqX ((K12 _ (ho9 _ (oi hm).symm)).sub [] R)))
def y4O (p0:List Int) (p1:List Int) (st5:Int):Option (Int ⊕ (Unit ⊕ Unit)):=
 if decide (st5 < (p0.length:Int)) then
  (idx p0 st5).bind fun x10=>
  (idx p1 st5).bind fun x11=>
  if(x10 != x11) then
   some (.inr (.inr (())))
  else
   some (.inl (W (st5 + 1)))
 else
  some (.inr (.inl ()))
def y1P (p0:List Int) (p1:List Int):Option Bool:=
 if((p0.length:Int) != (p1.length:Int)) then
  some false
 else
  (iter (y4O p0 p1) 0).bind fun o5=>
  match o5 with
  | .inl u6=>
   some true
  | .inr (u8)=>
   some false
theorem y2U {p0:List Int} {p1:List Int} {r:Bool} (hm:y1P p0 p1=some r):
  Fw Tryz.prog 59 ⟨0,[]⟩ [.f qI p0,.f qI p1] [] (.b r) []:=by
 unfold y1P at hm
 refine Fw.mk' Tryz.func59 R Tryz.ntmps59 R R (fun C=>?_) R R
 refine .seq (.reg (.sa R (.nil (.seqN (.seq (.seq (.reg (.mv R (.op (O.len sl32 Z R R) R (.mv R (.op (O.len sl32 Z R R) R (.bi R (.nil (.seqN ?_))))))))))))))
 rcases ifS hm with ⟨hc,hm⟩ | ⟨hc,hm⟩
 ·refine .cT R hc ?_
  refine .seq (.reg (.sa R (.nil (.seqN (.ret (.seqR ?_))))))
  obtain rfl:=oi hm
  exact WX.rt [] (.inl R) Tryz.results59 (.tmp R .nil) R (fun _ _ _ h=>h) trivial
 ·refine .cF R hc ?_
  refine .skip (.seqN (.seq (.seq (.reg (.sa R (.nil (.seqN (.block (bS hm fun o5 eo5 hm=>?_)))))))))
  refine .cutU (z:= .exit 0) (fun u6=> .inl u6=o5) (fun (u6:Unit)=>⟨[],[],0⟩) ?_ fun K7=>?_
  ·rintro u6 rfl
   dsimp only at hm
   refine .blkE (.seqN (.seq (.reg (.sa R (.nil (.seqN (.ret ?_)))))))
   obtain rfl:=oi hm
   exact WX.rt [] (.inl R) Tryz.results59 (.tmp R .nil) R (fun _ _ _ h=>h) trivial
  refine .cutU (z:= .ret) (fun u8=> .inr (u8)=o5) (fun (u8:Unit)=>⟨[(4,.b false)],[],0⟩) ?_ fun K9=>?_
  ·rintro u8 rfl
   dsimp only at hm
   refine .blkR (.seqR ?_)
   obtain rfl:=oi hm
   exact WX.rt [] (.inl R) Tryz.results59 (.tmp R .nil) R (fun _ _ _ h=>h) trivial
  refine .iter (fun (st5:Int)=>⟨[(5,.i st5),(0,.f qI p0),(1,.f qI p1)],[],0⟩) eo5 [] R ?_
  intro st5 res5 hm ih5 ho5
  unfold y4O at hm
  refine .seq (.seq (.reg (.mv R (.mv R (.op (O.len sl32 Z R R) R (.bi R (.nil (.seqN ?_))))))))
  rcases ifS hm with ⟨hc,hm⟩ | ⟨hc,hm⟩
  ·refine .cT R hc ?_
   refine .skip (.seqN (.seq (.block (.seq ?_))))
   refine .sub (τ:=⟨[(5,.i st5),(0,.f qI p0),(1,.f qI p1)],[],0⟩) ?_ [] R
   refine bS hm fun x10 ex10 hm=>bS hm fun x11 ex11 hm=>?_
   refine .drw [(0,[]),(0,[]),(0,[oT,oT]),(0,tT 3),(0,[]),(0,[]),(0,[oF,oF,oF,oF,oT,oT]),(0,fA 4 (tT 3)),(0,tT 8)] [_,_,_,_,_,_,_,_,_] ⟨[(25,.b (x10 != x11)),(5,.i st5),(0,.f qI p0),(1,.f qI p1)],[],0⟩ ⟨O.mv Z R R,O.mv Z R R,O.ix sl32 Z R R ex10 R,O.ld nag3 Z R (.E lv3) R R,O.mv Z R R,O.mv Z R R,O.ix sl32 Z R R ex11 R,O.ld nag3 Z R (.E lv3) R R,O.bi Z R R R R,trivial⟩ (by kernel_rfl) R ?_
   refine .seqN ?_
   rcases ifS hm with ⟨hc,hm⟩ | ⟨hc,hm⟩
   ·refine .cT R hc ?_
    exact .seq (.reg (.sa R (.nil (.seqN (.ret (.blkR (.seqR (.seqR ((K9 _ (ho5 _ (oi hm).symm)).sub [] R)))))))))
   ·refine .cF R hc ?_
    exact .skip (.blkN (.seqN (.reg (.mv R (.bi R (.sa R (.nil ((ih5 _ (oi hm).symm).sub [] R))))))))
  ·refine .cF R hc ?_
   exact .exit (.seqX (.seqX ((K7 _ (ho5 _ (oi hm).symm)).sub [] R)))
def y5t (p0:AutT) (p1:AutT) (st13:Int):Option (Int ⊕ (Unit ⊕ Unit)):=
 if decide (st13 < (p0.2.2.2.length:Int)) then
  (idx p0.2.2.2 st13).bind fun x18=>
  (idx p1.2.2.2 st13).bind fun x19=>
  if(!(x18.1 == x19.1 && (x18.2.1 == x19.2.1 && (x18.2.2 == x19.2.2 && true)))) then
   some (.inr (.inr (())))
  else
   some (.inl (W (st13 + 1)))
 else
  some (.inr (.inl ()))
def y4Q (p0:AutT) (p1:AutT):Option Bool:=
 (y1P p0.1 p1.1).bind fun r1=>
 (if ((!r1) || (p0.2.1 != p1.2.1)) then
  some true
 else
  (y1P p0.2.2.1 p1.2.2.1).bind fun r20=>
  some (!r20)).bind fun b4=>
 if(b4 || ((p0.2.2.2.length:Int) != (p1.2.2.2.length:Int))) then
  some false
 else
  (iter (y5t p0 p1) 0).bind fun o13=>
  match o13 with
  | .inl u14=>
   some true
  | .inr (u16)=>
   some false
theorem y7t {p0:AutT} {p1:AutT} {r:Bool} (hm:y4Q p0 p1=some r):
  Fw Tryz.prog 176 ⟨0,[]⟩ [.a [lF qI p0.1,lI p0.2.1,lF qI p0.2.2.1,lF qT p0.2.2.2],.a [lF qI p1.1,lI p1.2.1,lF qI p1.2.2.1,lF qT p1.2.2.2]] [] (.b r) []:=by
 unfold y4Q at hm
 refine Fw.mk' Tryz.func176 R Tryz.ntmps176 R R (fun C=>?_) R R
 refine .seq (.reg (.op (O.box 0 R Z R R R) R (.op (O.box 1 R Z R R R) R (.sa R (.nil (.seqN (.seq (.seq (.reg (.op (O.faP y1z Z R R) R (.op (O.ld nag32 Z R (.B R) R R) R (.op (O.faP y1z Z R R) R (.op (O.ld nag32 Z R (.B R) R R) R (bS hm fun r1 er1 hm=> .op (O.ca0 (y2U er1) cf59 R R Z R R R) R (.op (O.not Z R R) R (.mv R ?_))))))))))))))))
 refine .cut 6 (fun (v2:Bool)=>((!r1) || (p0.2.1 != p1.2.1))=v2) (fun v2=>⟨[(18,.b v2),(3,.q 1 0),(2,.q 0 0)],[(1,.bx 35 [lF qI p1.1,lI p1.2.1,lF qI p1.2.2.1,lF qT p1.2.2.2]),(0,.bx 35 [lF qI p0.1,lI p0.2.1,lF qI p0.2.2.1,lF qT p0.2.2.2])],2⟩) ?_ ?_
 ·rintro _ rfl
  refine .mv R (bS hm fun b4 eb4 hm=>?_)
  refine .cut 7 (fun (v5:Bool)=>b4=v5) (fun v5=>⟨[(26,.b v5),(3,.q 1 0),(2,.q 0 0)],[(1,.bx 35 [lF qI p1.1,lI p1.2.1,lF qI p1.2.2.1,lF qT p1.2.2.2]),(0,.bx 35 [lF qI p0.1,lI p0.2.1,lF qI p0.2.2.1,lF qT p0.2.2.2])],2⟩) ?_ ?_
  ·rintro _ rfl
   refine .mv R ?_
   refine .cut 8 (fun (v7:Bool)=>(b4 || ((p0.2.2.2.length:Int) != (p1.2.2.2.length:Int)))=v7) (fun v7=>⟨[(35,.b v7),(3,.q 1 0),(2,.q 0 0)],[(1,.bx 35 [lF qI p1.1,lI p1.2.1,lF qI p1.2.2.1,lF qT p1.2.2.2]),(0,.bx 35 [lF qI p0.1,lI p0.2.1,lF qI p0.2.2.1,lF qT p0.2.2.2])],2⟩) ?_ ?_
   ·rintro _ rfl
    refine .nil (.seqN ?_)
    rcases ifS hm with ⟨hc,hm⟩ | ⟨hc,hm⟩
    ·refine .cT R hc ?_
     refine .seq (.reg (.sa R (.nil (.seqN (.ret (.seqR ?_))))))
     obtain rfl:=oi hm
     exact WX.rt [] (.inl R) Tryz.results176 (.tmp R .nil) R (fun _ _ _ h=>h) trivial
    ·refine .cF R hc ?_
     refine .skip (.seqN (.seq (.seq (.reg (.sa R (.nil (.seqN (.block (bS hm fun o13 eo13 hm=>?_)))))))))
     refine .cutU (z:= .exit 0) (fun u14=> .inl u14=o13) (fun (u14:Unit)=>⟨[],[],0⟩) ?_ fun K15=>?_
     ·rintro u14 rfl
      dsimp only at hm
      refine .blkE (.seqN (.seq (.reg (.sa R (.nil (.seqN (.ret ?_)))))))
      obtain rfl:=oi hm
      exact WX.rt [] (.inl R) Tryz.results176 (.tmp R .nil) R (fun _ _ _ h=>h) trivial
     refine .cutU (z:= .ret) (fun u16=> .inr (u16)=o13) (fun (u16:Unit)=>⟨[(4,.b false)],[],0⟩) ?_ fun K17=>?_
     ·rintro u16 rfl
      dsimp only at hm
      refine .blkR (.seqR ?_)
      obtain rfl:=oi hm
      exact WX.rt [] (.inl R) Tryz.results176 (.tmp R .nil) R (fun _ _ _ h=>h) trivial
     refine .iter (fun (st13:Int)=>⟨[(5,.i st13),(3,.q 0 0),(2,.q 1 0)],[(0,.bx 35 [lF qI p1.1,lI p1.2.1,lF qI p1.2.2.1,lF qT p1.2.2.2]),(1,.bx 35 [lF qI p0.1,lI p0.2.1,lF qI p0.2.2.1,lF qT p0.2.2.2])],2⟩) eo13 [(0,1),(1,0)] R ?_
     intro st13 res13 hm ih13 ho13
     unfold y5t at hm
     refine .seq (.seq (.reg (.mv R (.op (O.faP yo Z R R) R (.op (O.ld nag33 Z R (.B R) R R) R (.op (O.len sl33 Z R R) R (.bi R (.nil (.seqN ?_)))))))))
     rcases ifS hm with ⟨hc,hm⟩ | ⟨hc,hm⟩
     ·refine .cT R hc ?_
      refine .skip (.seqN (.seq (.block (.seq ?_))))
      refine .sub (τ:=⟨[(5,.i st13),(3,.q 0 0),(2,.q 1 0)],[(0,.bx 35 [lF qI p1.1,lI p1.2.1,lF qI p1.2.2.1,lF qT p1.2.2.2]),(1,.bx 35 [lF qI p0.1,lI p0.2.1,lF qI p0.2.2.1,lF qT p0.2.2.2])],2⟩) ?_ [] R
      refine bS hm fun x18 ex18 hm=>bS hm fun x19 ex19 hm=>?_
      refine .drw [(2,[]),(2,[oT]),(2,[]),(2,tT 3),(2,tT 4),(2,[]),(2,[oF,oF,oF,oF,oF,oT]),(2,[]),(2,fA 5 (tT 3)),(2,fA 5 (tT 4)),(2,tT 10)] [_,_,_,_,_,_,_,_,_,_,_] ⟨[(53,.b (!(x18.1 == x19.1 && (x18.2.1 == x19.2.1 && (x18.2.2 == x19.2.2 && true))))),(5,.i st13),(3,.q 0 0),(2,.q 1 0)],[(0,.bx 35 [lF qI p1.1,lI p1.2.1,lF qI p1.2.2.1,lF qT p1.2.2.2]),(1,.bx 35 [lF qI p0.1,lI p0.2.1,lF qI p0.2.2.1,lF qT p0.2.2.2])],2⟩ ⟨O.faP yo Z R R,O.ld nag33 Z R (.B R) R R,O.mv Z R R,O.ix sl33 Z R R ex18 R,O.lg (l':=[lI x18.1,lI x18.2.1,lI x18.2.2]) ag124 Z R (.E lv124) R R R,O.faP yo Z R R,O.ld nag33 Z R (.B R) R R,O.mv Z R R,O.ix sl33 Z R R ex19 R,O.lg (l':=[lI x19.1,lI x19.2.1,lI x19.2.2]) ag124 Z R (.E lv124) R R R,O.nes (us:=[.int .i64 x18.1,.int .i64 x18.2.1,.int .i64 x18.2.2]) (vs:=[.int .i64 x19.1,.int .i64 x19.2.1,.int .i64 x19.2.2]) (b:=(x18.1 == x19.1 && (x18.2.1 == x19.2.1 && (x18.2.2 == x19.2.2 && true)))) (Eqs.mk Tryz.underlying124 (by kernel_rfl) fun w=>(y4F rfl nag3.agg nag3.sz rfl rfl (run_equalIn_int _ _ _ _ _ _ _ Tryz.underlying3) (y4F rfl nag3.agg nag3.sz rfl rfl (run_equalIn_int _ _ _ _ _ _ _ Tryz.underlying3) (y4F rfl nag3.agg nag3.sz rfl rfl (run_equalIn_int _ _ _ _ _ _ _ Tryz.underlying3) rfl)))) (by kernel_rfl) Z R R R R,trivial⟩ (by kernel_rfl) R ?_
      refine .seqN ?_
      rcases ifS hm with ⟨hc,hm⟩ | ⟨hc,hm⟩
      ·refine .cT R hc ?_
       exact .seq (.reg (.sa R (.nil (.seqN (.ret (.blkR (.seqR (.seqR ((K17 _ (ho13 _ (oi hm).symm)).sub [] R)))))))))
      ·refine .cF R hc ?_
       exact .skip (.blkN (.seqN (.reg (.mv R (.bi R (.sa R (.nil ((ih13 _ (oi hm).symm).sub [] R))))))))
     ·refine .cF R hc ?_
      exact .exit (.seqX (.seqX ((K15 _ (ho13 _ (oi hm).symm)).sub [] R)))
   ·intro J8
    rcases Bool.eq_false_or_eq_true b4 with hc | hc
    ·refine .know (d:=27) R hc ?_
     exact .sk R (.sk R (.sk R (.sk R (.sk R (.sk R (.sk R (.op (O.pkT Z R R R R) R ((J8 true (orT hc).symm).sub [] R))))))))
    ·refine .know (d:=27) R hc ?_
     exact .op (O.faP yo (Gu.mk R R) R R) R (.op (O.ld nag33 (Gu.mk R R) R (.B R) R R) R (.op (O.len sl33 (Gu.mk R R) R R) R (.op (O.faP yo (Gu.mk R R) R R) R (.op (O.ld nag33 (Gu.mk R R) R (.B R) R R) R (.op (O.len sl33 (Gu.mk R R) R R) R (.op (O.bi (Gu.mk R R) R R R R) R (.op (O.pkF Z R R R R) R ((J8 ((p0.2.2.2.length:Int) != (p1.2.2.2.length:Int)) (orF hc).symm).sub [] R))))))))
  ·intro J6
   rcases ifS eb4 with ⟨hc,hm⟩ | ⟨hc,hm⟩
   ·refine .know (d:=19) R hc ?_
    exact .sk R (.sk R (.sk R (.sk R (.sk R (.sk R (.op (O.pkT Z R R R R) R ((J6 true (oi hm).symm).sub [] R)))))))
   ·refine .know (d:=19) R hc ?_
    exact .op (O.faP y2j (Gu.mk R R) R R) R (.op (O.ld nag32 (Gu.mk R R) R (.B R) R R) R (.op (O.faP y2j (Gu.mk R R) R R) R (.op (O.ld nag32 (Gu.mk R R) R (.B R) R R) R (bS hm fun r20 er20 hm=> .op (O.ca0 (y2U er20) cf59 R R (Gu.mk R R) R R R) R (.op (O.not (Gu.mk R R) R R) R (.op (O.pkF Z R R R R) R ((J6 (!r20) (oi hm).symm).sub [] R)))))))
 ·intro J3
  rcases Bool.eq_false_or_eq_true (!r1) with hc | hc
  ·refine .know (d:=12) R hc ?_
   exact .sk R (.sk R (.sk R (.sk R (.sk R (.op (O.pkT Z R R R R) R ((J3 true (orT hc).symm).sub [] R))))))
  ·refine .know (d:=12) R hc ?_
   exact .op (O.faP y1g (Gu.mk R R) R R) R (.op (O.ld nag3 (Gu.mk R R) R (.B R) R R) R (.op (O.faP y1g (Gu.mk R R) R R) R (.op (O.ld nag3 (Gu.mk R R) R (.B R) R R) R (.op (O.bi (Gu.mk R R) R R R R) R (.op (O.pkF Z R R R R) R ((J3 (p0.2.1 != p1.2.1) (orF hc).symm).sub [] R))))))
def y4L :Option Bool:=
 (y4t).bind fun r1=>
 (y4J r1).bind fun r2=>
 (y6g r2.1 0 ([0,0]:List Int)).bind fun r3=>
 (yY r2.1 2 true).bind fun r4=>
 (y4Y r2.1 ([3,1]:List Int)).bind fun r5=>
 (if (r2.2 == 0) then
  (y4Q r2.1 (([0,2]:List Int),2,([1]:List Int),([(0,0,1),(0,2,0),(1,2,0)]:List (Int×Int×Int)))).bind fun r37=>
  some r37
 else
  some false).bind fun b6=>
 (if (((((b6 && (r3.2.2 == 0)) && (r3.1 == 1)) && (r3.2.1 == 1)) && (r4.2 == 0)) && ((r4.1.length:Int) == 2)) then
  (idx r4.1 0).bind fun x35=>
  (y1P x35 ([0]:List Int)).bind fun r36=>
  some r36
 else
  some false).bind fun b19=>
 (if b19 then
  (idx r4.1 1).bind fun x33=>
  (y1P x33 ([2,0]:List Int)).bind fun r34=>
  some r34
 else
  some false).bind fun b22=>
 (if ((b22 && (r5.2 == 0)) && ((r5.1.2.2.2.length:Int) == 3)) then
  (idx r5.1.2.2.2 1).bind fun x32=>
  some (x32.1 == 0 && (x32.2.1 == 3 && (x32.2.2 == 1 && true)))
 else
  some false).bind fun b29=>
 some b29
theorem y7g {r:Bool} (hm:y4L=some r):
  Fw Tryz.prog 112 ⟨0,[]⟩ [] [] (.b r) []:=by
 unfold y4L at hm
 refine Fw.mk' Tryz.func112 R Tryz.ntmps112 R R (fun C=>?_) R R
 refine .seq (.reg (.sa R (.nil (.seqN (.seq (.reg (bS hm fun r1 er1 hm=> .op (O.ca0 (y6H er1) cf174 R R Z R R R) R (bS hm fun r2 er2 hm=> .op (O.ca (r':= .tp [.a [lH 0,lI r2.1.2.1,lH 1,lH 2],.i r2.2]) [0,1,2] [(0,ROW qI 3 r2.1.1),(1,ROW qI 3 r2.1.2.2.1),(2,ROW qT 124 r2.1.2.2.2)] (some 3) (y7e er2) cf116 R R Z R R R R ⟨⟨_,R,fun _ _ _ _ h=>h⟩,⟨_,R,fun _ _ _ _ h=>h⟩,⟨_,R,fun _ _ _ _ h=>h⟩,trivial⟩ (fun _ _ _ h=>h) R) R (.mv R (.op (O.ex Z R R R) R (.op (O.ex Z R R R) R (.op (O.al 3 R zz35 R Z R) R (.op (O.st ag35.sz Z R R R R R) R (.sa R (.nil (.seqN (.seq (.reg (.op (O.lg (l':=[lH 0,lI r2.1.2.1,lH 1,lH 2]) ag35 Z R (.B R) R R R) R (.op (O.bsF (r:=qI) (zs:=([0,0]:List Int)) bs32 R R Z R R R (.c .k (.c .k .n)) R R R) R (bS hm fun r3 er3 hm=> .op (O.caZ (y8T er3) cf35 R R Z R ⟨⟨R,.hr R,.rf,.hr R,.hr R,trivial⟩,⟨R,LnL.rf⟩,⟨R,LnL.rf⟩,trivial⟩ (fun _ _ _ _ _ h=>h) R) R (.mv R (.op (O.ex Z R R R) R (.op (O.ex Z R R R) R (.op (O.ex Z R R R) R (.sa R (.sa R (.sa R (.nil (.seqN (.seq (.reg (.op (O.lg (l':=[lH 0,lI r2.1.2.1,lH 1,lH 2]) ag35 Z R (.B R) R R R) R (.fz 0 [23] [3] R R fR R R (.fz 1 [23] [3] R R fR R R (.fz 2 [23] [3] R R fR R R ?_))))))))))))))))))))))))))))))))))))
 refine bS hm fun r4 er4 hm=> .op (O.ca (r':= .tp [.h 4,.i r4.2]) [4] [(0,ROW (rL qI) 32 r4.1)] (some 5) (y6j er4) cf34 R R Z R R R R ⟨⟨_,R,fun _ _ _ _ h=>h⟩,trivial⟩ (fun _ _ _ h=>h) R) R (.mv R (.op (O.ex Z R R R) R (.op (O.ex Z R R R) R (.sa R (.sa R (.nil (.seqN (.seq (.reg (.op (O.lg (l':=[lF qI r2.1.1,lI r2.1.2.1,lF qI r2.1.2.2.1,lF qT r2.1.2.2.2]) ag35 Z R (.B R) R R R) R (.op (O.bsF (r:=qI) (zs:=([3,1]:List Int)) bs32 R R Z R R R (.c .k (.c .k .n)) R R R) R (bS hm fun r5 er5 hm=> .op (O.ca (r':= .tp [.a [lH 5,lI r5.1.2.1,lH 6,lH 7],.i r5.2]) [5,6,7] [(0,ROW qI 3 r5.1.1),(1,ROW qI 3 r5.1.2.2.1),(2,ROW qT 124 r5.1.2.2.2)] (some 8) (y7O er5) cf175 R R Z R R R R ⟨⟨_,R,fun _ _ _ _ h=>h⟩,⟨_,R,fun _ _ _ _ h=>h⟩,⟨_,R,fun _ _ _ _ h=>h⟩,trivial⟩ (fun _ _ _ h=>h) R) R (.mv R (.op (O.ex Z R R R) R (.op (O.ex Z R R R) R (.op (O.al 8 R zz35 R Z R) R (.op (O.st ag35.sz Z R R R R R) R (.sa R (.nil (.seqN (.seq (.reg (.mv R (.bi R (.mv R (bS hm fun b6 eb6 hm=>?_))))))))))))))))))))))))))
 refine .cut 10 (fun (v7:Bool)=>b6=v7) (fun v7=>⟨[(45,.b v7),(9,.i r5.2),(8,.q 8 0),(7,.i r4.2),(6,.h 4),(5,.i r3.2.2),(4,.i r3.2.1),(3,.i r3.1)],[(8,.bx 35 [lH 5,lI r5.1.2.1,lH 6,lH 7]),(5,ROW qI 3 r5.1.1),(6,ROW qI 3 r5.1.2.2.1),(7,ROW qT 124 r5.1.2.2.2),(4,ROW (rL qI) 32 r4.1)],9⟩) ?_ ?_
 ·rintro _ rfl
  refine .mv R ?_
  refine .cut 3 (fun (v9:Bool)=>(b6 && (r3.2.2 == 0))=v9) (fun v9=>⟨[(49,.b v9),(9,.i r5.2),(8,.q 8 0),(7,.i r4.2),(6,.h 4),(4,.i r3.2.1),(3,.i r3.1)],[(8,.bx 35 [lH 5,lI r5.1.2.1,lH 6,lH 7]),(5,ROW qI 3 r5.1.1),(6,ROW qI 3 r5.1.2.2.1),(7,ROW qT 124 r5.1.2.2.2),(4,ROW (rL qI) 32 r4.1)],9⟩) ?_ ?_
  ·rintro _ rfl
   refine .mv R ?_
   refine .cut 3 (fun (v11:Bool)=>((b6 && (r3.2.2 == 0)) && (r3.1 == 1))=v11) (fun v11=>⟨[(53,.b v11),(9,.i r5.2),(8,.q 8 0),(7,.i r4.2),(6,.h 4),(4,.i r3.2.1)],[(8,.bx 35 [lH 5,lI r5.1.2.1,lH 6,lH 7]),(5,ROW qI 3 r5.1.1),(6,ROW qI 3 r5.1.2.2.1),(7,ROW qT 124 r5.1.2.2.2),(4,ROW (rL qI) 32 r4.1)],9⟩) ?_ ?_
   ·rintro _ rfl
    refine .mv R ?_
    refine .cut 3 (fun (v13:Bool)=>(((b6 && (r3.2.2 == 0)) && (r3.1 == 1)) && (r3.2.1 == 1))=v13) (fun v13=>⟨[(57,.b v13),(9,.i r5.2),(8,.q 8 0),(7,.i r4.2),(6,.h 4)],[(8,.bx 35 [lH 5,lI r5.1.2.1,lH 6,lH 7]),(5,ROW qI 3 r5.1.1),(6,ROW qI 3 r5.1.2.2.1),(7,ROW qT 124 r5.1.2.2.2),(4,ROW (rL qI) 32 r4.1)],9⟩) ?_ ?_
    ·rintro _ rfl
     refine .mv R ?_
     refine .cut 3 (fun (v15:Bool)=>((((b6 && (r3.2.2 == 0)) && (r3.1 == 1)) && (r3.2.1 == 1)) && (r4.2 == 0))=v15) (fun v15=>⟨[(61,.b v15),(9,.i r5.2),(8,.q 8 0),(6,.h 4)],[(8,.bx 35 [lH 5,lI r5.1.2.1,lH 6,lH 7]),(5,ROW qI 3 r5.1.1),(6,ROW qI 3 r5.1.2.2.1),(7,ROW qT 124 r5.1.2.2.2),(4,ROW (rL qI) 32 r4.1)],9⟩) ?_ ?_
     ·rintro _ rfl
      refine .mv R ?_
      refine .cut 4 (fun (v17:Bool)=>(((((b6 && (r3.2.2 == 0)) && (r3.1 == 1)) && (r3.2.1 == 1)) && (r4.2 == 0)) && ((r4.1.length:Int) == 2))=v17) (fun v17=>⟨[(66,.b v17),(9,.i r5.2),(8,.q 8 0),(6,.h 4)],[(8,.bx 35 [lH 5,lI r5.1.2.1,lH 6,lH 7]),(5,ROW qI 3 r5.1.1),(6,ROW qI 3 r5.1.2.2.1),(7,ROW qT 124 r5.1.2.2.2),(4,ROW (rL qI) 32 r4.1)],9⟩) ?_ ?_
      ·rintro _ rfl
       refine .mv R (bS hm fun b19 eb19 hm=>?_)
       refine .cut 6 (fun (v20:Bool)=>b19=v20) (fun v20=>⟨[(73,.b v20),(9,.i r5.2),(8,.q 8 0),(6,.h 4)],[(8,.bx 35 [lH 5,lI r5.1.2.1,lH 6,lH 7]),(5,ROW qI 3 r5.1.1),(6,ROW qI 3 r5.1.2.2.1),(7,ROW qT 124 r5.1.2.2.2),(4,ROW (rL qI) 32 r4.1)],9⟩) ?_ ?_
       ·rintro _ rfl
        refine .mv R (bS hm fun b22 eb22 hm=>?_)
        refine .cut 6 (fun (v23:Bool)=>b22=v23) (fun v23=>⟨[(80,.b v23),(9,.i r5.2),(8,.q 8 0)],[(8,.bx 35 [lH 5,lI r5.1.2.1,lH 6,lH 7]),(5,ROW qI 3 r5.1.1),(6,ROW qI 3 r5.1.2.2.1),(7,ROW qT 124 r5.1.2.2.2)],9⟩) ?_ ?_
        ·rintro _ rfl
         refine .mv R ?_
         refine .cut 3 (fun (v25:Bool)=>(b22 && (r5.2 == 0))=v25) (fun v25=>⟨[(84,.b v25),(8,.q 8 0)],[(8,.bx 35 [lH 5,lI r5.1.2.1,lH 6,lH 7]),(5,ROW qI 3 r5.1.1),(6,ROW qI 3 r5.1.2.2.1),(7,ROW qT 124 r5.1.2.2.2)],9⟩) ?_ ?_
         ·rintro _ rfl
          refine .mv R ?_
          refine .cut 5 (fun (v27:Bool)=>((b22 && (r5.2 == 0)) && ((r5.1.2.2.2.length:Int) == 3))=v27) (fun v27=>⟨[(90,.b v27),(8,.q 8 0)],[(8,.bx 35 [lH 5,lI r5.1.2.1,lH 6,lH 7]),(5,ROW qI 3 r5.1.1),(6,ROW qI 3 r5.1.2.2.1),(7,ROW qT 124 r5.1.2.2.2)],9⟩) ?_ ?_
          ·rintro _ rfl
           refine .mv R (bS hm fun b29 eb29 hm=>?_)
           refine .cut 7 (fun (v30:Bool)=>b29=v30) (fun v30=>⟨[(98,.b v30)],[],9⟩) ?_ ?_
           ·rintro _ rfl
            refine .sa R (.nil (.seqN (.ret ?_)))
            obtain rfl:=oi hm
            exact WX.rt [] (.inl R) Tryz.results112 (.tmp R .nil) R (fun _ _ _ h=>h) trivial
           ·intro J31
            rcases ifS eb29 with ⟨hc,hm⟩ | ⟨hc,hm⟩
            ·refine .know (d:=91) R hc ?_
             exact .op (O.faP yo (Gu.mk R R) R R) R (.op (O.ld nag33 (Gu.mk R R) R (.B R) R R) R (bS hm fun x32 ex32 hm=> .op (O.ir sl33 (Gu.mk R R) R R R ex32 R) R (.op (O.lg (l':=[lI x32.1,lI x32.2.1,lI x32.2.2]) ag124 (Gu.mk R R) R (.R R ex32 lv124) R R R) R (.op (O.bu (l:=[lI 0,lI 3,lI 1]) pl124 R (Gu.mk R R) R R R) R (.op (O.eqs (us:=[.int .i64 x32.1,.int .i64 x32.2.1,.int .i64 x32.2.2]) (vs:=[.int .i64 0,.int .i64 3,.int .i64 1]) (b:=(x32.1 == 0 && (x32.2.1 == 3 && (x32.2.2 == 1 && true)))) (Eqs.mk Tryz.underlying124 (by kernel_rfl) fun w=>(y4F rfl nag3.agg nag3.sz rfl rfl (run_equalIn_int _ _ _ _ _ _ _ Tryz.underlying3) (y4F rfl nag3.agg nag3.sz rfl rfl (run_equalIn_int _ _ _ _ _ _ _ Tryz.underlying3) (y4F rfl nag3.agg nag3.sz rfl rfl (run_equalIn_int _ _ _ _ _ _ _ Tryz.underlying3) rfl)))) (by kernel_rfl) (Gu.mk R R) R R R R) R (.op (O.pkT Z R R R R) R ((J31 (x32.1 == 0 && (x32.2.1 == 3 && (x32.2.2 == 1 && true))) (oi hm).symm).sub [] R)))))))
            ·refine .know (d:=91) R hc ?_
             exact .sk R (.sk R (.sk R (.sk R (.sk R (.sk R (.op (O.pkF Z R R R R) R ((J31 false (oi hm).symm).sub [] R)))))))
          ·intro J28
           rcases Bool.eq_false_or_eq_true (b22 && (r5.2 == 0)) with hc | hc
           ·refine .know (d:=85) R hc ?_
            exact .op (O.faP yo (Gu.mk R R) R R) R (.op (O.ld nag33 (Gu.mk R R) R (.B R) R R) R (.op (O.lenH sl33 (Gu.mk R R) R R R) R (.op (O.bi (Gu.mk R R) R R R R) R (.op (O.pkT Z R R R R) R ((J28 ((r5.1.2.2.2.length:Int) == 3) (andT hc).symm).sub [] R)))))
           ·refine .know (d:=85) R hc ?_
            exact .sk R (.sk R (.sk R (.sk R (.op (O.pkF Z R R R R) R ((J28 false (andF hc).symm).sub [] R)))))
         ·intro J26
          rcases Bool.eq_false_or_eq_true b22 with hc | hc
          ·refine .know (d:=81) R hc ?_
           exact .op (O.mv (Gu.mk R R) R R) R (.op (O.bi (Gu.mk R R) R R R R) R (.op (O.pkT Z R R R R) R ((J26 (r5.2 == 0) (andT hc).symm).sub [] R)))
          ·refine .know (d:=81) R hc ?_
           exact .sk R (.sk R (.op (O.pkF Z R R R R) R ((J26 false (andF hc).symm).sub [] R)))
        ·intro J24
         rcases ifS eb22 with ⟨hc,hm⟩ | ⟨hc,hm⟩
         ·refine .know (d:=74) R hc ?_
          exact .op (O.mv (Gu.mk R R) R R) R (bS hm fun x33 ex33 hm=> .op (O.ir sl53 (Gu.mk R R) R R R ex33 R) R (.op (O.ld nag32 (Gu.mk R R) R (.R R ex33 lv32) R R) R (.op (O.bsF (r:=qI) (zs:=([2,0]:List Int)) bs32 R R (Gu.mk R R) R R R (.c .k (.c .k .n)) R R R) R (bS hm fun r34 er34 hm=> .op (O.ca0 (y2U er34) cf59 R R (Gu.mk R R) R R R) R (.op (O.pkT Z R R R R) R ((J24 r34 (oi hm).symm).sub [] R))))))
         ·refine .know (d:=74) R hc ?_
          exact .sk R (.sk R (.sk R (.sk R (.sk R (.op (O.pkF Z R R R R) R ((J24 false (oi hm).symm).sub [] R))))))
       ·intro J21
        rcases ifS eb19 with ⟨hc,hm⟩ | ⟨hc,hm⟩
        ·refine .know (d:=67) R hc ?_
         exact .op (O.mv (Gu.mk R R) R R) R (bS hm fun x35 ex35 hm=> .op (O.ir sl53 (Gu.mk R R) R R R ex35 R) R (.op (O.ld nag32 (Gu.mk R R) R (.R R ex35 lv32) R R) R (.op (O.bsF (r:=qI) (zs:=([0]:List Int)) bs32 R R (Gu.mk R R) R R R (.c .k .n) R R R) R (bS hm fun r36 er36 hm=> .op (O.ca0 (y2U er36) cf59 R R (Gu.mk R R) R R R) R (.op (O.pkT Z R R R R) R ((J21 r36 (oi hm).symm).sub [] R))))))
        ·refine .know (d:=67) R hc ?_
         exact .sk R (.sk R (.sk R (.sk R (.sk R (.op (O.pkF Z R R R R) R ((J21 false (oi hm).symm).sub [] R))))))
      ·intro J18
       rcases Bool.eq_false_or_eq_true ((((b6 && (r3.2.2 == 0)) && (r3.1 == 1)) && (r3.2.1 == 1)) && (r4.2 == 0)) with hc | hc
       ·refine .know (d:=62) R hc ?_
        exact .op (O.mv (Gu.mk R R) R R) R (.op (O.lenH sl53 (Gu.mk R R) R R R) R (.op (O.bi (Gu.mk R R) R R R R) R (.op (O.pkT Z R R R R) R ((J18 ((r4.1.length:Int) == 2) (andT hc).symm).sub [] R))))
       ·refine .know (d:=62) R hc ?_
        exact .sk R (.sk R (.sk R (.op (O.pkF Z R R R R) R ((J18 false (andF hc).symm).sub [] R))))
     ·intro J16
      rcases Bool.eq_false_or_eq_true (((b6 && (r3.2.2 == 0)) && (r3.1 == 1)) && (r3.2.1 == 1)) with hc | hc
      ·refine .know (d:=58) R hc ?_
       exact .op (O.mv (Gu.mk R R) R R) R (.op (O.bi (Gu.mk R R) R R R R) R (.op (O.pkT Z R R R R) R ((J16 (r4.2 == 0) (andT hc).symm).sub [] R)))
      ·refine .know (d:=58) R hc ?_
       exact .sk R (.sk R (.op (O.pkF Z R R R R) R ((J16 false (andF hc).symm).sub [] R)))
    ·intro J14
     rcases Bool.eq_false_or_eq_true ((b6 && (r3.2.2 == 0)) && (r3.1 == 1)) with hc | hc
     ·refine .know (d:=54) R hc ?_
      exact .op (O.mv (Gu.mk R R) R R) R (.op (O.bi (Gu.mk R R) R R R R) R (.op (O.pkT Z R R R R) R ((J14 (r3.2.1 == 1) (andT hc).symm).sub [] R)))
     ·refine .know (d:=54) R hc ?_
      exact .sk R (.sk R (.op (O.pkF Z R R R R) R ((J14 false (andF hc).symm).sub [] R)))
   ·intro J12
    rcases Bool.eq_false_or_eq_true (b6 && (r3.2.2 == 0)) with hc | hc
    ·refine .know (d:=50) R hc ?_
     exact .op (O.mv (Gu.mk R R) R R) R (.op (O.bi (Gu.mk R R) R R R R) R (.op (O.pkT Z R R R R) R ((J12 (r3.1 == 1) (andT hc).symm).sub [] R)))
    ·refine .know (d:=50) R hc ?_
     exact .sk R (.sk R (.op (O.pkF Z R R R R) R ((J12 false (andF hc).symm).sub [] R)))
  ·intro J10
   rcases Bool.eq_false_or_eq_true b6 with hc | hc
   ·refine .know (d:=46) R hc ?_
    exact .op (O.mv (Gu.mk R R) R R) R (.op (O.bi (Gu.mk R R) R R R R) R (.op (O.pkT Z R R R R) R ((J10 (r3.2.2 == 0) (andT hc).symm).sub [] R)))
   ·refine .know (d:=46) R hc ?_
    exact .sk R (.sk R (.op (O.pkF Z R R R R) R ((J10 false (andF hc).symm).sub [] R)))
 ·intro J8
  rcases ifS eb6 with ⟨hc,hm⟩ | ⟨hc,hm⟩
  ·refine .know (d:=35) R hc ?_
   exact .op (O.lg (l':=[lF qI r2.1.1,lI r2.1.2.1,lF qI r2.1.2.2.1,lF qT r2.1.2.2.2]) ag35 (Gu.mk R R) R (.B R) R R R) R (.op (O.bsF (r:=qI) (zs:=([0,2]:List Int)) bs32 R R (Gu.mk R R) R R R (.c .k (.c .k .n)) R R R) R (.op (O.bsF (r:=qI) (zs:=([1]:List Int)) bs32 R R (Gu.mk R R) R R R (.c .k .n) R R R) R (.op (O.bu (l:=[lI 0,lI 0,lI 1]) pl124 R (Gu.mk R R) R R R) R (.op (O.bu (l:=[lI 0,lI 2,lI 0]) pl124 R (Gu.mk R R) R R R) R (.op (O.bu (l:=[lI 1,lI 2,lI 0]) pl124 R (Gu.mk R R) R R R) R (.op (O.bsF (r:=qT) (zs:=([(0,0,1),(0,2,0),(1,2,0)]:List (Int×Int×Int))) bs33 R R (Gu.mk R R) R R R (.c (.p .k (.p .k .k)) (.c (.p .k (.p .k .k)) (.c (.p .k (.p .k .k)) .n))) R R R) R (.op (O.bu (l:=[lF qI ([0,2]:List Int),lI 2,lF qI ([1]:List Int),lF qT ([(0,0,1),(0,2,0),(1,2,0)]:List (Int×Int×Int))]) pl35 R (Gu.mk R R) R R R) R (bS hm fun r37 er37 hm=> .op (O.ca0 (y7t er37) cf176 R R (Gu.mk R R) R R R) R (.op (O.pkT Z R R R R) R ((J8 r37 (oi hm).symm).sub [] R))))))))))
  ·refine .know (d:=35) R hc ?_
   exact .sk R (.sk R (.sk R (.sk R (.sk R (.sk R (.sk R (.sk R (.sk R (.op (O.pkF Z R R R R) R ((J8 false (oi hm).symm).sub [] R))))))))))
def y3X :Option Bool:=
 (y4L).bind fun r1=>
 some r1
theorem y7h {r:Bool} (hm:y3X=some r):
  Fw Tryz.prog 39 ⟨0,[]⟩ [] [] (.b r) []:=by
 unfold y3X at hm
 refine Fw.mk' Tryz.func39 R Tryz.ntmps39 R R (fun C=>?_) R R
 refine .seq (.reg (.sa R (.nil (.seqN (.seq (.reg (bS hm fun r1 er1 hm=> .op (O.ca0 (y7g er1) cf112 R R Z R R R) R (.sa R (.nil (.seqN (.ret ?_)))))))))))
 obtain rfl:=oi hm
 exact WX.rt [] (.inl R) Tryz.results39 (.tmp R .nil) R (fun _ _ _ h=>h) trivial
def yw (r19:AutT×Int) (r20:List (List Int)×Int) (st31:Int):Option (Int ⊕ (Unit ⊕ Unit)):=
 if decide (st31 < (r20.1.length:Int)) then
  (idx r20.1 st31).bind fun x37=>
  (y3k r19.1 x37).bind fun r38=>
  if((!r38.1) || (r38.2 != 0)) then
   some (.inr (.inr (())))
  else
   some (.inl (W (st31 + 1)))
 else
  some (.inr (.inl ()))
def y3o (p0:(Int×y1Y)×(Int×y1Y)×Int):Option Bool:=
 (y3V).bind fun r1=>
 if(!r1) then
  some false
 else
  (y3u p0 true).bind fun r2=>
  (y1Z r2 2).bind fun r3=>
  (y1Z r2 3).bind fun r4=>
  if(((r3.2.2 != 0) || (r4.2.2 != 0)) || (r4.2.1 && (!r3.2.1))) then
   some false
  else
   (y1Z (r2.1,(([]:List Int),1,([0]:List Int),([]:List (Int×Int×Int))),r2.2.2) 3).bind fun r9=>
   (y4v (r2.1,(([]:List Int),1,([0]:List Int),([]:List (Int×Int×Int))),r2.2.2)).bind fun r10=>
   if((((r9.2.2 != 0) || (r10.2.2 != 0)) || (!r9.2.1)) || (!r10.2.1)) then
    some false
   else
    (y2V r2.1.1 r2.2.2).bind fun r17=>
    (y4d r2 r17).bind fun r18=>
    (y4D ([r2.1,r2.2.1]:List AutT)).bind fun r19=>
    (yY r18.1 3 false).bind fun r20=>
    if(((r18.2 != 0) || (r19.2 != 0)) || (r20.2 != 0)) then
     some (r20.2 == 3)
    else
     (iter (yw r19 r20) 0).bind fun o31=>
     match o31 with
     | .inl u32=>
      (y3X).bind fun r34=>
      some r34
     | .inr (u35)=>
      some false
theorem y6y {p0:(Int×y1Y)×(Int×y1Y)×Int} {r:Bool} (hm:y3o p0=some r):
  Fw Tryz.prog 7 ⟨0,[]⟩ [.a (lx30 p0)] [] (.b r) []:=by
 unfold y3o at hm
 refine Fw.mk' Tryz.func7 R Tryz.ntmps7 R R (fun C=>?_) R R
 refine .seq (.reg (.op (O.box 0 R Z R R R) R (.sa R (.nil (.seqN (.seq (.seq (.reg (bS hm fun r1 er1 hm=> .op (O.ca0 (y7a er1) cf15 R R Z R R R) R (.op (O.not Z R R) R (.nil (.seqN ?_))))))))))))
 rcases ifS hm with ⟨hc,hm⟩ | ⟨hc,hm⟩
 ·refine .cT R hc ?_
  refine .seq (.reg (.sa R (.nil (.seqN (.ret (.seqR ?_))))))
  obtain rfl:=oi hm
  exact WX.rt [] (.inl R) Tryz.results7 (.tmp R .nil) R (fun _ _ _ h=>h) trivial
 ·refine .cF R hc ?_
  refine .skip (.seqN (.seq (.reg (.op (O.lg (l':=(lx30 p0)) ag30 Z R (.B R) R R R) R (bS hm fun r2 er2 hm=> .op (O.ca (r':= .g [lF qI r2.1.1,lI r2.1.2.1,lF qI r2.1.2.2.1,lF qT r2.1.2.2.2,lH 1,lI r2.2.1.2.1,lH 2,lH 3,lH 4]) [1,2,3,4] [(0,ROW qI 3 r2.2.1.1),(1,ROW qI 3 r2.2.1.2.2.1),(2,ROW qT 124 r2.2.1.2.2.2),(3,ROW qI 3 r2.2.2)] (some 5) (y7s er2) cf16 R R Z R R R R ⟨⟨_,R,fun _ _ _ _ h=>h⟩,⟨_,R,fun _ _ _ _ h=>h⟩,⟨_,R,fun _ _ _ _ h=>h⟩,⟨_,R,fun _ _ _ _ h=>h⟩,trivial⟩ (fun _ _ _ h=>h) R) R (.op (O.al 5 R zz37 R Z R) R (.op (O.st ag37.sz Z R R R R R) R (.nil (.seqN (.seq (.reg (.op (O.lg (l':=[lF qI r2.1.1,lI r2.1.2.1,lF qI r2.1.2.2.1,lF qT r2.1.2.2.2,lH 1,lI r2.2.1.2.1,lH 2,lH 3,lH 4]) ag37 Z R (.B R) R R R) R (.fz 1 [31] [5] R R fR R R (.fz 2 [31] [5] R R fR R R (.fz 3 [31] [5] R R fR R R (.fz 4 [31] [5] R R fR R R (bS hm fun r3 er3 hm=> .op (O.ca (r':= .tp [.a [lI r3.1.1,lH 6,lF qI r3.1.2.2],.b r3.2.1,.i r3.2.2]) [6] [(0,ROW qI 3 r3.1.2.1)] (some 7) (y5a er3) cf36 R R Z R R R R ⟨⟨_,R,fun _ _ _ _ h=>h⟩,trivial⟩ (fun _ _ _ h=>h) R) R (.mv R (.op (O.ex Z R R R) R (.op (O.ex Z R R R) R (.op (O.ex Z R R R) R (.op (O.al 7 R zz44 R Z R) R (.op (O.st ag44.sz Z R R R R R) R (.sa R (.sa R (.nil (.seqN (.seq (.reg (.op (O.lg (l':=[lF qI r2.1.1,lI r2.1.2.1,lF qI r2.1.2.2.1,lF qT r2.1.2.2.2,lF qI r2.2.1.1,lI r2.2.1.2.1,lF qI r2.2.1.2.2.1,lF qT r2.2.1.2.2.2,lF qI r2.2.2]) ag37 Z R (.B R) R R R) R (bS hm fun r4 er4 hm=> .op (O.ca (r':= .tp [.a [lI r4.1.1,lH 8,lF qI r4.1.2.2],.b r4.2.1,.i r4.2.2]) [8] [(0,ROW qI 3 r4.1.2.1)] (some 9) (y5a er4) cf36 R R Z R R R R ⟨⟨_,R,fun _ _ _ _ h=>h⟩,trivial⟩ (fun _ _ _ h=>h) R) R (.mv R (.op (O.ex Z R R R) R (.op (O.ex Z R R R) R (.op (O.ex Z R R R) R (.op (O.al 9 R zz44 R Z R) R ?_))))))))))))))))))))))))))))))))))))
  refine .op (O.st ag44.sz Z R R R R R) R (.sa R (.sa R (.nil (.seqN (.seq (.seq (.reg (.mv R (.bi R (.mv R ?_))))))))))
  refine .cut 3 (fun (v5:Bool)=>((r3.2.2 != 0) || (r4.2.2 != 0))=v5) (fun v5=>⟨[(47,.b v5),(8,.b r4.2.1),(5,.b r3.2.1),(3,.q 5 0)],[(5,.bx 37 [lF qI r2.1.1,lI r2.1.2.1,lF qI r2.1.2.2.1,lF qT r2.1.2.2.2,lF qI r2.2.1.1,lI r2.2.1.2.1,lF qI r2.2.1.2.2.1,lF qT r2.2.1.2.2.2,lF qI r2.2.2])],10⟩) ?_ ?_
  ·rintro _ rfl
   refine .mv R ?_
   refine .cut 6 (fun (v7:Bool)=>(((r3.2.2 != 0) || (r4.2.2 != 0)) || (r4.2.1 && (!r3.2.1)))=v7) (fun v7=>⟨[(54,.b v7),(3,.q 5 0)],[(5,.bx 37 [lF qI r2.1.1,lI r2.1.2.1,lF qI r2.1.2.2.1,lF qT r2.1.2.2.2,lF qI r2.2.1.1,lI r2.2.1.2.1,lF qI r2.2.1.2.2.1,lF qT r2.2.1.2.2.2,lF qI r2.2.2])],10⟩) ?_ ?_
   ·rintro _ rfl
    refine .nil (.seqN ?_)
    rcases ifS hm with ⟨hc,hm⟩ | ⟨hc,hm⟩
    ·refine .cT R hc ?_
     refine .seq (.reg (.sa R (.nil (.seqN (.ret (.seqR ?_))))))
     obtain rfl:=oi hm
     exact WX.rt [] (.inl R) Tryz.results7 (.tmp R .nil) R (fun _ _ _ h=>h) trivial
    ·refine .cF R hc ?_
     refine .skip (.seqN (.seq (.reg (.op (O.lg (l':=[lF qI r2.1.1,lI r2.1.2.1,lF qI r2.1.2.2.1,lF qT r2.1.2.2.2,lF qI r2.2.1.1,lI r2.2.1.2.1,lF qI r2.2.1.2.2.1,lF qT r2.2.1.2.2.2,lF qI r2.2.2]) ag37 Z R (.B R) R R R) R (.op (O.al 10 R zz37 R Z R) R (.op (O.st ag37.sz Z R R R R R) R (.nil (.seqN (.seq (.reg (.op (O.bsF (r:=qI) (zs:=([0]:List Int)) bs32 R R Z R R R (.c .k .n) R R R) R (.op (O.bu (l:=[lN,lI 1,lF qI ([0]:List Int),lN]) pl35 R Z R R R) R (.op (O.faP y6Q Z R R) R (.op (O.st ag35.sz Z R R R R R) R (.nil (.seqN (.seq (.reg (.op (O.lg (l':=[lF qI r2.1.1,lI r2.1.2.1,lF qI r2.1.2.2.1,lF qT r2.1.2.2.2,lN,lI 1,lF qI ([0]:List Int),lN,lF qI r2.2.2]) ag37 Z R (.B R) R R R) R (bS hm fun r9 er9 hm=> .op (O.cac (r':= .tp [.a [lI r9.1.1,lH 11,lF qI r9.1.2.2],.b r9.2.1,.i r9.2.2]) [11] [(0,ROW qI 3 r9.1.2.1)] (some 12) (y5a er9) cf36 R R Z R R ⟨⟨R,(.c .rf (.c .rf (.c .rf (.c .rf (.c (.nf (r:=qI)) (.c .rf (.c .rf (.c (.nf (r:=qT)) .rf))))))))⟩,⟨R,.rf⟩,trivial⟩ R ⟨⟨_,R,fun _ _ _ _ h=>h⟩,trivial⟩ (fun _ _ _ h=>h) R) R (.mv R (.op (O.ex Z R R R) R (.op (O.ex Z R R R) R (.op (O.ex Z R R R) R (.op (O.al 12 R zz44 R Z R) R (.op (O.st ag44.sz Z R R R R R) R (.sa R (.sa R (.nil (.seqN (.seq (.reg (.op (O.lg (l':=[lF qI r2.1.1,lI r2.1.2.1,lF qI r2.1.2.2.1,lF qT r2.1.2.2.2,lN,lI 1,lF qI ([0]:List Int),lN,lF qI r2.2.2]) ag37 Z R (.B R) R R R) R (bS hm fun r10 er10 hm=> .op (O.cac (r':= .tp [.a [lI r10.1.1,lH 13,lF qI r10.1.2.2],.b r10.2.1,.i r10.2.2]) [13] [(0,ROW qI 3 r10.1.2.1)] (some 14) (y9G er10) cf30 R R Z R R ⟨⟨R,(.c .rf (.c .rf (.c .rf (.c .rf (.c (.nf (r:=qI)) (.c .rf (.c .rf (.c (.nf (r:=qT)) .rf))))))))⟩,trivial⟩ R ⟨⟨_,R,fun _ _ _ _ h=>h⟩,trivial⟩ (fun _ _ _ h=>h) R) R (.mv R (.op (O.ex Z R R R) R (.op (O.ex Z R R R) R ?_)))))))))))))))))))))))))))))))))))))
     refine .op (O.ex Z R R R) R (.op (O.al 14 R zz44 R Z R) R (.op (O.st ag44.sz Z R R R R R) R (.sa R (.sa R (.nil (.seqN (.seq (.seq (.reg (.mv R (.bi R (.mv R ?_))))))))))))
     refine .cut 3 (fun (v11:Bool)=>((r9.2.2 != 0) || (r10.2.2 != 0))=v11) (fun v11=>⟨[(76,.b v11),(15,.b r10.2.1),(12,.b r9.2.1),(3,.q 5 0)],[(5,.bx 37 [lF qI r2.1.1,lI r2.1.2.1,lF qI r2.1.2.2.1,lF qT r2.1.2.2.2,lF qI r2.2.1.1,lI r2.2.1.2.1,lF qI r2.2.1.2.2.1,lF qT r2.2.1.2.2.2,lF qI r2.2.2])],15⟩) ?_ ?_
     ·rintro _ rfl
      refine .mv R ?_
      refine .cut 3 (fun (v13:Bool)=>(((r9.2.2 != 0) || (r10.2.2 != 0)) || (!r9.2.1))=v13) (fun v13=>⟨[(80,.b v13),(15,.b r10.2.1),(3,.q 5 0)],[(5,.bx 37 [lF qI r2.1.1,lI r2.1.2.1,lF qI r2.1.2.2.1,lF qT r2.1.2.2.2,lF qI r2.2.1.1,lI r2.2.1.2.1,lF qI r2.2.1.2.2.1,lF qT r2.2.1.2.2.2,lF qI r2.2.2])],15⟩) ?_ ?_
      ·rintro _ rfl
       refine .mv R ?_
       refine .cut 3 (fun (v15:Bool)=>((((r9.2.2 != 0) || (r10.2.2 != 0)) || (!r9.2.1)) || (!r10.2.1))=v15) (fun v15=>⟨[(84,.b v15),(3,.q 5 0)],[(5,.bx 37 [lF qI r2.1.1,lI r2.1.2.1,lF qI r2.1.2.2.1,lF qT r2.1.2.2.2,lF qI r2.2.1.1,lI r2.2.1.2.1,lF qI r2.2.1.2.2.1,lF qT r2.2.1.2.2.2,lF qI r2.2.2])],15⟩) ?_ ?_
       ·rintro _ rfl
        refine .nil (.seqN ?_)
        rcases ifS hm with ⟨hc,hm⟩ | ⟨hc,hm⟩
        ·refine .cT R hc ?_
         refine .seq (.reg (.sa R (.nil (.seqN (.ret (.seqR ?_))))))
         obtain rfl:=oi hm
         exact WX.rt [] (.inl R) Tryz.results7 (.tmp R .nil) R (fun _ _ _ h=>h) trivial
        ·refine .cF R hc ?_
         refine .skip (.seqN (.seq ?_))
         refine .sub (τ:=⟨[(3,.q 5 0)],[(5,.bx 37 [lF qI r2.1.1,lI r2.1.2.1,lF qI r2.1.2.2.1,lF qT r2.1.2.2.2,lF qI r2.2.1.1,lI r2.2.1.2.1,lF qI r2.2.1.2.2.1,lF qT r2.2.1.2.2.2,lF qI r2.2.2])],15⟩) ?_ [] R
         refine bS hm fun r17 er17 hm=>bS hm fun r18 er18 hm=>?_
         refine .drz 16 [(11,15)] [(15,[],[],[]),(15,[],[],[]),(15,[oF,oT],[],[]),(15,[oF,oT,oT],[],[]),(15,[],[],[]),(15,[oF,oF,oF,oF,oT],[],[]),(15,[oF,oT,oT,oT,oT,oT],[],[]),(15,[oT,oT,oT,oT,oT,oT,oT],[],[]),(15,[oT,oT,oT,oT,oT,oT,oT,oT],[],[]),(15,[oT,oT,oT,oT,oT,oT,oT,oT,oT],[],[]),(15,[oT,oT,oT,oT,oT,oT,oT,oT,oT],[],[]),(15,[],[],[]),(16,[oT,oT,oT,oT,oT,oT,oT,oT,oT,oT,oF,oT],[],[]),(16,[oT,oT,oT,oT,oT,oT,oT,oT,oT,oT,oT,oT,oT],[],[(11,15)])] [_,_,_,_,_,_,_,_,_,_,_,_,_,_] ⟨[(18,.i r18.2),(17,.q 15 0),(3,.q 5 0)],[(15,.bx 35 [lF qI r18.1.1,lI r18.1.2.1,lF qI r18.1.2.2.1,lF qT r18.1.2.2.2]),(5,.bx 37 [lF qI r2.1.1,lI r2.1.2.1,lF qI r2.1.2.2.1,lF qT r2.1.2.2.2,lF qI r2.2.1.1,lI r2.2.1.2.1,lF qI r2.2.1.2.2.1,lF qT r2.2.1.2.2.2,lF qI r2.2.2])],16⟩ ⟨O.lg (l':=[lF qI r2.1.1,lI r2.1.2.1,lF qI r2.1.2.2.1,lF qT r2.1.2.2.2,lF qI r2.2.1.1,lI r2.2.1.2.1,lF qI r2.2.1.2.2.1,lF qT r2.2.1.2.2.2,lF qI r2.2.2]) ag37 Z R (.B R) R R R,O.faP y6r Z R R,O.faP y1z Z R R,O.ld nag32 Z R (.B R) R R,O.faP yaL Z R R,O.ld nag32 Z R (.B R) R R,O.ca0 (r:= .f qI r17) (Fw.fz (y5f er17)) cf17 R R Z R R R,O.ca0 (y8p er18) cf18 R R Z R R R,O.mv Z R R,O.ex Z R R R,O.ex Z R R R,O.al 15 R zz35 R Z R,O.st ag35.sz Z R R R R R,O.as Z R R,trivial⟩ (by kernel_rfl) R ?_
         refine .seqN (.seq (.reg (.op (O.faP y6r Z R R) R (.op (O.lg (l':=[lF qI r2.1.1,lI r2.1.2.1,lF qI r2.1.2.2.1,lF qT r2.1.2.2.2]) ag35 Z R (.B R) R R R) R (.op (O.faP y6Q Z R R) R (.op (O.lg (l':=[lF qI r2.2.1.1,lI r2.2.1.2.1,lF qI r2.2.1.2.2.1,lF qT r2.2.1.2.2.2]) ag35 Z R (.B R) R R R) R (.op (O.bsF (r:=rE35) (zs:=([r2.1,r2.2.1]:List AutT)) bs66 R R Z R R R (.c (.p .l (.p .k (.p .l .l))) (.c (.p .l (.p .k (.p .l .l))) .n)) R R R) R (bS hm fun r19 er19 hm=> .op (O.ca (r':= .tp [.a [lH 16,lI r19.1.2.1,lH 17,lH 18],.i r19.2]) [16,17,18] [(0,ROW qI 3 r19.1.1),(1,ROW qI 3 r19.1.2.2.1),(2,ROW qT 124 r19.1.2.2.2)] (some 19) (y8q er19) cf20 R R Z R R R R ⟨⟨_,R,fun _ _ _ _ h=>h⟩,⟨_,R,fun _ _ _ _ h=>h⟩,⟨_,R,fun _ _ _ _ h=>h⟩,trivial⟩ (fun _ _ _ h=>h) R) R (.mv R (.op (O.ex Z R R R) R (.op (O.ex Z R R R) R (.op (O.al 19 R zz35 R Z R) R (.op (O.st ag35.sz Z R R R R R) R (.sa R (.nil (.seqN (.seq (.reg (.op (O.lg (l':=[lF qI r18.1.1,lI r18.1.2.1,lF qI r18.1.2.2.1,lF qT r18.1.2.2.2]) ag35 Z R (.B R) R R R) R (bS hm fun r20 er20 hm=> .op (O.ca (r':= .tp [.h 20,.i r20.2]) [20] [(0,ROW (rL qI) 32 r20.1)] (some 21) (y6j er20) cf34 R R Z R R R R ⟨⟨_,R,fun _ _ _ _ h=>h⟩,trivial⟩ (fun _ _ _ h=>h) R) R (.mv R (.op (O.ex Z R R R) R (.op (O.ex Z R R R) R (.sa R (.sa R (.nil (.seqN (.seq (.seq (.reg (.mv R (.bi R (.mv R ?_)))))))))))))))))))))))))))))))))
         refine .cut 3 (fun (v21:Bool)=>((r18.2 != 0) || (r19.2 != 0))=v21) (fun v21=>⟨[(115,.b v21),(22,.i r20.2),(21,.h 20),(19,.q 19 0)],[(20,ROW (rL qI) 32 r20.1),(19,.bx 35 [lH 16,lI r19.1.2.1,lH 17,lH 18]),(16,ROW qI 3 r19.1.1),(17,ROW qI 3 r19.1.2.2.1),(18,ROW qT 124 r19.1.2.2.2)],21⟩) ?_ ?_
         ·rintro _ rfl
          refine .mv R ?_
          refine .cut 3 (fun (v23:Bool)=>(((r18.2 != 0) || (r19.2 != 0)) || (r20.2 != 0))=v23) (fun v23=>⟨[(119,.b v23),(22,.i r20.2),(21,.h 20),(19,.q 19 0)],[(20,ROW (rL qI) 32 r20.1),(19,.bx 35 [lH 16,lI r19.1.2.1,lH 17,lH 18]),(16,ROW qI 3 r19.1.1),(17,ROW qI 3 r19.1.2.2.1),(18,ROW qT 124 r19.1.2.2.2)],21⟩) ?_ ?_
          ·rintro _ rfl
           refine .nil (.seqN ?_)
           rcases ifS hm with ⟨hc,hm⟩ | ⟨hc,hm⟩
           ·refine .cT R hc ?_
            refine .seq (.reg (.mv R (.bi R (.sa R (.nil (.seqN (.ret (.seqR ?_))))))))
            obtain rfl:=oi hm
            exact WX.rt [] (.inl R) Tryz.results7 (.tmp R .nil) R (fun _ _ _ h=>h) trivial
           ·refine .cF R hc ?_
            refine .skip (.seqN (.seq (.seq (.reg (.sa R (.nil (.seqN (.block (bS hm fun o31 eo31 hm=>?_)))))))))
            refine .cutU (z:= .exit 0) (fun u32=> .inl u32=o31) (fun (u32:Unit)=>⟨[],[],0⟩) ?_ fun K33=>?_
            ·rintro u32 rfl
             dsimp only at hm
             refine .blkE (.seqN (.seq (.reg (bS hm fun r34 er34 hm=> .op (O.ca0 (y7h er34) cf39 R R Z R R R) R (.sa R (.nil (.seqN (.ret ?_))))))))
             obtain rfl:=oi hm
             exact WX.rt [] (.inl R) Tryz.results7 (.tmp R .nil) R (fun _ _ _ h=>h) trivial
            refine .cutU (z:= .ret) (fun u35=> .inr (u35)=o31) (fun (u35:Unit)=>⟨[(2,.b false)],[],0⟩) ?_ fun K36=>?_
            ·rintro u35 rfl
             dsimp only at hm
             refine .blkR (.seqR ?_)
             obtain rfl:=oi hm
             exact WX.rt [] (.inl R) Tryz.results7 (.tmp R .nil) R (fun _ _ _ h=>h) trivial
            refine .iter (fun (st31:Int)=>⟨[(23,.i st31),(21,.h 0),(19,.q 1 0)],[(0,ROW (rL qI) 32 r20.1),(1,.bx 35 [lH 2,lI r19.1.2.1,lH 3,lH 4]),(2,ROW qI 3 r19.1.1),(3,ROW qI 3 r19.1.2.2.1),(4,ROW qT 124 r19.1.2.2.2)],5⟩) eo31 [(0,20),(1,19),(2,16),(3,17),(4,18)] R ?_
            intro st31 res31 hm ih31 ho31
            unfold yw at hm
            refine .seq (.seq (.reg (.mv R (.mv R (.op (O.lenH sl53 Z R R R) R (.bi R (.nil (.seqN ?_))))))))
            rcases ifS hm with ⟨hc,hm⟩ | ⟨hc,hm⟩
            ·refine .cT R hc ?_
             refine .skip (.seqN (.seq (.block (.seq ?_))))
             refine .sub (τ:=⟨[(23,.i st31),(21,.h 0),(19,.q 1 0)],[(0,ROW (rL qI) 32 r20.1),(1,.bx 35 [lH 2,lI r19.1.2.1,lH 3,lH 4]),(2,ROW qI 3 r19.1.1),(3,ROW qI 3 r19.1.2.2.1),(4,ROW qT 124 r19.1.2.2.2)],5⟩) ?_ [] R
             refine bS hm fun x37 ex37 hm=>bS hm fun r38 er38 hm=>?_
             refine .drw [(5,[]),(5,[]),(5,[]),(5,[oF,oT,oT]),(5,fA 1 (tT 3)),(5,tT 5),(5,tT 6),(5,tT 7),(5,tT 7),(5,tT 8),(5,tT 10)] [_,_,_,_,_,_,_,_,_,_,_] ⟨[(25,.i r38.2),(24,.b r38.1),(23,.i st31),(21,.h 0),(19,.q 1 0)],[(0,ROW (rL qI) 32 r20.1),(1,.bx 35 [lH 2,lI r19.1.2.1,lH 3,lH 4]),(2,ROW qI 3 r19.1.1),(3,ROW qI 3 r19.1.2.2.1),(4,ROW qT 124 r19.1.2.2.2)],5⟩ ⟨O.lg (l':=[lH 2,lI r19.1.2.1,lH 3,lH 4]) ag35 Z R (.B R) R R R,O.mv Z R R,O.mv Z R R,O.ir sl53 Z R R R ex37 R,O.ld nag32 Z R (.R R ex37 lv32) R R,O.caZ (y7d er38) cf38 R R Z R ⟨⟨R,.hr R,.rf,.hr R,.hr R,trivial⟩,⟨R,LnL.rf⟩,trivial⟩ (fun _ _ _ _ _ h=>h) R,O.mv Z R R,O.ex Z R R R,O.ex Z R R R,O.as Z R R,O.as Z R R,trivial⟩ (by kernel_rfl) R ?_
             refine .seqN (.seq (.reg (.mv R (.op (O.not Z R R) R (.mv R ?_)))))
             refine .cut 3 (fun (v39:Bool)=>((!r38.1) || (r38.2 != 0))=v39) (fun v39=>⟨[(142,.b v39),(23,.i st31),(21,.h 0),(19,.q 1 0)],[(0,ROW (rL qI) 32 r20.1),(1,.bx 35 [lH 2,lI r19.1.2.1,lH 3,lH 4]),(2,ROW qI 3 r19.1.1),(3,ROW qI 3 r19.1.2.2.1),(4,ROW qT 124 r19.1.2.2.2)],5⟩) ?_ ?_
             ·rintro _ rfl
              refine .nil (.seqN ?_)
              rcases ifS hm with ⟨hc,hm⟩ | ⟨hc,hm⟩
              ·refine .cT R hc ?_
               exact .seq (.reg (.sa R (.nil (.seqN (.ret (.blkR (.seqR (.seqR ((K36 _ (ho31 _ (oi hm).symm)).sub [] R)))))))))
              ·refine .cF R hc ?_
               exact .skip (.blkN (.seqN (.reg (.mv R (.bi R (.sa R (.nil ((ih31 _ (oi hm).symm).sub [] R))))))))
             ·intro J40
              rcases Bool.eq_false_or_eq_true (!r38.1) with hc | hc
              ·refine .know (d:=139) R hc ?_
               exact .sk R (.sk R (.op (O.pkT Z R R R R) R ((J40 true (orT hc).symm).sub [] R)))
              ·refine .know (d:=139) R hc ?_
               exact .op (O.mv (Gu.mk R R) R R) R (.op (O.bi (Gu.mk R R) R R R R) R (.op (O.pkF Z R R R R) R ((J40 (r38.2 != 0) (orF hc).symm).sub [] R)))
            ·refine .cF R hc ?_
             exact .exit (.seqX (.seqX ((K33 _ (ho31 _ (oi hm).symm)).sub [] R)))
          ·intro J24
           rcases Bool.eq_false_or_eq_true ((r18.2 != 0) || (r19.2 != 0)) with hc | hc
           ·refine .know (d:=116) R hc ?_
            exact .sk R (.sk R (.op (O.pkT Z R R R R) R ((J24 true (orT hc).symm).sub [] R)))
           ·refine .know (d:=116) R hc ?_
            exact .op (O.mv (Gu.mk R R) R R) R (.op (O.bi (Gu.mk R R) R R R R) R (.op (O.pkF Z R R R R) R ((J24 (r20.2 != 0) (orF hc).symm).sub [] R)))
         ·intro J22
          rcases Bool.eq_false_or_eq_true (r18.2 != 0) with hc | hc
          ·refine .know (d:=112) R hc ?_
           exact .sk R (.sk R (.op (O.pkT Z R R R R) R ((J22 true (orT hc).symm).sub [] R)))
          ·refine .know (d:=112) R hc ?_
           exact .op (O.mv (Gu.mk R R) R R) R (.op (O.bi (Gu.mk R R) R R R R) R (.op (O.pkF Z R R R R) R ((J22 (r19.2 != 0) (orF hc).symm).sub [] R)))
       ·intro J16
        rcases Bool.eq_false_or_eq_true (((r9.2.2 != 0) || (r10.2.2 != 0)) || (!r9.2.1)) with hc | hc
        ·refine .know (d:=81) R hc ?_
         exact .sk R (.sk R (.op (O.pkT Z R R R R) R ((J16 true (orT hc).symm).sub [] R)))
        ·refine .know (d:=81) R hc ?_
         exact .op (O.mv (Gu.mk R R) R R) R (.op (O.not (Gu.mk R R) R R) R (.op (O.pkF Z R R R R) R ((J16 (!r10.2.1) (orF hc).symm).sub [] R)))
      ·intro J14
       rcases Bool.eq_false_or_eq_true ((r9.2.2 != 0) || (r10.2.2 != 0)) with hc | hc
       ·refine .know (d:=77) R hc ?_
        exact .sk R (.sk R (.op (O.pkT Z R R R R) R ((J14 true (orT hc).symm).sub [] R)))
       ·refine .know (d:=77) R hc ?_
        exact .op (O.mv (Gu.mk R R) R R) R (.op (O.not (Gu.mk R R) R R) R (.op (O.pkF Z R R R R) R ((J14 (!r9.2.1) (orF hc).symm).sub [] R)))
     ·intro J12
      rcases Bool.eq_false_or_eq_true (r9.2.2 != 0) with hc | hc
      ·refine .know (d:=73) R hc ?_
       exact .sk R (.sk R (.op (O.pkT Z R R R R) R ((J12 true (orT hc).symm).sub [] R)))
      ·refine .know (d:=73) R hc ?_
       exact .op (O.mv (Gu.mk R R) R R) R (.op (O.bi (Gu.mk R R) R R R R) R (.op (O.pkF Z R R R R) R ((J12 (r10.2.2 != 0) (orF hc).symm).sub [] R)))
   ·intro J8
    rcases Bool.eq_false_or_eq_true ((r3.2.2 != 0) || (r4.2.2 != 0)) with hc | hc
    ·refine .know (d:=48) R hc ?_
     exact .sk R (.sk R (.op (O.skipU R R R) R (.op (O.skipU R R R) R (.sk R (.op (O.pkT Z R R R R) R ((J8 true (orT hc).symm).sub [] R))))))
    ·refine .know (d:=48) R hc ?_
     refine .op (O.mv (Gu.mk R R) R R) R (.op (O.mv (Gu.mk R R) R R) R ?_)
     refine .cut 3 (fun (v41:Bool)=>(r4.2.1 && (!r3.2.1))=v41) (fun v41=>⟨[(53,.b v41),(48,.b false),(3,.q 5 0)],[(5,.bx 37 [lF qI r2.1.1,lI r2.1.2.1,lF qI r2.1.2.2.1,lF qT r2.1.2.2.2,lF qI r2.2.1.1,lI r2.2.1.2.1,lF qI r2.2.1.2.2.1,lF qT r2.2.1.2.2.2,lF qI r2.2.2])],10⟩) ?_ ?_
     ·rintro _ rfl
      exact .op (O.pkF Z R R R R) R ((J8 (r4.2.1 && (!r3.2.1)) (orF hc).symm).sub [] R)
     ·intro J42
      rcases Bool.eq_false_or_eq_true r4.2.1 with hc | hc
      ·refine .know (d:=50) R hc ?_
       exact .op (O.mv (Gu.mk R R) R R) R (.op (O.not (Gu.mk R R) R R) R (.op (O.pkT (Gu.mk R R) R R R R) R ((J42 (!r3.2.1) (andT hc).symm).sub [] R)))
      ·refine .know (d:=50) R hc ?_
       exact .sk R (.sk R (.op (O.pkF (Gu.mk R R) R R R R) R ((J42 false (andF hc).symm).sub [] R)))
  ·intro J6
   rcases Bool.eq_false_or_eq_true (r3.2.2 != 0) with hc | hc
   ·refine .know (d:=44) R hc ?_
    exact .sk R (.sk R (.op (O.pkT Z R R R R) R ((J6 true (orT hc).symm).sub [] R)))
   ·refine .know (d:=44) R hc ?_
    exact .op (O.mv (Gu.mk R R) R R) R (.op (O.bi (Gu.mk R R) R R R R) R (.op (O.pkF Z R R R R) R ((J6 (r4.2.2 != 0) (orF hc).symm).sub [] R)))
end
end Go.Proofs.YtecmobjeeonmaaaGreatDoor
namespace Go.Proofs.YtecmobjeeonmaaaGreatDoor
def wval (u:List Int):Int:=u.foldl (fun acc e=>33 * acc + e + 1) 0
theorem y5R (u:List Int) (e:Int):wval (u ++ [e])=33 * wval u + e + 1:=by simp [wval,List.foldl_append]
def Evs (u:List Int):Prop:=∀e∈u,0≤e∧e < 32
theorem Evs.nil :Evs []:=fun e h=>by cases h
theorem Evs.snoc {u:List Int} {e:Int} (h:Evs u) (h0:0≤e) (h1:e < 32):Evs (u ++ [e]):=by
 intro x hx
 rcases List.mem_append.1 hx with h2 | h2
 ·exact h x h2
 ·rw [List.mem_singleton.1 h2];exact⟨h0,h1⟩
theorem Evs.of_snoc {u:List Int} {e:Int} (h:Evs (u ++ [e])):Evs u∧0≤e∧e < 32:=
 ⟨fun x hx=>h x (List.mem_append_left _ hx),h e (by simp)⟩
theorem y8c {α:Type} {P:List α→Prop} (h0:P []) (h1:∀u e,P u→P (u ++ [e])) (u:List α):P u:=by
 have h2:∀n (u:List α),u.length=n→P u:=by
  intro n
  induction n with
  | zero=>intro u hu;rw [List.eq_nil_of_length_eq_zero hu];exact h0
  | succ n ih=>
   intro u hu
   rcases List.eq_nil_or_concat u with rfl | ⟨l,b,rfl⟩
   ·cases hu
   ·have hl:l.length=n:=by simpa using hu
    simpa using h1 l b (ih l hl)
 exact h2 _ u rfl
theorem yb7 (u:List Int):Evs u→0≤wval u:=by
 refine y8c (P:=fun u=>Evs u→0≤wval u) (fun _=>Int.le_refl 0) (fun u e ih h=>?_) u
 have h1:=h.of_snoc
 have:=ih h1.1
 rw [y5R];omega
def wlo :Nat→Int
 | 0=>0
 | n + 1=>33 * wlo n + 1
def whi :Nat→Int
 | 0=>0
 | n + 1=>33 * whi n + 32
theorem ycy (u:List Int):Evs u→wlo u.length≤wval u∧wval u≤whi u.length:=by
 refine y8c (P:=fun u=>Evs u→wlo u.length≤wval u∧wval u≤whi u.length) (fun _=>⟨Int.le_refl _,Int.le_refl _⟩) (fun u e ih h=>?_) u
 have h1:=h.of_snoc
 have:=ih h1.1
 rw [y5R,List.length_append,List.length_singleton,wlo,whi];omega
theorem yey (n:Nat):whi n < wlo (n + 1):=by
 induction n with
 | zero=>decide
 | succ n ih=>rw [whi,wlo];omega
theorem ydd {m n:Nat} (h:m≤n):wlo m≤wlo n:=by
 induction n with
 | zero=>
  obtain rfl:m=0:=by omega
  exact Int.le_refl _
 | succ n ih=>
  by_cases e:m=n + 1
  ·rw [e];exact Int.le_refl _
  ·have h1:=ih (by omega)
   have h2:0≤wlo n:=by
    clear h1 ih h e
    induction n with
    | zero=>exact Int.le_refl _
    | succ n ih=>rw [wlo];omega
   rw [wlo];omega
theorem yde {u v:List Int} (hu:Evs u) (hv:Evs v) (h:wval u≤wval v):u.length≤v.length:=by
 by_cases hlt:v.length < u.length
 ·have h1:=(ycy u hu).1
  have h2:=(ycy v hv).2
  have h3:=yey v.length
  have h4:=ydd (show v.length + 1≤u.length by omega)
  omega
 ·omega
def Leads (es:List Ed) (perm:Ed→Bool) (s:Int):List Int→Int→Prop
 | [],t=>s=t
 | e :: u,t=>∃x∈es,x.f=s∧x.e=e∧perm x=true∧Leads es perm x.t u t
theorem Leads.snoc {es:List Ed} {perm:Ed→Bool}:∀{u:List Int} {s t:Int},Leads es perm s u t→∀{x:Ed},x∈es→x.f=t→perm x=true→Leads es perm s (u ++ [x.e]) x.t
 | [],s,t,h,x,hx,hf,hp=>⟨x,hx,by rw [hf];exact h.symm,rfl,hp,rfl⟩
 | e :: u,s,t,⟨y,hy,h1,h2,h3,h4⟩,x,hx,hf,hp=>⟨y,hy,h1,h2,h3,h4.snoc hx hf hp⟩
theorem Leads.of_snoc {es:List Ed} {perm:Ed→Bool} {e:Int}:∀{u:List Int} {s t:Int},Leads es perm s (u ++ [e]) t→∃x∈es,Leads es perm s u x.f∧x.e=e∧x.t=t∧perm x=true
 | [],s,t,⟨y,hy,h1,h2,h3,h4⟩=>⟨y,hy,h1.symm,h2,h4,h3⟩
 | a :: u,s,t,⟨y,hy,h1,h2,h3,h4⟩=>by
  obtain⟨x,hx,g1,g2,g3,g4⟩:=Leads.of_snoc (u:=u) h4
  exact⟨x,hx,⟨y,hy,h1,h2,h3,g1⟩,g2,g3,g4⟩
def EvEs (es:List Ed):Prop:=∀x∈es,0≤x.e∧x.e < 32
theorem Leads.evs {es:List Ed} {perm:Ed→Bool} (he:EvEs es):∀{u:List Int} {s t:Int},Leads es perm s u t→Evs u
 | [],_,_,_=>Evs.nil
 | e :: u,s,t,⟨y,hy,h1,h2,h3,h4⟩=>by
  intro z hz
  rcases List.mem_cons.1 hz with rfl | hz
  ·rw [←h2];exact he y hy
  ·exact Leads.evs he h4 z hz
def edLt (x y:Ed):Prop:=x.f < y.f∨(x.f=y.f∧x.e < y.e)
def y8G (es:List Ed):Prop:=es.Pairwise edLt
def y8P (es:List Ed) (tg:List Int):Nat→Int→Prop
 | 0,s=>s∈tg
 | k + 1,s=>∃x∈es,x.f=s∧y8P es tg k x.t
end Go.Proofs.YtecmobjeeonmaaaGreatDoor
namespace Go.Proofs.YtecmobjeeonmaaaGreatDoor
open Go Go.RowKit
theorem W_of {x:Int} (h0: -9223372036854775808≤x) (h1:x < 9223372036854775808):W x=x:=IntWalk.i64_in _ (by omega)
theorem W_nat {k:Nat} (h:k < 9223372036854775808):W (k:Int)=k:=W_of (by omega) (by omega)
theorem ya {α:Type} {xs:List α} {i:Nat} (h:i < xs.length):idx xs (i:Int)=some xs[i]:=by rw [y5L,yGe h]
theorem y3Y {S O:Type} {f:S→Option (S ⊕ O)} {s:S} {o:O} {n:Nat} (hn:n≤18446744073709551616) (h:iterF f n s=some o):iter f s=some o:=by
 have mono:∀(n m:Nat) (s:S),n≤m→iterF f n s=some o→iterF f m s=some o:=by
  intro n
  induction n with
  | zero=>intro m s _ h;cases h
  | succ n ih=>
   intro m s hm h
   obtain⟨k,rfl⟩:∃k,m=k + 1:=⟨m - 1,by omega⟩
   rw [yf] at h ⊢
   split at h
   ·cases h
   ·rename_i h1;exact ih k _ (by omega) h
   ·rename_i h1;exact h
 exact mono n _ s hn h
theorem yb {S O:Type} {f:S→Option (S ⊕ O)} (P:Nat→S→Prop) (Q:O→Prop):∀(n i:Nat),n < i + 18446744073709551616→(∀i s,i < n→P i s→(∃s',f s=some (.inl s')∧P (i + 1) s')∨∃o,f s=some (.inr o)∧Q o)→(∀s,P n s→∃o,f s=some (.inr o)∧Q o)→i≤n→
  ∀s,P i s→∃o,iter f s=some o∧Q o:=by
 have key:∀(n:Nat),(∀i s,i < n→P i s→(∃s',f s=some (.inl s')∧P (i + 1) s')∨∃o,f s=some (.inr o)∧Q o)→(∀s,P n s→∃o,f s=some (.inr o)∧Q o)→∀(j i:Nat),i + j=n→∀s,P i s→∃o,iterF f (j + 1) s=some o∧Q o:=by
  intro n step fin j
  induction j with
  | zero=>
   intro i hi s h
   obtain rfl:i=n:=by omega
   obtain⟨o,h1,h2⟩:=fin s h
   exact⟨o,by rw [yf,h1],h2⟩
  | succ j ih=>
   intro i hi s h
   rcases step i s (by omega) h with ⟨s',h1,h2⟩ | ⟨o,h1,h2⟩
   ·obtain ⟨o,h3,h4⟩:=ih (i + 1) (by omega) s' h2
    exact⟨o,by rw [yf,h1];exact h3,h4⟩
   ·exact ⟨o,by rw [yf,h1],h2⟩
 intro n i hn step fin hi s h
 obtain⟨o,h1,h2⟩:=key n step fin (n - i) i (by omega) s h
 exact⟨o,y3Y (by omega) h1,h2⟩
theorem nxt {i:Nat} (h:i < 4611686018427387904):W ((i:Int) + 1)=((i + 1:Nat):Int):=by rw [show (i:Int) + 1=((i + 1:Nat):Int) by omega,W_nat (by omega)]
theorem ct_lt {i n:Nat} (h:i < n):decide ((i:Int) < (n:Int))=true:=by simp;omega
theorem ct_ge {n:Nat}:¬decide ((n:Int) < (n:Int))=true:=by simp
theorem y6z {α:Type} {xs:List α} {i:Nat} {y:α} (h:i < xs.length):upd xs (i:Int) y=some (xs.set i y):=by
 unfold upd
 rw [if_pos ⟨by omega,by omega⟩,Int.toNat_natCast]
theorem y5K {xs:List Int} (h:xs.length≤4294967296):yS xs=some xs:=by
 rw [yS,yl (by simpa using h)];rfl
def errO (e:Int):Unit ⊕ Int:=if e=0 then .inl () else .inr e
theorem yb8 {xs:List Int} {n:Int} (hl:xs.length < 4611686018427387904):∀(j i:Nat),i + j=xs.length→
  iterF (y1T xs n) (j + 1) (i:Int)=some (errO (yU n (y5b xs i) (xs.drop i))):=by
 intro j
 induction j with
 | zero=>
  intro i hi
  have e:xs.drop i= []:=List.drop_of_length_le (by omega)
  rw [yf,y1T,if_neg (by simp;omega),e]
  rfl
 | succ j ih=>
  intro i hi
  have hlt:i < xs.length:=by omega
  rw [yf,y1T,if_pos (by simp;omega),ya hlt,yOb]
  by_cases h1:xs[i] < 0∨n≤xs[i]
  ·rw [if_pos (by simpa using h1),ycZ hlt h1]
   rfl
  ·rw [if_neg (by simpa using h1)]
   by_cases h0:0 < i
   ·rw [if_pos (by simp;omega),show(i:Int) - 1=((i - 1:Nat):Int) by omega,W_nat (by omega),ya (show i - 1 < xs.length by omega),yOb,yOb]
    by_cases h2:xs[i]≤xs[i - 1]
    ·rw [if_pos (by simpa using h2),yd0 hlt h1 h0 h2]
     rfl
    ·rw [if_neg (by simpa using h2),show(i:Int) + 1=((i + 1:Nat):Int) by omega,W_nat (by omega),y8V hlt h1 (fun _=>by omega)]
     exact ih (i + 1) (by omega)
   ·rw [if_neg (by simp;omega),yOb,if_neg (by simp),show(i:Int) + 1=((i + 1:Nat):Int) by omega,W_nat (by omega),y8V hlt h1 (fun h=>absurd h h0)]
    exact ih (i + 1) (by omega)
theorem y7u {xs:List Int} {n:Int} (hl:xs.length < 4611686018427387904):y1m xs n=some (yU n none xs):=by
 have h:iter (y1T xs n) 0=some (errO (yU n none xs)):=y3Y (by omega) (yb8 (n:=n) hl xs.length 0 (by omega))
 rw [y1m,h,yOb]
 by_cases h0:yU n none xs=0
 ·rw [h0];rfl
 ·rw [errO,if_neg h0]
theorem ydf {xs:List Int} {x:Int} (hl:xs.length < 4611686018427387904):∀(j i:Nat),i + j=xs.length→
  ∃o,iterF (y2n xs x) (j + 1) (i:Int)=some o∧((o= .inl ()∧x∉xs.drop i)∨∃k:Nat,i≤k∧o= .inr (k:Int)∧x∈xs.drop i):=by
 intro j
 induction j with
 | zero=>
  intro i hi
  have e:xs.drop i= []:=List.drop_of_length_le (by omega)
  refine⟨.inl (),?_,.inl ⟨rfl,by rw [e];simp⟩⟩
  rw [yf,y2n,if_neg (by simp;omega)]
 | succ j ih=>
  intro i hi
  have hlt:i < xs.length:=by omega
  rw [yf,y2n,if_pos (by simp;omega),ya hlt,yOb]
  by_cases h1:x=xs[i]
  ·rw [if_pos (by simpa using h1)]
   exact⟨_,rfl,.inr ⟨i,Nat.le_refl _,rfl,by rw [List.drop_eq_getElem_cons hlt,h1];exact List.mem_cons_self⟩⟩
  ·rw [if_neg (by simpa using h1),show(i:Int) + 1=((i + 1:Nat):Int) by omega,W_nat (by omega)]
   obtain⟨o,h2,h3⟩:=ih (i + 1) (by omega)
   refine⟨o,h2,?_⟩
   rw [List.drop_eq_getElem_cons hlt]
   rcases h3 with ⟨h4,h5⟩ | ⟨k,h4,h5,h6⟩
   ·exact .inl ⟨h4,fun hc=>(List.mem_cons.1 hc).elim h1 h5⟩
   ·exact .inr ⟨k,by omega,h5,List.mem_cons_of_mem _ h6⟩
theorem y4V {xs:List Int} {x:Int} (hl:xs.length < 4611686018427387904):yj xs x=some (hasB xs x):=by
 obtain⟨o,h1,h2⟩:=ydf (x:=x) hl xs.length 0 (by omega)
 have h:iter (y2n xs x) 0=some o:=y3Y (by omega) h1
 rw [yj,y3O,h,yOb]
 rcases h2 with ⟨rfl,h4⟩ | ⟨k,_,rfl,h4⟩
 ·rw [y7Q.2 (by simpa using h4)];rfl
 ·rw [yc.2 (by simpa using h4)]
  show some (decide ((k:Int)≥0))=some true
  simp
def edP (x:Ed):Int×Int×Int:=(x.f,x.e,x.t)
def autP (a:Aut):List Int×Int×List Int×List (Int×Int×Int):=(a.al,a.n,a.ms,a.es.map edP)
def prevE (es:List Ed) (k:Nat):Option Ed:=if k=0 then none else es[k - 1]?
theorem yb9 {al:List Int} {n:Int} {es:List Ed} {k:Nat} (hk:k < es.length):edErr al n (prevE es k) (es.drop k)=
  if(es[k].f < 0∨n≤es[k].f∨es[k].t < 0∨n≤es[k].t) then 2 else if hasB al es[k].e=false then 9 else if(∃q,prevE es k=some q∧(es[k].f < q.f∨(es[k].f=q.f∧es[k].e≤q.e))) then 5 else edErr al n (prevE es (k + 1)) (es.drop (k + 1)):=by
 rw [List.drop_eq_getElem_cons hk,edErr]
 congr 3
 simp [prevE,yGe hk]
theorem ydg {a:Aut} (hl:a.es.length < 4611686018427387904) (hal:a.al.length < 4611686018427387904):∀(j i:Nat),i + j=a.es.length→
  iterF (y1s (autP a)) (j + 1) (i:Int)=some (errO (edErr a.al a.n (prevE a.es i) (a.es.drop i))):=by
 have hlen:(autP a).2.2.2.length=a.es.length:=by simp [autP]
 have hat:∀(i:Nat) (h:i < a.es.length),idx (autP a).2.2.2 (i:Int)=some (edP a.es[i]):=fun i h=>by
  rw [ya (by rw [hlen];exact h)];simp [autP]
 intro j
 induction j with
 | zero=>
  intro i hi
  have e:a.es.drop i= []:=List.drop_of_length_le (by omega)
  rw [yf,y1s,if_neg (by rw [hlen];simp;omega),e]
  rfl
 | succ j ih=>
  intro i hi
  have hlt:i < a.es.length:=by omega
  have hnext:y1r (i:Int)=some (.inl ((i + 1:Nat):Int)):=by
   rw [y1r,show(i:Int) + 1=((i + 1:Nat):Int) by omega,W_nat (by omega)]
  rw [yf,y1s,if_pos (by rw [hlen];simp;omega),hat i hlt,yOb,yb9 hlt]
  by_cases h1:a.es[i].f < 0∨a.n≤a.es[i].f∨a.es[i].t < 0∨a.n≤a.es[i].t
  ·rw [if_pos (by simp only [Bool.or_eq_true,decide_eq_true_eq];show((a.es[i].f < 0∨a.es[i].f≥a.n)∨a.es[i].t < 0)∨a.es[i].t≥a.n;omega),if_pos h1]
   rfl
  ·rw [if_neg (by simp only [Bool.or_eq_true,decide_eq_true_eq];show ¬(((a.es[i].f < 0∨a.es[i].f≥a.n)∨a.es[i].t < 0)∨a.es[i].t≥a.n);omega),if_neg h1]
   rw [show yj (autP a).1 (edP a.es[i]).2.1=some (hasB a.al a.es[i].e) from y4V hal,yOb]
   cases h2:hasB a.al a.es[i].e with
   | false=>rfl
   | true=>
    rw [if_neg (show ¬(!true)=true by simp),if_neg (show ¬(true=false) by simp)]
    by_cases h0:i=0
    ·subst h0
     rw [if_pos (by simp),hnext,if_neg (by rintro⟨q,hq,_⟩;simp [prevE] at hq)]
     exact ih 1 (by omega)
    ·have hp:prevE a.es i=some a.es[i - 1]:=by rw [prevE,if_neg h0,yGe (by omega)]
     rw [if_neg (by simp;omega),show(i:Int) - 1=((i - 1:Nat):Int) by omega,W_nat (by omega),hat (i - 1) (by omega),yOb]
     by_cases h3:a.es[i].f < a.es[i - 1].f∨(a.es[i].f=a.es[i - 1].f∧a.es[i].e≤a.es[i - 1].e)
     ·rw [if_pos (by simp only [Bool.or_eq_true,Bool.and_eq_true,decide_eq_true_eq,beq_iff_eq];exact h3),if_pos ⟨_,hp,h3⟩]
      rfl
     ·rw [if_neg (by simp only [Bool.or_eq_true,Bool.and_eq_true,decide_eq_true_eq,beq_iff_eq];exact h3),hnext,if_neg (by rintro⟨q,hq,h4⟩;rw [hp] at hq;cases hq;exact h3 h4)]
      exact ih (i + 1) (by omega)
theorem yaO {a:Aut} (hl:a.es.length < 4611686018427387904) (hal:a.al.length < 4611686018427387904) (hms:a.ms.length < 4611686018427387904):yt (autP a)=some a.err:=by
 have h:iter (y1s (autP a)) 0=some (errO (edErr a.al a.n none a.es)):=y3Y (by omega) (ydg hl hal a.es.length 0 (by omega))
 have he:y2R (autP a)=some (edErr a.al a.n none a.es):=by
  rw [y2R,h,yOb]
  by_cases h0:edErr a.al a.n none a.es=0
  ·rw [h0];rfl
  ·rw [errO,if_neg h0]
 rw [yt,show y1m (autP a).1 32=some (yU 32 none a.al) from y7u hal,yOb,Aut.err]
 by_cases h1:(yU 32 none a.al != 0)=true
 ·rw [if_pos h1,if_pos h1]
 ·rw [if_neg h1,if_neg h1]
  by_cases h2:a.n < 0
  ·rw [if_pos (show decide ((autP a).2.1 < 0)=true from decide_eq_true h2),if_pos h2]
  ·rw [if_neg (show ¬decide ((autP a).2.1 < 0)=true from fun e=>h2 (of_decide_eq_true e)),if_neg h2]
   by_cases h3:4096 < a.n
   ·rw [if_pos (show decide ((autP a).2.1 > 4096)=true from decide_eq_true h3),if_pos h3]
   ·rw [if_neg (show ¬decide ((autP a).2.1 > 4096)=true from fun e=>h3 (of_decide_eq_true e)),if_neg h3,show y1m (autP a).2.2.1 (autP a).2.1=some (yU a.n none a.ms) from y7u hms,yOb]
    by_cases h4:(yU a.n none a.ms != 0)=true
    ·rw [if_pos h4,if_pos h4]
    ·rw [if_neg h4,if_neg h4,he]
     rfl
abbrev Inc (xs:List Int):Prop:=xs.Pairwise (· < ·)
theorem yby {i j:Nat} (h:i + j < 9223372036854775808):W ((IntKind.u64.wrap (W ((i:Int) + (j:Int)))).fdiv (2 ^ (min (1:Int).toNat 64)))=(((i + j) / 2:Nat):Int):=by
 rw [W_of (x:=(i:Int) + j) (by omega) (by omega),IntWalk.u64_in _ (by omega),show(2:Int) ^ (min (1:Int).toNat 64)=2 from rfl,Int.fdiv_eq_ediv_of_nonneg _ (by omega),W_of (by omega) (by omega)]
 omega
theorem ye5 (x y:Int):y4I x y=some (decide (x < y)):=by
 rw [y4I,show y3U x=some false by rw [y3U];simp,yOb,if_neg (by simp),yOb,Bool.false_or]
theorem yez {xs:List Int} {t:Int} (hl:xs.length < 4294967296) (hs:Inc xs):∀(f i j:Nat),j≤i + f→i≤j→j≤xs.length→(∀k (h:k < xs.length),k < i→xs[k] < t)→(∀k (h:k < xs.length),j≤k→t≤xs[k])→
  ∃p:Nat,iterF (y1b xs t) (f + 1) ((j:Int),(i:Int))=some (p:Int)∧p≤xs.length∧(∀k (h:k < xs.length),k < p→xs[k] < t)∧(∀k (h:k < xs.length),p≤k→t≤xs[k]):=by
 intro f
 induction f with
 | zero=>
  intro i j h1 h2 h3 h4 h5
  refine⟨i,?_,by omega,h4,fun k h hk=>h5 k h (by omega)⟩
  rw [yf,y1b,if_neg (by simp;omega)]
 | succ f ih=>
  intro i j h1 h2 h3 h4 h5
  rw [yf,y1b]
  dsimp only
  by_cases hij:i < j
  ·have hm:(i + j) / 2 < xs.length:=by omega
   rw [if_pos (by simp;omega),yby (by omega),ya hm,yOb,ye5,yOb]
   have mono:∀(a b:Nat) (ha:a < xs.length) (hb:b < xs.length),a≤b→xs[a]≤xs[b]:=fun a b ha hb hab=>by
    rcases Nat.lt_or_ge a b with h | h
    ·exact Int.le_of_lt (List.pairwise_iff_getElem.1 hs a b ha hb h)
    ·have:a=b:=by omega
     subst this
     exact Int.le_refl _
   by_cases hc:xs[(i + j) / 2] < t
   ·rw [if_pos (decide_eq_true hc),show(((i + j) / 2:Nat):Int) + 1=(((i + j) / 2 + 1:Nat):Int) by omega,W_nat (by omega)]
    exact ih _ j (by omega) (by omega) h3 (fun k h hk=>by have:=mono k _ h hm (by omega);omega) h5
   ·rw [if_neg (by simpa using hc)]
    exact ih i _ (by omega) (by omega) (by omega) h4 (fun k h hk=>by have:=mono _ k hm h hk;omega)
  ·rw [if_neg (by simp;omega)]
   exact⟨i,rfl,by omega,h4,fun k h hk=>h5 k h (by omega)⟩
theorem y3A {xs:List Int} {t:Int} (hl:xs.length < 4294967296) (hs:Inc xs):yx xs t=some (hasB xs t):=by
 obtain⟨p,hp,hle,hlo,hhi⟩:=yez (t:=t) hl hs xs.length 0 xs.length (by omega) (by omega) (by omega) (fun k h hk=>absurd hk (by omega)) (fun k h hk=>absurd hk (by omega))
 have hi:iter (y1b xs t) ((xs.length:Int),0)=some (p:Int):=y3Y (by omega) hp
 rw [yx,y2k,hi,yOb]
 by_cases hlt:p < xs.length
 ·rw [if_pos (by simpa using hlt),ya hlt,yOb]
  by_cases he:xs[p]=t
  ·rw [if_pos (by simpa using he)]
   show some true=_
   rw [yc.2 (he ▸ List.getElem_mem hlt)]
  ·rw [if_neg (by simpa using he),yOb,show y2Z xs[p]=some false by rw [y2Z];simp,yOb,if_neg (by simp)]
   show some false=_
   rw [y7Q.2]
   intro hm
   obtain⟨k,hk,hk2⟩:=List.getElem_of_mem hm
   rcases Nat.lt_trichotomy k p with h | h | h
   ·have:=hlo k hk h;omega
   ·subst h;exact he hk2
   ·have:=hhi p hlt (Nat.le_refl _)
    have:=List.pairwise_iff_getElem.1 hs p k hlt hk h
    omega
 ·rw [if_neg (by simpa using hlt)]
  show some false=_
  rw [y7Q.2]
  intro hm
  obtain⟨k,hk,hk2⟩:=List.getElem_of_mem hm
  have:=hlo k hk (by omega)
  omega
theorem y5S {n:Int}:∀{p:Option Int} {xs:List Int},xs.Pairwise (· < ·)→(∀x∈xs,0≤x∧x < n)→(∀q,p=some q→∀x∈xs,q < x)→yU n p xs=0
 | _,[],_,_,_=>rfl
 | p,x :: xs,h,hr,hp=>by
  obtain⟨h1,h2⟩:=List.pairwise_cons.1 h
  have h3:=hr x (List.mem_cons_self ..)
  rw [yU,if_neg (by omega),if_neg ?_]
  ·exact y5S h2 (fun y hy=>hr y (List.mem_cons_of_mem _ hy)) (fun q hq y hy=>by cases hq;exact h1 y hy)
  ·rintro ⟨q,hq,hle⟩
   have:=hp q hq x (List.mem_cons_self ..)
   omega
theorem yaP {al:List Int} {n:Int}:∀{p:Option Ed} {es:List Ed},y8G es→(∀x∈es,0≤x.f∧x.f < n∧0≤x.t∧x.t < n∧hasB al x.e=true)→(∀q,p=some q→∀x∈es,edLt q x)→edErr al n p es=0
 | _,[],_,_,_=>rfl
 | p,x :: xs,h,hr,hp=>by
  obtain⟨h1,h2⟩:=List.pairwise_cons.1 h
  have h3:=hr x (List.mem_cons_self ..)
  rw [edErr,if_neg (by omega),if_neg (by rw [h3.2.2.2.2];simp),if_neg ?_]
  ·exact yaP h2 (fun y hy=>hr y (List.mem_cons_of_mem _ hy)) (fun q hq y hy=>by cases hq;exact h1 y hy)
  ·rintro ⟨q,hq,hle⟩
   have:=hp q hq x (List.mem_cons_self ..)
   unfold edLt at this
   omega
theorem y8d (a:AutT):autP (toAut a)=a:=by
 obtain⟨x,y,z,es⟩:=a
 simp only [autP,toAut,List.map_map]
 rw [show (edP ∘ toEd)=id from rfl,List.map_id]
structure Right (a:AutT) (n:Nat):Prop where
 nn:a.2.1=(n:Int)
 nl:n≤4096
 ali:Inc a.1
 alr:∀x∈a.1,0≤x∧x < 32
 msi:Inc a.2.2.1
 msr:∀x∈a.2.2.1,0≤x∧x < (n:Int)
 es:∀x∈a.2.2.2,0≤x.1∧x.1 < (n:Int)∧0≤x.2.2∧x.2.2 < (n:Int)∧x.2.1∈a.1
 so:a.2.2.2.Pairwise fun x y=>x.1 < y.1∨(x.1=y.1∧x.2.1 < y.2.1)
 l1:a.1.length≤1000000
 l2:a.2.2.1.length≤1000000
 l3:a.2.2.2.length≤1000000
namespace Right
variable {a:AutT} {n:Nat}
theorem sorted (h:Right a n):y8G (a.2.2.2.map toEd):=by
 unfold y8G
 rw [List.pairwise_map]
 exact h.so
theorem ein (h:Right a n):∀x∈a.2.2.2.map toEd,0≤x.f∧x.f < (n:Int)∧0≤x.t∧x.t < (n:Int):=fun x hx=>by
 obtain⟨y,hy,rfl⟩:=List.mem_map.1 hx
 have:=h.es y hy
 exact⟨this.1,this.2.1,this.2.2.1,this.2.2.2.1⟩
theorem evs (h:Right a n):EvEs (a.2.2.2.map toEd):=fun x hx=>by
 obtain⟨y,hy,rfl⟩:=List.mem_map.1 hx
 exact h.alr _ (h.es y hy).2.2.2.2
theorem err (h:Right a n):(toAut a).err=0:=by
 have h1:yU 32 none (toAut a).al=0:=y5S h.ali h.alr (fun q hq=>by cases hq)
 have hn:(toAut a).n=n:=h.nn
 have h2:yU (toAut a).n none (toAut a).ms=0:=by rw [hn];exact y5S h.msi h.msr (fun q hq=>by cases hq)
 have h3:edErr (toAut a).al (toAut a).n none (toAut a).es=0:=by
  rw [hn]
  refine yaP h.sorted (fun x hx=>?_) (fun q hq=>by cases hq)
  obtain⟨y,hy,rfl⟩:=List.mem_map.1 hx
  have:=h.es y hy
  exact⟨this.1,this.2.1,this.2.2.1,this.2.2.2.1,yc.2 this.2.2.2.2⟩
 have:=h.nl
 unfold Aut.err
 rw [h1,if_neg (by decide),if_neg (by rw [hn];omega),if_neg (by rw [hn];omega),h2,if_neg (by decide),h3]
theorem check (h:Right a n):yt a=some 0:=by
 have h1:=h.l1
 have h2:=h.l2
 have h3:=h.l3
 have:=yaO (a:=toAut a) (by simp [toAut];omega) (by simp [toAut];omega) (by simp [toAut];omega)
 rwa [y8d,h.err] at this
end Right
theorem y3C {n:Nat}:∀{xs:List Int} {lo:Int},Inc xs→(∀x∈xs,lo≤x∧x < (n:Int))→0≤lo→xs.length≤n - lo.toNat
 | [],_,_,_,_=>Nat.zero_le _
 | x :: xs,lo,h,hr,h0=>by
  obtain⟨h1,h2⟩:=List.pairwise_cons.1 h
  have hx:=hr x (List.mem_cons_self ..)
  have:=y3C (n:=n) (lo:=x + 1) h2 (fun y hy=>⟨by have:=h1 y hy;omega,(hr y (List.mem_cons_of_mem _ hy)).2⟩) (by omega)
  rw [List.length_cons]
  omega
theorem y3l {α:Type} (a:α) (us:List α):idx (a :: us) 0=some a:=rfl
theorem y4S {α:Type} (a:α) (us:List α):slc (a :: us) 1 ((a :: us).length:Int)=some us:=by
 rw [slc,if_pos ⟨by omega,by simp;omega,by omega⟩]
 simp
structure Mrg (out us vs:List Int):Prop where
 o:Inc out
 u:Inc us
 v:Inc vs
 ou:∀x∈out,∀y∈us,x < y
 ov:∀x∈out,∀y∈vs,x < y
 ro:∀x∈out,0≤x∧x < 32
 ru:∀x∈us,0≤x∧x < 32
 rv:∀x∈vs,0≤x∧x < 32
theorem Mrg.swap {out us vs:List Int} (h:Mrg out us vs):Mrg out vs us:=⟨h.o,h.v,h.u,h.ov,h.ou,h.ro,h.rv,h.ru⟩
theorem Mrg.push {out us vs:List Int} {a:Int} (h:Mrg out (a :: us) vs) (hv:∀y∈vs,a < y):Mrg (out ++ [a]) us vs:=by
 obtain⟨u1,u2⟩:=List.pairwise_cons.1 h.u
 refine⟨?_,u2,h.v,?_,?_,?_,fun x hx=>h.ru x (List.mem_cons_of_mem _ hx),h.rv⟩
 ·unfold Inc;rw [List.pairwise_append]
  exact⟨h.o,List.pairwise_singleton _ _,fun x hx y hy=>by rw [List.mem_singleton.1 hy];exact h.ou x hx a (List.mem_cons_self ..)⟩
 ·intro x hx y hy
  rcases List.mem_append.1 hx with hx | hx
  ·exact h.ou x hx y (List.mem_cons_of_mem _ hy)
  ·rw [List.mem_singleton.1 hx];exact u1 y hy
 ·intro x hx y hy
  rcases List.mem_append.1 hx with hx | hx
  ·exact h.ov x hx y hy
  ·rw [List.mem_singleton.1 hx];exact hv y hy
 ·intro x hx
  rcases List.mem_append.1 hx with hx | hx
  ·exact h.ro x hx
  ·rw [List.mem_singleton.1 hx];exact h.ru a (List.mem_cons_self ..)
theorem Mrg.tailv {out us vs:List Int} {a:Int} (h:Mrg out us (a :: vs)):Mrg out us vs:=
 ⟨h.o,h.u,(List.pairwise_cons.1 h.v).2,h.ou,fun x hx y hy=>h.ov x hx y (List.mem_cons_of_mem _ hy),h.ro,h.ru,fun x hx=>h.rv x (List.mem_cons_of_mem _ hx)⟩
theorem Mrg.len {out us vs:List Int} (h:Mrg out us vs):out.length≤32:=by
 have:=y3C (n:=32) (lo:=0) h.o h.ro (Int.le_refl _)
 simpa using this
theorem Mrg.lt {out us vs:List Int} {a b:Int} (h:Mrg out us (b :: vs)) (hab:a < b):∀y∈b :: vs,a < y:=fun y hy=>by
 rcases List.mem_cons.1 hy with rfl | hy
 ·exact hab
 ·have:=(List.pairwise_cons.1 h.v).1 y hy;omega
theorem ybT {out us vs:List Int} (h:Mrg out us vs) (hne:0 < us.length + vs.length):
  ∃o u v,yn yv (out,us,vs)=some (.inl (o,u,v))∧Mrg o u v∧u.length + v.length + 1≤us.length + vs.length:=by
 have hl:=h.len
 have ho:∀a:Int,app out ([a]:List Int)=some (out ++ [a]):=fun a=>yl (by simp;omega)
 cases us with
 | nil=>
  cases vs with
  | nil=>simp at hne
  | cons b vs=>
   refine⟨out ++ [b],[],vs,?_,(h.swap.push (fun y hy=>by cases hy)).swap,by simp⟩
   rw [yn]
   dsimp only
   rw [if_pos (by simp),if_neg (by simp),yJ]
   dsimp only
   rw [if_pos (by simp),if_pos (by simp),yr,if_neg (by simp),ym,if_pos rfl]
   dsimp only
   rw [y3l,yOb,y4S,yOb,yI,show yv false true=some true from rfl,yOb,if_pos rfl]
   dsimp only
   rw [ho,yOb]
 | cons a us=>
  cases vs with
  | nil=>
   refine⟨out ++ [a],us,[],?_,h.push (fun y hy=>by cases hy),by simp⟩
   rw [yn]
   dsimp only
   rw [if_pos (by simp),if_pos (by simp),if_pos (by simp),yJ]
   dsimp only
   rw [if_neg (by simp),yr,if_pos rfl]
   dsimp only
   rw [y3l,yOb,y4S,yOb,ym,if_neg (by simp),yI,show yv true false=some true from rfl,yOb,if_pos rfl]
   dsimp only
   rw [ho,yOb]
  | cons b vs=>
   have e0:yn yv (out,a :: us,b :: vs)=yr yv (out,a :: us,b :: vs) (decide (a≤b)) (decide (b≤a)):=by
    rw [yn]
    dsimp only
    rw [if_pos (by simp),if_pos (by simp),if_neg (by simp;omega),y3l,yOb,y3l,yOb,yJ]
    dsimp only
    rw [if_pos (by simp),if_neg (by simp;omega),y3l,yOb,y3l,yOb]
   rw [e0,yr]
   dsimp only
   by_cases h1:a < b
   ·refine ⟨out ++ [a],us,b :: vs,?_,h.push (h.lt h1),by simp;omega⟩
    rw [if_pos (show decide (a≤b)=true by simp;omega),y3l,yOb,y4S,yOb,ym,if_neg (by simp;omega),yI,show decide (a≤b)=true by simp;omega,show decide (b≤a)=false by simp;omega,
     show yv true false=some true from rfl,yOb,if_pos rfl]
    dsimp only
    rw [ho,yOb]
   ·by_cases h2:b < a
    ·refine ⟨out ++ [b],a :: us,vs,?_,(h.swap.push (h.swap.lt h2)).swap,by simp;omega⟩
     rw [if_neg (show ¬decide (a≤b)=true by simp;omega),ym,if_pos (show decide (b≤a)=true by simp;omega)]
     dsimp only
     rw [y3l,yOb,y4S,yOb,yI,show decide (a≤b)=false by simp;omega,show decide (b≤a)=true by simp;omega,
      show yv false true=some true from rfl,yOb,if_pos rfl]
     dsimp only
     rw [ho,yOb]
    ·obtain rfl:a=b:=by omega
     refine⟨out ++ [a],us,vs,?_,h.tailv.push ((List.pairwise_cons.1 h.v).1),by simp;omega⟩
     rw [if_pos (show decide (a≤a)=true by simp),y3l,yOb,y4S,yOb,ym,if_pos (show decide (a≤a)=true by simp)]
     dsimp only
     rw [y3l,yOb,y4S,yOb,yI,show decide (a≤a)=true by simp,
      show yv true true=some true from rfl,yOb,if_pos rfl]
     dsimp only
     rw [ho,yOb]
def Alp (xs:List Int):Prop:=Inc xs∧∀x∈xs,0≤x∧x < 32
theorem Alp.nil :Alp []:=⟨List.Pairwise.nil,fun x hx=>by cases hx⟩
theorem Alp.len {xs:List Int} (h:Alp xs):xs.length≤32:=by
 have:=y3C (n:=32) (lo:=0) h.1 h.2 (Int.le_refl _)
 simpa using this
theorem ydh {us vs:List Int} (hu:Alp us) (hv:Alp vs):∃o,y2W us vs=some o∧Alp o:=by
 have h0:Mrg [] us vs:=⟨List.Pairwise.nil,hu.1,hv.1,fun x hx=>(by cases hx),fun x hx=>(by cases hx),fun x hx=>(by cases hx),hu.2,hv.2⟩
 have l1:=hu.len
 have l2:=hv.len
 obtain⟨o,h1,h2⟩:=yb (f:=yn yv) (fun i s=>Mrg s.1 s.2.1 s.2.2∧s.2.1.length + s.2.2.length + i≤us.length + vs.length) (fun o=>Alp o) (us.length + vs.length) 0 (by omega) (fun i s hi ⟨g1,g2⟩=>by
   obtain⟨out,u,v⟩:=s
   dsimp only at g1 g2
   by_cases hne:0 < u.length + v.length
   ·obtain ⟨o,u',v',e,g3,g4⟩:=ybT g1 hne
    exact .inl ⟨_,e,g3,by dsimp only;omega⟩
   ·have e1:u= []:=List.eq_nil_of_length_eq_zero (by omega)
    have e2:v= []:=List.eq_nil_of_length_eq_zero (by omega)
    subst e1;subst e2
    exact .inr ⟨out,rfl,g1.o,g1.ro⟩) (fun s ⟨g1,g2⟩=>by
   obtain⟨out,u,v⟩:=s
   dsimp only at g1 g2
   have e1:u= []:=List.eq_nil_of_length_eq_zero (by omega)
   have e2:v= []:=List.eq_nil_of_length_eq_zero (by omega)
   subst e1;subst e2
   exact⟨out,rfl,g1.o,g1.ro⟩) (Nat.zero_le _) ([],us,vs) ⟨h0,by dsimp only;omega⟩
 exact⟨o,by rw [y2W,y2v,h1];rfl,h2⟩
theorem ycz {l:List AutT} (hl:l.length≤1000) (h:∀a∈l,Alp a.1):∃ev,y2X l=some ev∧Alp ev:=by
 obtain⟨o,h1,h2⟩:=yb (f:=y1h l) (fun i s=>s.1=(i:Int)∧Alp s.2) (fun o=>Alp o) l.length 0 (by omega) (fun i s hi ⟨e1,g1⟩=>by
   obtain⟨k,out⟩:=s
   dsimp only at e1 g1
   subst e1
   obtain⟨o,e,g2⟩:=ydh g1 (h _ (List.getElem_mem hi))
   refine .inl ⟨(((i + 1:Nat):Int),o),?_,rfl,g2⟩
   rw [y1h]
   dsimp only
   rw [if_pos (ct_lt hi),ya hi,yOb,e,yOb,nxt (by omega)]) (fun s ⟨e1,g1⟩=>by
   obtain⟨k,out⟩:=s
   dsimp only at e1 g1
   subst e1
   refine⟨out,?_,g1⟩
   rw [y1h]
   dsimp only
   rw [if_neg ct_ge]) (Nat.zero_le _) (0,[]) ⟨rfl,Alp.nil⟩
 exact⟨o,by rw [y2X,h1];rfl,h2⟩
section
variable {κ β:Type} [BEq κ]
theorem ydi {m:List (κ×β)} {k:κ} {v:β} (h:kget m k=some v):∃e∈m,e.2=v:=by
 unfold kget at h
 rw [Option.map_eq_some_iff] at h
 obtain⟨e,h1,h2⟩:=h
 exact⟨e,List.mem_of_find?_eq_some h1,h2⟩
theorem y6Z {m:List (κ×β)} {k:κ} {v:β} {e:κ×β} (h:e∈kput m k v):e∈m∨e=(k,v):=by
 unfold kput at h
 split at h
 ·exact List.mem_or_eq_of_mem_set h
 ·rcases List.mem_append.1 h with h | h
  ·exact .inl h
  ·exact .inr (List.mem_singleton.1 h)
theorem y8Y {m:List (κ×β)} {k:κ}:(kget m k).isSome=m.any fun p=>k == p.1:=by
 unfold kget
 induction m with
 | nil=>rfl
 | cons p m ih=>
  rw [List.any_cons]
  cases h:k == p.1 with
  | true=>rw [List.find?_cons_of_pos (by simpa using h)];rfl
  | false=>rw [List.find?_cons_of_neg (by simp [h])];simpa using ih
end
theorem beqB (k:ByteArray):(k == k)=true:=by rw [beq_toListBytes];simp
theorem yaf {β:Type} {m:List (ByteArray×β)} {k:ByteArray} {v:β}:(kget (kput m k v) k).isSome=true:=by
 rw [y8Y,List.any_eq_true]
 refine⟨(k,v),?_,beqB k⟩
 unfold kput
 split
 ·rename_i h;exact List.mem_set h _
 ·exact List.mem_append_right _ (List.mem_singleton.2 rfl)
theorem ycA {β:Type} {m:List (ByteArray×β)} {k q:ByteArray} {v:β} (h:(kget m q).isSome=true):(kget (kput m k v) q).isSome=true:=by
 rw [y8Y,List.any_eq_true] at h ⊢
 obtain⟨e,h1,h2⟩:=h
 have hq:=eqS h2
 unfold kput
 split
 ·rename_i hlt
  obtain⟨i,hi,rfl⟩:=List.getElem_of_mem h1
  by_cases e:kidx (m.map (·.1)) k=i
  ·refine ⟨(k,v),List.mem_set hlt _,?_⟩
   have hk:(fun p=>k == p) ((m.map (·.1))[kidx (m.map (·.1)) k]'(by rw [List.length_map];exact hlt))=true:=List.findIdx_getElem (p:=fun p=>k == p) (w:=by rw [List.length_map];exact hlt)
   rw [List.getElem_map] at hk
   have hk:=eqS hk
   subst e
   rw [hq,←hk]
   exact beqB k
  ·refine ⟨m[i],?_,h2⟩
   have:=List.getElem_set_ne (l:=m) e (a:=(k,v)) (by rw [List.length_set];exact hi)
   rw [←this]
   exact List.getElem_mem _
 ·exact ⟨e,List.mem_append_left _ h1,h2⟩
def InT (l:List AutT) (t:List Int):Prop:=t.length=l.length∧∀i (h:i < l.length) (h':i < t.length),0≤t[i]∧t[i] < l[i].2.1
theorem InT.set {l:List AutT} {t:List Int} (h:InT l t) {i:Nat} (hi:i < l.length) {v:Int} (h0:0≤v) (h1:v < l[i].2.1):InT l (t.set i v):=by
 refine⟨by rw [List.length_set];exact h.1,fun k hk hk'=>?_⟩
 rw [List.getElem_set]
 split
 ·rename_i e;subst e;exact⟨h0,h1⟩
 ·exact h.2 k hk _
structure MOk (l:List AutT) (m:List AutT×List Int×List (List ((Int×Int)×Int))):Prop where
 ml:m.1=l
 ev:Alp m.2.1
 len:m.2.2.length=l.length
 edge:∀i (h:i < l.length) (h':i < m.2.2.length),∀e∈m.2.2[i],0≤e.2∧e.2 < l[i].2.1
theorem ye6 {a:AutT} {n:Nat} (hr:Right a n):∃o,iter (y1j a) (0,([]:List ((Int×Int)×Int)))=some o∧∀e∈o,0≤e.2∧e.2 < (n:Int):=by
 have hl:=hr.l3
 refine yb (f:=y1j a) (fun i s=>s.1=(i:Int)∧∀e∈s.2,0≤e.2∧e.2 < (n:Int)) (fun o=>∀e∈o,0≤e.2∧e.2 < (n:Int)) a.2.2.2.length 0 (by omega) (fun i s hi ⟨e1,g1⟩=>?_) (fun s ⟨e1,g1⟩=>?_) (Nat.zero_le _) _ ⟨rfl,fun e he=>(by cases he)⟩
 ·obtain ⟨k,out⟩:=s
  dsimp only at e1 g1
  subst e1
  have hx:=hr.es _ (List.getElem_mem hi)
  refine .inl ⟨(((i + 1:Nat):Int),kput out (a.2.2.2[i].1,a.2.2.2[i].2.1) a.2.2.2[i].2.2),?_,rfl,fun e he=>?_⟩
  ·rw [y1j]
   dsimp only
   rw [if_pos (ct_lt hi),ya hi,yOb,nxt (by omega)]
  ·rcases y6Z he with he | he
   ·exact g1 e he
   ·rw [he];exact⟨hx.2.2.1,hx.2.2.2.1⟩
 ·obtain ⟨k,out⟩:=s
  dsimp only at e1 g1
  subst e1
  refine⟨out,?_,g1⟩
  rw [y1j]
  dsimp only
  rw [if_neg ct_ge]
def keyK (t:List Int):ByteArray:=⟨(keyB t).toArray⟩
theorem y5T :∀(N:Nat) (l:List Nat),l.Nodup→(∀x∈l,x < N)→l.length≤N
 | 0,[],_,_=>Nat.le_refl _
 | 0,x :: l,_,h=>absurd (h x (List.mem_cons_self ..)) (by omega)
 | N + 1,l,hn,h=>by
  by_cases hm:N∈l
  ·have h1:=y5T N (l.erase N) (hn.erase N) (fun x hx=>by
    have h2:=(hn.mem_erase_iff).1 hx
    have:=h x h2.2
    omega)
   rw [List.length_erase_of_mem hm] at h1
   omega
  ·have h1:=y5T N l hn (fun x hx=>by
    have:=h x hx
    have:x≠N:=fun e=>hm (e ▸ hx)
    omega)
   omega
abbrev Kno :=List (ByteArray×Int)
structure SI (l:List AutT) (ev:List Int) (i j:Nat) (kn:Kno) (T:List (List Int)) (E:List (Int×Int×Int)):Prop where
 pos:0 < T.length
 nd:T.Nodup
 inT:∀t∈T,InT l t
 key:∀t∈T,(kget kn (keyK t)).isSome=true
 val:∀e∈kn,0≤e.2∧e.2 < (T.length:Int)
 er:∀x∈E,0≤x.1∧x.1≤(i:Int)∧0≤x.2.2∧x.2.2 < (T.length:Int)∧x.2.1∈ev
 es:∀x∈E,x.1=(i:Int)→x.2.1∈ev.take j
 so:E.Pairwise fun x y=>x.1 < y.1∨(x.1=y.1∧x.2.1 < y.2.1)
 el:E.length≤32 * i + j
 lk:∀k:Nat,0 < k→k < T.length→∃x∈E,x.2.2=(k:Int)∧0≤x.1∧x.1 < (k:Int)
section
variable {l:List AutT} {ev:List Int} {i j:Nat} {kn:Kno} {T:List (List Int)} {E:List (Int×Int×Int)}
theorem SI.skip (h:SI l ev i j kn T E):SI l ev i (j + 1) kn T E:=
 ⟨h.pos,h.nd,h.inT,h.key,h.val,h.er,fun x hx e=>(List.take_subset_take_left ev (Nat.le_succ j)) (h.es x hx e),h.so,by have:=h.el;omega,h.lk⟩
theorem SI.next (h:SI l ev i j kn T E) (hj:j≤32):SI l ev (i + 1) 0 kn T E:=
 ⟨h.pos,h.nd,h.inT,h.key,h.val,fun x hx=>by have:=h.er x hx;exact⟨this.1,by omega,this.2.2⟩,fun x hx e=>by have:=h.er x hx;omega,h.so,by have:=h.el;omega,h.lk⟩
theorem ybz (he:Inc ev) (hj:j < ev.length):∀x∈ev.take j,x < ev[j]:=fun x hx=>by
 obtain⟨k,hk,rfl⟩:=List.getElem_of_mem hx
 rw [List.length_take] at hk
 rw [List.getElem_take]
 exact List.pairwise_iff_getElem.1 he k j (by omega) hj (by omega)
theorem SI.edge (h:SI l ev i j kn T E) (he:Inc ev) (hi:i < T.length) (hj:j < ev.length) {q:Int} (h0:0≤q) (h1:q < T.length):SI l ev i (j + 1) kn T (E ++ [((i:Int),ev[j],q)]):=by
 refine⟨h.pos,h.nd,h.inT,h.key,h.val,fun x hx=>?_,fun x hx e=>?_,?_,by have:=h.el;rw [List.length_append,List.length_singleton];omega,fun k h2 h3=>?_⟩
 ·rcases List.mem_append.1 hx with hx | hx
  ·exact h.er x hx
  ·rw [List.mem_singleton.1 hx];exact⟨by dsimp only;omega,by dsimp only;omega,h0,h1,List.getElem_mem _⟩
 ·rcases List.mem_append.1 hx with hx | hx
  ·exact (List.take_subset_take_left ev (Nat.le_succ j)) (h.es x hx e)
  ·rw [List.mem_singleton.1 hx,y8A ev j hj];exact List.mem_append_right _ (List.mem_singleton.2 rfl)
 ·rw [List.pairwise_append]
  refine⟨h.so,List.pairwise_singleton _ _,fun a ha b hb=>?_⟩
  rw [List.mem_singleton.1 hb]
  have h2:=h.er a ha
  by_cases e:a.1=(i:Int)
  ·exact .inr ⟨e,ybz he hj _ (h.es a ha e)⟩
  ·exact .inl (by dsimp only;omega)
 ·obtain ⟨x,hx,h4⟩:=h.lk k h2 h3
  exact⟨x,List.mem_append_left _ hx,h4⟩
theorem SI.new (h:SI l ev i j kn T E) (he:Inc ev) (hi:i < T.length) (hj:j < ev.length) {t:List Int} (ht:InT l t) (hk:(kget kn (keyK t)).isSome=false):SI l ev i (j + 1) (kput kn (keyK t) (T.length:Int)) (T ++ [t]) (E ++ [((i:Int),ev[j],(T.length:Int))]):=by
 have hlen:(T ++ [t]).length=T.length + 1:=by simp
 have h0:SI l ev i j (kput kn (keyK t) (T.length:Int)) T E∨True:= .inr trivial
 refine⟨by omega,?_,fun s hs=>?_,fun s hs=>?_,fun e hx=>?_,fun x hx=>?_,fun x hx e=>?_,?_,by have:=h.el;rw [List.length_append,List.length_singleton];omega,fun k h2 h3=>?_⟩
 ·rw [List.nodup_append]
  refine⟨h.nd,by simp,fun a ha b hb=>?_⟩
  rw [List.mem_singleton.1 hb]
  intro e
  subst e
  rw [h.key a ha] at hk
  cases hk
 ·rcases List.mem_append.1 hs with hs | hs
  ·exact h.inT s hs
  ·rw [List.mem_singleton.1 hs];exact ht
 ·rcases List.mem_append.1 hs with hs | hs
  ·exact ycA (h.key s hs)
  ·rw [List.mem_singleton.1 hs];exact yaf
 ·rw [hlen]
  rcases y6Z hx with hx | hx
  ·have:=h.val e hx;omega
  ·rw [hx];dsimp only;omega
 ·rw [hlen]
  rcases List.mem_append.1 hx with hx | hx
  ·have:=h.er x hx;exact⟨this.1,this.2.1,this.2.2.1,by omega,this.2.2.2.2⟩
  ·rw [List.mem_singleton.1 hx];exact⟨by dsimp only;omega,by dsimp only;omega,by dsimp only;omega,by dsimp only;omega,List.getElem_mem _⟩
 ·rcases List.mem_append.1 hx with hx | hx
  ·exact (List.take_subset_take_left ev (Nat.le_succ j)) (h.es x hx e)
  ·rw [List.mem_singleton.1 hx,y8A ev j hj];exact List.mem_append_right _ (List.mem_singleton.2 rfl)
 ·rw [List.pairwise_append]
  refine⟨h.so,List.pairwise_singleton _ _,fun a ha b hb=>?_⟩
  rw [List.mem_singleton.1 hb]
  have h2:=h.er a ha
  by_cases e:a.1=(i:Int)
  ·exact .inr ⟨e,ybz he hj _ (h.es a ha e)⟩
  ·exact .inl (by dsimp only;omega)
 ·by_cases h4:k < T.length
  ·obtain ⟨x,hx,h5⟩:=h.lk k h2 h4
   exact⟨x,List.mem_append_left _ hx,h5⟩
  ·have:k=T.length:=by omega
   subst this
   exact⟨_,List.mem_append_right _ (List.mem_singleton.2 rfl),rfl,by dsimp only;omega,by dsimp only;omega⟩
end
theorem y8P.snoc {es:List Ed}:∀{k:Nat} {x:Int} {e:Ed},e∈es→y8P es [e.f] k x→y8P es [e.t] (k + 1) x
 | 0,x,e,he,h=>⟨e,he,(List.mem_singleton.1 h).symm,List.mem_singleton.2 rfl⟩
 | k + 1,x,e,he,⟨y,hy,h1,h2⟩=>⟨y,hy,h1,h2.snoc he⟩
abbrev edsOf (p:AutT):List Ed:=p.2.2.2.map toEd
theorem ycB {κ β:Type} [BEq κ] {m:List (κ×β)} {k:κ} {v:β} (h:kget m k=some v):∃e∈m,e.2=v∧(k == e.1)=true:=by
 unfold kget at h
 rw [Option.map_eq_some_iff] at h
 obtain⟨e,h1,h2⟩:=h
 exact⟨e,List.mem_of_find?_eq_some h1,h2,List.find?_some (p:=fun p:κ×β=>k == p.1) h1⟩
section
variable {κ β:Type} [DecidableEq κ] [BEq κ] [LawfulBEq κ]
theorem y6A (p:κ×β) (m:List (κ×β)) (q:κ):kget (p :: m) q=if q=p.1 then some p.2 else kget m q:=by
 unfold kget
 by_cases h:q=p.1
 ·rw [if_pos h,List.find?_cons_of_pos (by simp [h])];rfl
 ·rw [if_neg h,List.find?_cons_of_neg (by simp [h])]
omit [DecidableEq κ] [LawfulBEq κ] in
theorem ydj (k:κ) (v:β):kput [] k v= [(k,v)]:=by
 unfold kput;rw [if_neg (by simp)];rfl
theorem ycC (p:κ×β) (m:List (κ×β)) (k:κ) (v:β):kput (p :: m) k v=if k=p.1 then(k,v) :: m else p :: kput m k v:=by
 unfold kput
 rw [List.map_cons,y6o]
 by_cases h:k=p.1
 ·subst h;rw [if_pos (by simp),if_pos (by simp),if_pos rfl];rfl
 ·have e:(if (k == p.1)=true then 0 else kidx (m.map (·.1)) k + 1)=kidx (m.map (·.1)) k + 1:=if_neg (by simp [h])
  rw [e,if_neg h]
  by_cases h2:kidx (m.map (·.1)) k < m.length
  ·rw [if_pos h2,if_pos (by rw [List.length_cons];omega),List.set_cons_succ]
  ·rw [if_neg h2,if_neg (by rw [List.length_cons];omega)];rfl
theorem y3m {k q:κ} {v:β}:∀(m:List (κ×β)),kget (kput m k v) q=if q=k then some v else kget m q
 | []=>by rw [ydj,y6A]
 | p :: m=>by
  rw [ycC]
  by_cases h:k=p.1
  ·rw [if_pos h,y6A,y6A]
   by_cases h2:q=k
   ·rw [if_pos h2,if_pos h2]
   ·rw [if_neg h2,if_neg h2,if_neg (by rw [←h];exact h2)]
  ·rw [if_neg h,y6A,y6A,y3m m]
   by_cases h2:q=p.1
   ·rw [if_pos h2,if_neg (by rw [h2];exact fun e=>h e.symm),if_pos h2]
   ·rw [if_neg h2,if_neg h2]
end
theorem ybU {α:Type} (q:α→Bool):∀(xs:List α) (i j:Nat),i≤j→j≤xs.length→(∀k (h:k < xs.length),q xs[k]=decide (i≤k∧k < j))→(xs.take j).drop i=xs.filter q:=by
 intro xs i j hij hj h
 have e1:xs=xs.take i ++ ((xs.take j).drop i ++ xs.drop j):=by
  have h1:(xs.take j).take i=xs.take i:=by rw [List.take_take,Nat.min_eq_left hij]
  rw [←List.append_assoc,←h1,List.take_append_drop,List.take_append_drop]
 have f1:(xs.take i).filter q= []:=by
  refine List.filter_eq_nil_iff.2 fun x hx=>?_
  obtain⟨k,hk,rfl⟩:=List.mem_iff_getElem.1 hx
  rw [List.length_take] at hk
  rw [List.getElem_take,h k (by omega)]
  simp;omega
 have f2:((xs.take j).drop i).filter q=(xs.take j).drop i:=by
  refine List.filter_eq_self.2 fun x hx=>?_
  obtain⟨k,hk,rfl⟩:=List.mem_iff_getElem.1 hx
  rw [List.length_drop,List.length_take] at hk
  rw [List.getElem_drop,List.getElem_take,h (i + k) (by omega)]
  simp;omega
 have f3:(xs.drop j).filter q= []:=by
  refine List.filter_eq_nil_iff.2 fun x hx=>?_
  obtain⟨k,hk,rfl⟩:=List.mem_iff_getElem.1 hx
  rw [List.length_drop] at hk
  rw [List.getElem_drop,h (j + k) (by omega)]
  simp
 conv=>rhs;rw [e1]
 rw [List.filter_append,List.filter_append,f1,f2,f3]
 simp
theorem ya2 {xs:List (Int×Int×Int)} {p:(Int×Int×Int)→Int→Option Int} {c:(Int×Int×Int)→Int} {t:Int} (hp:∀x∈xs,p x t=some (c x)) (hl:xs.length < 4294967296) (hs:∀i j (hi:i < xs.length) (hj:j < xs.length),i < j→c xs[j] < 0→c xs[i] < 0):
  ∀(f i j:Nat),j≤i + f→i≤j→j≤xs.length→(∀k (h:k < xs.length),k < i→c xs[k] < 0)→(∀k (h:k < xs.length),j≤k→0≤c xs[k])→
  ∃q:Nat,iterF (yg xs t p) (f + 1) ((j:Int),(i:Int))=some (q:Int)∧q≤xs.length∧(∀k (h:k < xs.length),k < q→c xs[k] < 0)∧(∀k (h:k < xs.length),q≤k→0≤c xs[k])
 | 0,i,j,h1,h2,h3,h4,h5=>by
  obtain rfl:i=j:=by omega
  refine⟨i,?_,h3,h4,h5⟩
  rw [yf,yg]
  dsimp only
  rw [if_neg ct_ge]
 | f + 1,i,j,h1,h2,h3,h4,h5=>by
  by_cases hlt:i < j
  ·have hm:(i + j) / 2 < xs.length:=by omega
   rw [yf,yg]
   dsimp only
   rw [if_pos (ct_lt hlt),yby (by omega),ya hm,yOb,hp _ (List.getElem_mem hm),yOb]
   by_cases hc:c xs[(i + j) / 2] < 0
   ·rw [if_pos (decide_eq_true hc),nxt (by omega)]
    dsimp only
    refine ya2 hp hl hs f ((i + j) / 2 + 1) j (by omega) (by omega) h3 (fun k hk hlt2=>?_) h5
    by_cases hk2:k=(i + j) / 2
    ·subst hk2;exact hc
    ·exact hs k ((i + j) / 2) hk hm (by omega) hc
   ·rw [if_neg (by simpa using hc)]
    dsimp only
    refine ya2 hp hl hs f i ((i + j) / 2) (by omega) (by omega) (by omega) h4 (fun k hk hle=>?_)
    by_cases hk2:k=(i + j) / 2
    ·subst hk2;omega
    ·have:=mt (hs ((i + j) / 2) k hm hk (by omega)) hc
     omega
  ·obtain rfl:i=j:=by omega
   refine⟨i,?_,h3,h4,h5⟩
   rw [yf,yg]
   dsimp only
   rw [if_neg ct_ge]
structure AOk (a:Aut):Prop where
 n0:0≤a.n
 n1:a.n≤4096
 ed:∀x∈a.es,0≤x.f∧x.f < a.n∧0≤x.t∧x.t < a.n
 so:y8G a.es
 el:a.es.length≤1000000
 al:a.al.length≤1000000
 ml:a.ms.length≤1000000
theorem yag {a:Aut} (h:AOk a) {p:(Int×Int×Int)→Int→Option Int} (hp:∀x t,p x t=some (W (x.1 - t))) {t:Nat} (ht:t≤10000):
  ∃(q:Nat) (b:Bool),ye (a.es.map edP) (t:Int) p=some ((q:Int),b)∧q≤a.es.length∧(∀k (hk:k < a.es.length),k < q→a.es[k].f < t)∧(∀k (hk:k < a.es.length),q≤k→(t:Int)≤a.es[k].f):=by
 have hel:=h.el;have hn1:=h.n1
 have hlm:(a.es.map edP).length=a.es.length:=List.length_map ..
 have hat:∀k (hk:k < (a.es.map edP).length),(a.es.map edP)[k].1=(a.es[k]'(by omega)).f:=fun k hk=>by rw [List.getElem_map];rfl
 obtain⟨q,h1,h2,h3,h4⟩:=ya2 (xs:=a.es.map edP) (p:=p) (c:=fun x=>x.1 - t) (t:=t) (fun x hx=>by
   obtain⟨y,hy,rfl⟩:=List.mem_map.1 hx
   have:=h.ed y hy
   rw [hp,W_of (by show _≤y.f - _;omega) (by show y.f - _ < _;omega)]) (by omega) (fun i j hi hj hij hc=>by
   rw [hat] at hc ⊢
   have hs:=List.pairwise_iff_getElem.1 h.so i j (by omega) (by omega) hij
   have:(a.es[i]'(by omega)).f≤(a.es[j]'(by omega)).f:=by rcases hs with hs | ⟨hs,_⟩ <;> omega
   omega) a.es.length 0 a.es.length (by omega) (by omega) (by omega) (fun k hk h0=>absurd h0 (Nat.not_lt_zero _)) (fun k hk h0=>by omega)
 have hr:∃b:Bool,(if decide ((q:Int) < ((a.es.map edP).length:Int)) then(idx (a.es.map edP) (q:Int)).bind fun x19=>(p x19 (t:Int)).bind fun r21=>some (r21 == 0) else some false)=some b:=by
  by_cases hq:q < (a.es.map edP).length
  ·rw [if_pos (ct_lt hq),ya hq,yOb,hp,yOb];exact⟨_,rfl⟩
  ·rw [if_neg (by simp at hq ⊢;omega)];exact⟨_,rfl⟩
 obtain⟨b,hb⟩:=hr
 refine⟨q,b,?_,by omega,fun k hk hlt=>?_,fun k hk hle=>?_⟩
 ·rw [ye,hlm,show iter (yg (a.es.map edP) (t:Int) p) ((a.es.length:Int),0)=some (q:Int) from y3Y (by omega) h1,yOb]
  rw [hlm] at hb
  rw [hb]
  rfl
 ·have:=h3 k (by omega) hlt
  rw [hat] at this
  omega
 ·have:=h4 k (by omega) hle
  rw [hat] at this
  omega
def outL (a:Aut) (s:Nat):List Ed:=a.es.filter fun x=>x.f == (s:Int)
theorem yeA {a:Aut} (h:AOk a) {s:Nat} (hs:s≤4096):y2N (autP a) (s:Int)=some ((outL a s).map edP):=by
 have hel:=h.el
 obtain⟨q1,b1,h1,h2,h3,h4⟩:=yag h (p:=y4e) (fun x t=>rfl) (t:=s) (by omega)
 obtain⟨q2,b2,g1,g2,g3,g4⟩:=yag h (p:=y4f) (fun x t=>rfl) (t:=s + 1) (by omega)
 have hle:q1≤q2:=by
  by_cases hc:q1≤q2
  ·exact hc
  ·have k1:=h3 q2 (by omega) (by omega)
   have k2:=g4 q2 (by omega) (Nat.le_refl _)
   omega
 rw [y2N,show ye (autP a).2.2.2 (s:Int) y4e=_ from h1,yOb,nxt (by omega),show ye (autP a).2.2.2 ((s + 1:Nat):Int) y4f=_ from g1,yOb]
 dsimp only
 rw [show (autP a).2.2.2=a.es.map edP from rfl,slc,if_pos ⟨by omega,by omega,by rw [List.length_map];omega⟩,yOb,Int.toNat_natCast,Int.toNat_natCast,←List.map_take,←List.map_drop]
 rw [ybU (fun x:Ed=>x.f == (s:Int)) a.es q1 q2 hle g2 (fun k hk=>?_)]
 ·rfl
 ·rw [Bool.eq_iff_iff,beq_iff_eq,decide_eq_true_eq]
  constructor
  ·intro he
   refine⟨?_,?_⟩
   ·by_cases hc:q1≤k
    ·exact hc
    ·have:=h3 k hk (by omega);omega
   ·by_cases hc:k < q2
    ·exact hc
    ·have:=g4 k hk (by omega);omega
  ·rintro ⟨k1,k2⟩
   have:=h4 k hk k1
   have:=g3 k hk k2
   omega
theorem Right.aok {a:AutT} {n:Nat} (hr:Right a n):AOk (toAut a):=by
 have hn:=hr.nn
 have hl:=hr.nl
 have hN:(toAut a).n=(n:Int):=hn
 exact⟨by rw [hN];omega,by rw [hN];omega,fun x hx=>by rw [hN];exact hr.ein x hx,hr.sorted,by show(a.2.2.2.map toEd).length≤_;rw [List.length_map];exact hr.l3,hr.l1,hr.l2⟩
theorem ybA {a:AutT} {n:Nat} (hr:Right a n) {s:Nat} (hs:s < n):y2N a (s:Int)=some (a.2.2.2.filter fun x=>x.1 == (s:Int)):=by
 have hl:=hr.nl
 have h:=yeA hr.aok (s:=s) (by omega)
 rw [y8d] at h
 rw [h,outL]
 show some (((a.2.2.2.map toEd).filter fun x=>x.f == (s:Int)).map edP)=_
 rw [List.filter_map,List.map_map]
 congr 1
 exact List.map_id' _
structure LOkB (B:Nat) (l:List AutT):Prop where
 len:l.length≤3
 right:∀a∈l,∃n:Nat,1≤n∧n≤B∧Right a n
 b99:B≤99
 pw:B ^ l.length≤4000
theorem ybV {l:List AutT} {B:Nat} (h:LOkB B l):y3p l=some 0:=by
 have hl:=h.len
 have hb99:=h.b99
 obtain⟨o,h1,rfl⟩:=yb (f:=y1n l) (fun i s=>s=(i:Int)) (fun o=>o= .inl ()) l.length 0 (by omega) (fun i s hi e1=>by
   subst e1
   obtain⟨n,_,_,hr⟩:=h.right _ (List.getElem_mem hi)
   refine .inl ⟨((i + 1:Nat):Int),?_,rfl⟩
   rw [y1n,if_pos (ct_lt hi),ya hi,yOb,hr.check,yOb,if_neg (by simp),nxt (by omega)]) (fun s e1=>by
   subst e1
   exact⟨_,by rw [y1n,if_neg ct_ge],rfl⟩) (Nat.zero_le _) 0 rfl
 rw [y3p,if_neg (by simp;omega),h1]
 rfl
theorem ydk {l:List AutT} {B:Nat} (h:LOkB B l):∃m,y2Y l=some m∧MOk l m:=by
 have hl:=h.len
 have hb99:=h.b99
 obtain⟨ev,he,hev⟩:=ycz (l:=l) (by omega) (fun a ha=>by
  obtain⟨n,_,_,hr⟩:=h.right a ha
  exact⟨hr.ali,hr.alr⟩)
 obtain⟨o,h1,h2⟩:=yb (f:=y1C l) (fun i s=>i≤l.length∧s.1=(i:Int)∧s.2.length=i∧∀k (h:k < l.length) (h':k < s.2.length),∀e∈s.2[k],0≤e.2∧e.2 < l[k].2.1) (fun o=>o.length=l.length∧∀k (h:k < l.length) (h':k < o.length),∀e∈o[k],0≤e.2∧e.2 < l[k].2.1) l.length 0 (by omega) (fun i s hi ⟨_,e1,g1,g2⟩=>by
   obtain⟨k,out⟩:=s
   dsimp only at e1 g1 g2
   subst e1
   obtain⟨n,_,_,hr⟩:=h.right _ (List.getElem_mem hi)
   obtain⟨o,e,g3⟩:=ye6 hr
   refine .inl ⟨(((i + 1:Nat):Int),out ++ [o]),?_,by omega,rfl,by simp [g1],fun k hk hk' x hx=>?_⟩
   ·rw [y1C]
    dsimp only
    rw [if_pos (ct_lt hi),ya hi,yOb,e,yOb,yl (by simp;omega),yOb,nxt (by omega)]
   ·dsimp only at hx
    by_cases hki:k < out.length
    ·rw [List.getElem_append_left hki] at hx;exact g2 k hk hki x hx
    ·have hk2:k=i:=by simp at hk';omega
     subst hk2
     rw [List.getElem_append_right (by omega)] at hx
     simp only [g1,Nat.sub_self,List.getElem_cons_zero] at hx
     rw [hr.nn]
     exact g3 x hx) (fun s ⟨_,e1,g1,g2⟩=>by
   obtain⟨k,out⟩:=s
   dsimp only at e1 g1 g2
   subst e1
   refine⟨out,?_,g1,g2⟩
   rw [y1C]
   dsimp only
   rw [if_neg ct_ge]) (Nat.zero_le _) (0,[]) ⟨Nat.zero_le _,rfl,rfl,fun k hk hk'=>(by simp at hk')⟩
 exact⟨(l,ev,o),by rw [y2Y,he,yOb,h1];rfl,rfl,hev,h2.1,h2.2⟩
theorem yba {l:List AutT} {B:Nat} (h:LOkB B l) {m:List AutT×List Int×List (List ((Int×Int)×Int))} (hm:MOk l m):∃t,yp m=some (t,true)∧InT l t:=by
 have hl:=h.len
 have hb99:=h.b99
 obtain⟨m1,m2,m3⟩:=m
 obtain⟨rfl,hev,hlen,_⟩:=hm
 dsimp only at *
 obtain⟨o,h1,rfl⟩:=yb (f:=yh (m1,m2,m3)) (fun i s=>s=(i:Int)) (fun o=>o= .inl ()) m1.length 0 (by omega) (fun i s hi e1=>by
   subst e1
   obtain⟨n,hn,_,hr⟩:=h.right _ (List.getElem_mem hi)
   refine .inl ⟨((i + 1:Nat):Int),?_,rfl⟩
   rw [yh]
   dsimp only
   rw [if_pos (ct_lt hi),ya hi,yOb,hr.nn,if_neg (by simp;omega),nxt (by omega)]) (fun s e1=>by
   subst e1
   refine⟨_,?_,rfl⟩
   rw [yh]
   dsimp only
   rw [if_neg ct_ge]) (Nat.zero_le _) 0 rfl
 have hmk:mkL (m1.length:Int) (0:Int)=some (List.replicate m1.length 0):=by unfold mkL;rw [if_pos ⟨by omega,by omega⟩,Int.toNat_natCast]
 refine⟨List.replicate m1.length 0,?_,by simp,fun i hi hi'=>?_⟩
 ·rw [yp,h1,yOb]
  dsimp only
  rw [hmk,yOb]
 ·obtain ⟨n,hn,_,hr⟩:=h.right _ (List.getElem_mem hi)
  rw [List.getElem_replicate,hr.nn]
  omega
theorem ydl {l:List AutT} {B:Nat} (h:LOkB B l) {m:List AutT×List Int×List (List ((Int×Int)×Int))} (hm:MOk l m) {t:List Int} (ht:InT l t) (e:Int):∃r,yR m t e=some r∧(r.2=true→InT l r.1):=by
 have hl:=h.len
 have hb99:=h.b99
 obtain⟨m1,m2,m3⟩:=m
 obtain⟨rfl,hev,hlen,hed⟩:=hm
 dsimp only at *
 obtain⟨o,h1,h2⟩:=yb (f:=yi (m1,m2,m3) t e) (fun i s=>s.1=(i:Int)∧InT m1 s.2) (fun o=>∀u,o= .inl u→InT m1 u) m1.length 0 (by omega) (fun i s hi ⟨e1,g1⟩=>by
   obtain⟨k,out⟩:=s
   dsimp only at e1 g1
   subst e1
   obtain⟨n,hn,_,hr⟩:=h.right _ (List.getElem_mem hi)
   have ha:m1[i].1.length < 4294967296:=by have:=hr.l1;omega
   have hj:∀u:List Int,yq ((i:Int),out) u=some (.inl (((i + 1:Nat):Int),u)):=fun u=>by
    rw [yq];dsimp only;rw [nxt (by omega)]
   rw [yi]
   dsimp only
   rw [if_pos (ct_lt hi),ya hi,yOb,y3A ha hr.ali,yOb]
   cases hb:hasB m1[i].1 e with
   | false=>
    rw [if_pos (by simp),hj]
    exact .inl ⟨_,rfl,rfl,g1⟩
   | true=>
    rw [if_neg (by simp),ya (by omega),yOb,ya (by have:=ht.1;omega),yOb]
    cases hg:kget m3[i] (t[i]'(by have:=ht.1;omega),e) with
    | none=>
     rw [if_pos (by simp)]
     exact .inr ⟨_,rfl,fun u hu=>by cases hu⟩
    | some v=>
     obtain⟨x,hx,rfl⟩:=ydi hg
     have hv:=hed i hi (by omega) x hx
     rw [if_neg (by simp),ya (by have:=g1.1;omega),yOb,y6z (by have:=g1.1;omega),yOb,hj]
     exact .inl ⟨_,rfl,rfl,g1.set hi hv.1 hv.2⟩) (fun s ⟨e1,g1⟩=>by
   obtain⟨k,out⟩:=s
   dsimp only at e1 g1
   subst e1
   refine⟨.inl out,?_,fun u hu=>by cases hu;exact g1⟩
   rw [yi]
   dsimp only
   rw [if_neg ct_ge]) (Nat.zero_le _) (0,t) ⟨rfl,ht⟩
 rw [yR,y5K (by have:=ht.1;omega),yOb,h1,yOb]
 cases o with
 | inl u=>exact⟨_,rfl,fun _=>h2 u rfl⟩
 | inr u=>exact⟨_,rfl,fun hb=>by cases hb⟩
theorem ybW {l:List AutT} {B:Nat} (h:LOkB B l) {m:List AutT×List Int×List (List ((Int×Int)×Int))} (hm:MOk l m) {t:List Int} (ht:InT l t):∃b,yz m t=some b:=by
 have hl:=h.len
 have hb99:=h.b99
 obtain⟨m1,m2,m3⟩:=m
 obtain⟨rfl,hev,hlen,hed⟩:=hm
 dsimp only at *
 obtain⟨o,h1,h2⟩:=yb (f:=y1Q (m1,m2,m3) t) (fun i s=>s=(i:Int)) (fun _=>True) m1.length 0 (by omega) (fun i s hi e1=>by
   subst e1
   obtain⟨n,hn,_,hr⟩:=h.right _ (List.getElem_mem hi)
   have ha:m1[i].2.2.1.length < 4294967296:=by have:=hr.l2;omega
   rw [y1Q]
   dsimp only
   rw [if_pos (ct_lt hi),ya hi,yOb,ya (by have:=ht.1;omega),yOb,y3A ha hr.msi,yOb]
   cases hb:hasB m1[i].2.2.1 (t[i]'(by have:=ht.1;omega)) with
   | false=>rw [if_pos (by simp)];exact .inr ⟨_,rfl,trivial⟩
   | true=>rw [if_neg (by simp),nxt (by omega)];exact .inl ⟨_,rfl,rfl⟩) (fun s e1=>by
   subst e1
   refine⟨.inl (),?_,trivial⟩
   rw [y1Q]
   dsimp only
   rw [if_neg ct_ge]) (Nat.zero_le _) 0 rfl
 rw [yz,h1,yOb]
 cases o with
 | inl u=>exact⟨_,rfl⟩
 | inr u=>exact⟨_,rfl⟩
theorem ybB {l:List AutT} {B:Nat} (h:LOkB B l) {t:List Int} (ht:InT l t):y3D t=some (keyK t):=by
 have hl:=h.len
 have hb99:=h.b99
 have hc:(t.all fun x=>decide (0≤x∧x < 100))=true:=by
  rw [List.all_eq_true]
  intro x hx
  obtain⟨i,hi,rfl⟩:=List.getElem_of_mem hx
  have hi':i < l.length:=by have:=ht.1;omega
  obtain⟨n,hn,hn6,hr⟩:=h.right _ (List.getElem_mem hi')
  have:=ht.2 i hi' hi
  rw [hr.nn] at this
  simp;omega
 rw [y3D,if_pos ⟨hc,by have:=ht.1;omega⟩]
 rfl
def y5m (B:Nat):List Int→Nat
 | []=>0
 | x :: t=>x.toNat + B * y5m B t
theorem y9H {B:Nat}:∀{s t:List Int},s.length=t.length→(∀x∈s,0≤x∧x < B)→(∀x∈t,0≤x∧x < B)→y5m B s=y5m B t→s=t
 | [],[],_,_,_,_=>rfl
 | [],_ :: _,h,_,_,_=>by simp at h
 | _ :: _,[],h,_,_,_=>by simp at h
 | x :: s,y :: t,h,hs,ht,e=>by
  have h1:=hs x (List.mem_cons_self ..)
  have h2:=ht y (List.mem_cons_self ..)
  simp only [y5m] at e
  have e2:x.toNat=y.toNat:=by
   have h3:=congrArg (· % B) e
   simp only [Nat.add_mul_mod_self_left] at h3
   rwa [Nat.mod_eq_of_lt (by omega),Nat.mod_eq_of_lt (by omega)] at h3
  have hxy:x=y:=by omega
  subst hxy
  have e3:B * y5m B s=B * y5m B t:=by omega
  rw [y9H (s:=s) (t:=t) (by simpa using h) (fun z hz=>hs z (List.mem_cons_of_mem _ hz)) (fun z hz=>ht z (List.mem_cons_of_mem _ hz)) (Nat.eq_of_mul_eq_mul_left (by omega) e3)]
theorem yah {B:Nat}:∀{t:List Int},(∀x∈t,0≤x∧x < B)→y5m B t < B ^ t.length
 | [],_=>by simp [y5m]
 | x :: t,h=>by
  have h1:=h x (List.mem_cons_self ..)
  have h2:=yah (t:=t) (fun z hz=>h z (List.mem_cons_of_mem _ hz))
  rw [List.length_cons,Nat.pow_succ,y5m]
  have h3:B * (y5m B t + 1)≤B * B ^ t.length:=Nat.mul_le_mul_left B h2
  rw [Nat.mul_add,Nat.mul_one] at h3
  rw [Nat.mul_comm (B ^ t.length) B]
  omega
theorem InT.smallB {l:List AutT} {B:Nat} (h:LOkB B l) {t:List Int} (ht:InT l t):∀x∈t,0≤x∧x < B:=by
 intro x hx
 obtain⟨i,hi,rfl⟩:=List.getElem_of_mem hx
 have hi':i < l.length:=by have:=ht.1;omega
 obtain⟨n,hn,hn6,hr⟩:=h.right _ (List.getElem_mem hi')
 have:=ht.2 i hi' hi
 rw [hr.nn] at this
 omega
theorem y6n {l:List AutT} {B:Nat} (h:LOkB B l) {T:List (List Int)} (hn:T.Nodup) (hT:∀t∈T,InT l t):T.length≤4000:=by
 have h1:=y5T (B ^ l.length) (T.map (y5m B)) ?_ ?_
 ·rw [List.length_map] at h1
  have h2:=h.pw
  omega
 ·rw [List.Nodup,List.pairwise_map]
  refine List.Pairwise.imp_of_mem (fun {a b} ha hb hab e=>hab ?_) hn
  exact y9H ((hT a ha).1.trans (hT b hb).1.symm) ((hT a ha).smallB h) ((hT b hb).smallB h) e
 ·intro x hx
  obtain⟨t,ht,rfl⟩:=List.mem_map.1 hx
  rw [←(hT t ht).1]
  exact yah ((hT t ht).smallB h)
end Go.Proofs.YtecmobjeeonmaaaGreatDoor
