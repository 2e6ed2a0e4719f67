/- Parts of the proof, without what nothing here names. -/
import Derived.Test.YtecmobjeeonmaaaGreatDoorProg
import Derived.Shelf.SlSortCmp.InsertionK
import Derived.Shelf.SlSortCmp.NoneTotal
import Derived.Ground.SlsfProg
import Derived.Test.YtecmobjeeonmaaaGreatDoorQa3
set_option maxRecDepth 100000
set_option maxHeartbeats 8000000
namespace Go.Proofs.YtecmobjeeonmaaaGreatDoor
open Go Go.RowKit
noncomputable section
def y2R (st110:Int×List Int×(List (Int×Int))×EdgL) (l115:List Int) (l116:List (Int×Int)) (l117:List (Int×Int×Int)):Option ((Int×List Int×(List (Int×Int))×EdgL) ⊕ (List Int×(List (Int×Int))×EdgL)):=
 some (.inl (W (st110.1 + 1),l115,l116,l117))
def y2S (st73:Int×List Int×(List (Int×Int))×List Int×EdgL) (st110:Int×List Int×(List (Int×Int))×EdgL) (r121:Int) (x119:Int) (l125:List Int) (l126:List (Int×Int)):Option ((Int×List Int×(List (Int×Int))×EdgL) ⊕ (List Int×(List (Int×Int))×EdgL)):=
 (app st110.2.2.2 ([(st73.1,x119,((kget l126 r121).getD 0))]:List (Int×Int×Int))).bind fun x128=>
 y2R st110 l125 l126 x128
def y4q (p0:(AutT×(List KeyT))×(AutT×(List KeyT))×(AutT×(List KeyT))×List (List Int)×List Int×List Int) (r1:List Int) (st73:Int×List Int×(List (Int×Int))×List Int×EdgL) (r82:Int) (st110:Int×List Int×(List (Int×Int))×EdgL):Option ((Int×List Int×(List (Int×Int))×EdgL) ⊕ (List Int×(List (Int×Int))×EdgL)):=
 if decide (st110.1 < (r1.length:Int)) then
  (idx r1 st110.1).bind fun x119=>
  (idx st110.2.1 st73.1).bind fun x120=>
  (y2v p0.2.2.1 x120 x119).bind fun r121=>
  (if (r121 == (-1)) then
   some true
  else
   (if (x119 != r82) then
    (yH p0.2.2.2.2.1 x119).bind fun r133=>
    some (!r133)
   else
    some false).bind fun b130=>
   some b130).bind fun b122=>
  if b122 then
   y2R st110 st110.2.1 st110.2.2.1 st110.2.2.2
  else
   if(!((kget st110.2.2.1 r121).isSome)) then
    (app st110.2.1 ([r121]:List Int)).bind fun x129=>
    y2S st73 st110 r121 x119 x129 (kput st110.2.2.1 r121 (st110.2.1.length:Int))
   else
    y2S st73 st110 r121 x119 st110.2.1 st110.2.2.1
 else
  some (.inr st110.2)
def y2T (p0:(AutT×(List KeyT))×(AutT×(List KeyT))×(AutT×(List KeyT))×List (List Int)×List Int×List Int) (p1:List Int) (r1:List Int) (st73:Int×List Int×(List (Int×Int))×List Int×EdgL) (l79:List Int):Option ((Int×List Int×(List (Int×Int))×List Int×EdgL) ⊕ (List Int×List Int×EdgL)):=
 (idx st73.2.1 st73.1).bind fun x81=>
 (y4w p0 x81 p1).bind fun r82=>
 (iter (y4q p0 r1 st73 r82) (0,st73.2.1,st73.2.2.1,st73.2.2.2.2)).bind fun o110=>
 some (.inl (W (st73.1 + 1),o110.1,o110.2.1,l79,o110.2.2))
def y4r (p0:(AutT×(List KeyT))×(AutT×(List KeyT))×(AutT×(List KeyT))×List (List Int)×List Int×List Int) (p1:List Int) (r1:List Int) (st73:Int×List Int×(List (Int×Int))×List Int×EdgL):Option ((Int×List Int×(List (Int×Int))×List Int×EdgL) ⊕ (List Int×List Int×EdgL)):=
 if decide (st73.1 < (st73.2.1.length:Int)) then
  (idx st73.2.1 st73.1).bind fun x134=>
  (yH p0.2.2.1.1.2.2.1 x134).bind fun r135=>
  if r135 then
   (app st73.2.2.2.1 ([st73.1]:List Int)).bind fun x136=>
   y2T p0 p1 r1 st73 x136
  else
   y2T p0 p1 r1 st73 st73.2.2.2.1
 else
  some (.inr (st73.2.1,st73.2.2.2))
def y2U (p0:(AutT×(List KeyT))×(AutT×(List KeyT))×(AutT×(List KeyT))×List (List Int)×List Int×List Int) (p1:List Int) (r1:List Int) (l2:List Int) (l3:List (Int×Int)):Option (AutT×(List KeyT)):=
 (iter (y4r p0 p1 r1) (0,l2,l3,([]:List Int),([]:List (Int×Int×Int)))).bind fun o73=>
 (y3m (r1,(o73.1.length:Int),o73.2)).bind fun r78=>
 some r78
def y3U (p0:(AutT×(List KeyT))×(AutT×(List KeyT))×(AutT×(List KeyT))×List (List Int)×List Int×List Int) (p1:List Int):Option (AutT×(List KeyT)):=
 (yQ p0.2.2.1.1.1).bind fun r1=>
 if decide (p0.2.2.1.1.2.1 > 0) then
  (app ([]:List Int) ([0]:List Int)).bind fun x137=>
  y2U p0 p1 r1 x137 (kput ([]:List (Int×Int)) 0 0)
 else
  y2U p0 p1 r1 ([]:List Int) ([]:List (Int×Int))
theorem y6j {p0:(AutT×(List KeyT))×(AutT×(List KeyT))×(AutT×(List KeyT))×List (List Int)×List Int×List Int} {p1:List Int} {r:(AutT×(List KeyT))} (hm:y3U p0 p1=some r):
  Fw Tryz.prog 78 ⟨0,[]⟩ [.o (lQ 155 (lx155 p0) 0),.f qI p1] [] (.g [lF qI r.1.1,lI r.1.2.1,lF qI r.1.2.2.1,lF qT r.1.2.2.2,lM kvP qI r.2]) []:=by
 unfold y3U at hm
 refine Fw.mk' Tryz.func78 R Tryz.ntmps78 R R (fun C=>?_) R R
 refine .seq (.reg (.op (O.al 0 R zz141 R Z R) R (.nil (.seqN (.seq (.reg (.mv R (.op (O.nc .Q Z R R) R (.op (O.faQ y5V Z R R) R (.op (O.faQ y3B Z R R) R (.op (O.faQ y1S Z R R) R (.op (O.ld nag32 Z R .Q R R) R (bS hm fun r1 er1 hm=> .op (O.ca (r':= .h 1) [1] [(0,ROW qI 3 r1)] (some 2) (y2k er1) cf103 R R Z R R R R ⟨⟨_,R,fun _ _ _ _ h=>h⟩,trivial⟩ (fun _ _ _ h=>h) R) R (.op (O.bu (l:=[lH 1,lI 0,lN,lN]) pl35 R Z R R R) R (.op (O.al 2 R zz35 R Z R) R (.op (O.st ag35.sz Z R R R R R) R (.nil (.seqN (.seq (.reg (.sa R (.nil (.seqN (.seq (.reg (.op (O.mk2 (kv:=kvI) (r:=qI) 3 R Z R) R (.sa R (.nil (.seqN ?_)))))))))))))))))))))))))))))
 refine .join2 (fun (l2:List Int) (l3:List (Int×Int))=>y2U p0 p1 r1 l2 l3=some r) (fun l2 l3=>⟨[(6,.h 0),(7,.h 1),(5,.q 2 0),(4,.q 4 0),(0,.o (lQ 155 (lx155 p0) 0)),(1,.f qI p1)],[(0,ROW qI 3 l2),(1,MAP kvI qI 229 l3),(2,.bx 35 [lH 3,lI 0,lN,lN]),(3,ROW qI 3 r1),(4,.bx 141 [lN,lI 0,lN,lN,lV (.map none)])],5⟩) ?_ ?_
 ·intro l2 l3 hm
  unfold y2U at hm
  refine .seq (.seq (.reg (.sa R (.nil (.seqN (.block (bS hm fun o73 eo73 hm=>?_)))))))
  refine .cut1 (z:= .exit 0) o73 (fun (o73:List Int×List Int×EdgL)=>⟨[(6,.h 0),(5,.q 1 0),(4,.q 5 0)],[(0,ROW qI 3 o73.1),(1,.bx 35 [lH 2,lI 0,lH 3,lH 4]),(2,ROW qI 3 r1),(3,ROW qI 3 o73.2.1),(4,ROW qT 124 o73.2.2),(5,.bx 141 [lN,lI 0,lN,lN,lV (.map none)])],6⟩) ?_ fun K77=>?_
  ·skip
   refine .blkE (.seqN (.seq (.reg (.mv R (.op (O.lenH sl32 Z R R R) R (.op (O.faP y1T Z R R) R (.op (O.st nag3.sz Z R R R R R) R (.nil (.seqN (.seq (.reg (.op (O.lg (l':=[lH 2,lI (o73.1.length:Int),lH 3,lH 4]) ag35 Z R (.B R) R R R) R (.fz 2 [129] [1] R R fR R R (.fz 3 [129] [1] R R fR R R (.fz 4 [129] [1] R R fR R R (bS hm fun r78 er78 hm=> .op (O.ca0 (y4E er78) cf151 R R Z R R R) R (.op (O.st ag141.sz Z R R R R R) R (.nil (.seqN (.ret ?_))))))))))))))))))))
   obtain rfl:=oi hm
   exact WX.rt [] (.inl R) Tryz.results78 (.cell R R ag141 R .nil) R (fun _ _ _ h=>h) trivial
  refine .nlb qI 3 2 2 R R (.nlb qT 124 2 3 R R (.iter (fun (st73:Int×List Int×(List (Int×Int))×List Int×EdgL)=>⟨[(8,.i st73.1),(6,.h 0),(7,.h 1),(5,.q 2 0),(4,.q 6 0),(0,.o (lQ 155 (lx155 p0) 0)),(1,.f qI p1)],[(0,ROW qI 3 st73.2.1),(1,MAP kvI qI 229 st73.2.2.1),(2,.bx 35 [lH 3,lI 0,lH 4,lH 5]),(3,ROW qI 3 r1),(4,ROW qI 3 st73.2.2.2.1),(5,ROW qT 124 st73.2.2.2.2),(6,.bx 141 [lN,lI 0,lN,lN,lV (.map none)])],7⟩) eo73 [(4,5),(5,6),(6,4)] R ?_))
  intro st73 res73 hm ih73 ho73
  unfold y4r at hm
  refine .seq (.seq (.reg (.mv R (.mv R (.op (O.lenH sl32 Z R R R) R (.bi R (.nil (.seqN ?_))))))))
  rcases ifS hm with ⟨hc,hm⟩ | ⟨hc,hm⟩
  ·refine .cT R hc ?_
   refine .skip (.seqN (.seq (.block ?_)))
   refine .join1 (fun (l79:List Int)=>y2T p0 p1 r1 st73 l79=some res73) (fun l79=>⟨[(8,.i st73.1),(6,.h 0),(7,.h 1),(5,.q 2 0),(4,.q 6 0),(0,.o (lQ 155 (lx155 p0) 0)),(1,.f qI p1)],[(0,ROW qI 3 st73.2.1),(1,MAP kvI qI 229 st73.2.2.1),(2,.bx 35 [lH 3,lI 0,lH 4,lH 5]),(3,ROW qI 3 r1),(4,ROW qI 3 l79),(5,ROW qT 124 st73.2.2.2.2),(6,.bx 141 [lN,lI 0,lN,lN,lV (.map none)])],7⟩) ?_ ?_
   ·intro l79 hm
    unfold y2T at hm
    refine .seq (.reg (.mv R (.mv R (.mv R (bS hm fun x81 ex81 hm=> .op (O.ir sl32 Z R R R ex81 R) R (.op (O.ld nag3 Z R (.R R ex81 lv3) R R) R (.mv R (bS hm fun r82 er82 hm=> .op (O.ca0 (y7j er82) cf149 R R Z R R R) R (.sa R (.nil (.seqN (.seq (.reg (.op (O.faP y1S Z R R) R (.op (O.ld nag32 Z R (.B R) R R) R (.op (O.lenH sl32 Z R R R) R (.mv R (.nil (.seqN (.block (bS hm fun o110 eo110 hm=>?_)))))))))))))))))))))
    refine .cut1 (z:= .exit 2) o110 (fun (o110:List Int×(List (Int×Int))×EdgL)=>⟨[(8,.i st73.1),(6,.h 0),(7,.h 1),(5,.q 2 0),(4,.q 6 0),(0,.o (lQ 155 (lx155 p0) 0)),(1,.f qI p1)],[(0,ROW qI 3 o110.1),(1,MAP kvI qI 229 o110.2.1),(2,.bx 35 [lH 3,lI 0,lH 4,lH 5]),(3,ROW qI 3 r1),(4,ROW qI 3 l79),(5,ROW qT 124 o110.2.2),(6,.bx 141 [lN,lI 0,lN,lN,lV (.map none)])],7⟩) ?_ fun K114=>?_
    ·skip
     exact .blkE (.blkN (.seqN (.reg (.mv R (.bi R (.sa R (.nil ((ih73 _ (oi hm).symm).sub [] R))))))))
    refine .iter (fun (st110:Int×List Int×(List (Int×Int))×EdgL)=>⟨[(68,.i st110.1),(67,.i (r1.length:Int)),(66,.h 0),(9,.i r82),(8,.i st73.1),(6,.h 1),(7,.h 2),(5,.q 3 0),(4,.q 6 0),(0,.o (lQ 155 (lx155 p0) 0)),(1,.f qI p1)],[(0,ROW qI 3 r1),(1,ROW qI 3 st110.2.1),(2,MAP kvI qI 229 st110.2.2.1),(3,.bx 35 [lH 0,lI 0,lH 4,lH 5]),(4,ROW qI 3 l79),(5,ROW qT 124 st110.2.2.2),(6,.bx 141 [lN,lI 0,lN,lN,lV (.map none)])],7⟩) eo110 [(0,3),(1,0),(2,1),(3,2)] R ?_
    intro st110 res110 hm ih110 ho110
    unfold y4q at hm
    refine .seq (.reg (.bi R (.nil (.seqN (.seq ?_)))))
    rcases ifS hm with ⟨hc,hm⟩ | ⟨hc,hm⟩
    ·refine .cT R hc ?_
     refine .skip (.seqN ?_)
     refine .join3 (fun (l115:List Int) (l116:List (Int×Int)) (l117:List (Int×Int×Int))=>y2R st110 l115 l116 l117=some res110) (fun l115 l116 l117=>⟨[(68,.i st110.1),(67,.i (r1.length:Int)),(66,.h 0),(9,.i r82),(8,.i st73.1),(6,.h 1),(7,.h 2),(5,.q 3 0),(4,.q 6 0),(0,.o (lQ 155 (lx155 p0) 0)),(1,.f qI p1)],[(0,ROW qI 3 r1),(1,ROW qI 3 l115),(2,MAP kvI qI 229 l116),(3,.bx 35 [lH 0,lI 0,lH 4,lH 5]),(4,ROW qI 3 l79),(5,ROW qT 124 l117),(6,.bx 141 [lN,lI 0,lN,lN,lV (.map none)])],7⟩) ?_ ?_
     ·intro l115 l116 l117 hm
      unfold y2R at hm
      exact .reg (.bi R (.mv R (.nil ((ih110 _ (oi hm).symm).sub [] R))))
     ·intro Jj118
      refine .block (.seq (.reg (bS hm fun x119 ex119 hm=> .op (O.ir sl32 Z R R R ex119 R) R (.op (O.ld nag3 Z R (.R R ex119 lv3) R R) R (.sa R (.nil (.seqN (.seq ?_))))))))
      refine .sub (τ:=⟨[(11,.i x119),(68,.i st110.1),(67,.i (r1.length:Int)),(66,.h 0),(9,.i r82),(8,.i st73.1),(6,.h 1),(7,.h 2),(5,.q 3 0),(4,.q 6 0),(0,.o (lQ 155 (lx155 p0) 0)),(1,.f qI p1)],[(0,ROW qI 3 r1),(1,ROW qI 3 st110.2.1),(2,MAP kvI qI 229 st110.2.2.1),(3,.bx 35 [lH 0,lI 0,lH 4,lH 5]),(4,ROW qI 3 l79),(5,ROW qT 124 st110.2.2.2),(6,.bx 141 [lN,lI 0,lN,lN,lV (.map none)])],7⟩) ?_ [] R
      refine bS hm fun x120 ex120 hm=>bS hm fun r121 er121 hm=>?_
      refine .drw [(7,[]),(7,[oT]),(7,[oT,oT]),(7,tT 3),(7,[]),(7,[]),(7,[oF,oF,oF,oF,oT,oT]),(7,fA 4 (tT 3)),(7,[]),(7,tT 9),(7,tT 10)] [_,_,_,_,_,_,_,_,_,_,_] ⟨[(12,.i r121),(11,.i x119),(68,.i st110.1),(67,.i (r1.length:Int)),(66,.h 0),(9,.i r82),(8,.i st73.1),(6,.h 1),(7,.h 2),(5,.q 3 0),(4,.q 6 0),(0,.o (lQ 155 (lx155 p0) 0)),(1,.f qI p1)],[(0,ROW qI 3 r1),(1,ROW qI 3 st110.2.1),(2,MAP kvI qI 229 st110.2.2.1),(3,.bx 35 [lH 0,lI 0,lH 4,lH 5]),(4,ROW qI 3 l79),(5,ROW qT 124 st110.2.2.2),(6,.bx 141 [lN,lI 0,lN,lN,lV (.map none)])],7⟩ ⟨O.mv Z R R,O.nc .Q Z R R,O.faQ y5V Z R R,O.lg (l':=[lF qI p0.2.2.1.1.1,lI p0.2.2.1.1.2.1,lF qI p0.2.2.1.1.2.2.1,lF qT p0.2.2.1.1.2.2.2,lM kvP qI p0.2.2.1.2]) ag141 Z R .Q R R R,O.mv Z R R,O.mv Z R R,O.ir sl32 Z R R R ex120 R,O.ld nag3 Z R (.R R ex120 lv3) R R,O.mv Z R R,O.ca0 (y3X er121) cf150 R R Z R R R,O.as Z R R,trivial⟩ (by kernel_rfl) R ?_
      refine .seqN (.seq (.seq (.reg (.mv R (.bi R (.mv R (bS hm fun b122 eb122 hm=>?_)))))))
      refine .cut 13 (fun (v123:Bool)=>b122=v123) (fun v123=>⟨[(97,.b v123),(12,.i r121),(11,.i x119),(68,.i st110.1),(67,.i (r1.length:Int)),(66,.h 0),(9,.i r82),(8,.i st73.1),(6,.h 1),(7,.h 2),(5,.q 3 0),(4,.q 6 0),(0,.o (lQ 155 (lx155 p0) 0)),(1,.f qI p1)],[(0,ROW qI 3 r1),(1,ROW qI 3 st110.2.1),(2,MAP kvI qI 229 st110.2.2.1),(3,.bx 35 [lH 0,lI 0,lH 4,lH 5]),(4,ROW qI 3 l79),(5,ROW qT 124 st110.2.2.2),(6,.bx 141 [lN,lI 0,lN,lN,lV (.map none)])],7⟩) ?_ ?_
      ·rintro _ rfl
       refine .nil (.seqN ?_)
       rcases ifS hm with ⟨hc,hm⟩ | ⟨hc,hm⟩
       ·refine .cT R hc ?_
        exact .exit (.seqX (.blkE ((Jj118 _ _ _ hm).sub [] R)))
       ·refine .cF R hc ?_
        refine .skip (.seqN ?_)
        refine .join2 (fun (l125:List Int) (l126:List (Int×Int))=>y2S st73 st110 r121 x119 l125 l126=some res110) (fun l125 l126=>⟨[(6,.h 0),(12,.i r121),(11,.i x119),(68,.i st110.1),(67,.i (r1.length:Int)),(66,.h 1),(9,.i r82),(8,.i st73.1),(7,.h 2),(5,.q 3 0),(4,.q 6 0),(0,.o (lQ 155 (lx155 p0) 0)),(1,.f qI p1)],[(0,ROW qI 3 l125),(1,ROW qI 3 r1),(2,MAP kvI qI 229 l126),(3,.bx 35 [lH 1,lI 0,lH 4,lH 5]),(4,ROW qI 3 l79),(5,ROW qT 124 st110.2.2.2),(6,.bx 141 [lN,lI 0,lN,lN,lV (.map none)])],7⟩) ?_ ?_
        ·intro l125 l126 hm
         unfold y2S at hm
         exact .reg (.op (O.faP y1h Z R R) R (.op (O.ld nag33 Z R (.B R) R R) R (.mv R (.mv R (.mv R (.mv R (.op (O.mi (k:=r121) md229 Z (.ow R R) (.o R) R) R (.op (O.bu (l:=[lI st73.1,lI x119,lI ((kget l126 r121).getD 0)]) pl124 R Z R R R) R (.op (O.bsF (r:=qT) (zs:=([(st73.1,x119,((kget l126 r121).getD 0))]:List (Int×Int×Int))) bs33 R R Z R R R (.c (.p .k (.p .k .k)) .n) R R R) R (bS hm fun x128 ex128 hm=> .op (O.ap 7 Tryz.underlying33 el124 R R Z R R (.fr R) ex128 R) R (.op (O.faP y1h Z R R) R (.op (O.st nag33.sz Z R R R R R) R (.nil (.blkN ((Jj118 _ _ _ hm).sub [(0,1),(1,0),(5,7)] R)))))))))))))))
        ·intro Jj127
         refine .seq (.reg (.mv R (.mv R (.op (O.mi2 (k:=r121) md229 Z (.ow R R) (.o R) R) R (.mv R (.op (O.ex Z R R R) R (.op (O.ex Z R R R) R (.sa R (.sa R (.nil (.seqN (.seq (.reg (.mv R (.op (O.not Z R R) R (.nil (.seqN ?_)))))))))))))))))
         rcases ifS hm with ⟨hc,hm⟩ | ⟨hc,hm⟩
         ·refine .cT R hc ?_
          exact .seq (.reg (.mv R (.mv R (.mv R (.op (O.lenH sl32 Z R R R) R (.op (O.mu (k:=r121) (v:=(st110.2.1.length:Int)) md229 (fun _ _=>eqI) Z R R (.o R) R .k) R (.nil (.seqN (.reg (.mv R (.mv R (.op (O.bsF (r:=qI) (zs:=([r121]:List Int)) bs32 R R Z R R R (.c .k .n) R R R) R (bS hm fun x129 ex129 hm=> .op (O.ap 7 Tryz.underlying32 el3 R R Z R R (.fr R) ex129 R) R (.sa R (.nil ((Jj127 _ _ hm).sub [(0,7),(1,0)] R))))))))))))))))
         ·refine .cF R hc ?_
          exact .skip ((Jj127 _ _ hm).sub [(0,1),(1,0)] R)
      ·intro J124
       rcases ifS eb122 with ⟨hc,hm⟩ | ⟨hc,hm⟩
       ·refine .know (d:=84) R hc ?_
        exact .sk R (.sk R (.sk R (.sk R (.op (O.skipU R R R) R (.op (O.skipU R R R) R (.op (O.skipU R R R) R (.op (O.skipU R R R) R (.op (O.skipU R R R) R (.op (O.skipU R R R) R (.op (O.skipU R R R) R (.sk R (.op (O.pkT Z R R R R) R ((J124 true (oi hm).symm).sub [] R)))))))))))))
       ·refine .know (d:=84) R hc ?_
        refine .op (O.mv (Gu.mk R R) R R) R (.op (O.mv (Gu.mk R R) R R) R (.op (O.bi (Gu.mk R R) R R R R) R (.op (O.mv (Gu.mk R R) R R) R (bS hm fun b130 eb130 hm=>?_))))
        refine .cut 8 (fun (v131:Bool)=>b130=v131) (fun v131=>⟨[(96,.b v131),(84,.b false),(12,.i r121),(11,.i x119),(68,.i st110.1),(67,.i (r1.length:Int)),(66,.h 0),(9,.i r82),(8,.i st73.1),(6,.h 1),(7,.h 2),(5,.q 3 0),(4,.q 6 0),(0,.o (lQ 155 (lx155 p0) 0)),(1,.f qI p1)],[(0,ROW qI 3 r1),(1,ROW qI 3 st110.2.1),(2,MAP kvI qI 229 st110.2.2.1),(3,.bx 35 [lH 0,lI 0,lH 4,lH 5]),(4,ROW qI 3 l79),(5,ROW qT 124 st110.2.2.2),(6,.bx 141 [lN,lI 0,lN,lN,lV (.map none)])],7⟩) ?_ ?_
        ·rintro _ rfl
         exact .op (O.pkF Z R R R R) R ((J124 b130 (oi hm).symm).sub [] R)
        ·intro J132
         rcases ifS eb130 with ⟨hc,hm⟩ | ⟨hc,hm⟩
         ·refine .know (d:=88) R hc ?_
          exact .op (O.mv (Gu.mk R R) R R) R (.op (O.nc .Q (Gu.mk R R) R R) R (.op (O.faQ y9h (Gu.mk R R) R R) R (.op (O.ld nag32 (Gu.mk R R) R .Q R R) R (.op (O.mv (Gu.mk R R) R R) R (bS hm fun r133 er133 hm=> .op (O.ca0 (y1v er133) cf94 R R (Gu.mk R R) R R R) R (.op (O.not (Gu.mk R R) R R) R (.op (O.pkT (Gu.mk R R) R R R R) R ((J132 (!r133) (oi hm).symm).sub [] R))))))))
         ·refine .know (d:=88) R hc ?_
          exact .sk R (.sk R (.sk R (.sk R (.sk R (.sk R (.sk R (.op (O.pkF (Gu.mk R R) R R R R) R ((J132 false (oi hm).symm).sub [] R))))))))
    ·refine .cF R hc ?_
     exact .exit (.seqX (.seqX ((K114 _ (ho110 _ (oi hm).symm)).sub [(0,1),(1,2),(2,3),(3,0)] R)))
   ·intro Jj80
    refine .seq ?_
    refine .sub (τ:=⟨[(8,.i st73.1),(6,.h 0),(7,.h 1),(5,.q 2 0),(4,.q 6 0),(0,.o (lQ 155 (lx155 p0) 0)),(1,.f qI p1)],[(0,ROW qI 3 st73.2.1),(1,MAP kvI qI 229 st73.2.2.1),(2,.bx 35 [lH 3,lI 0,lH 4,lH 5]),(3,ROW qI 3 r1),(4,ROW qI 3 st73.2.2.2.1),(5,ROW qT 124 st73.2.2.2.2),(6,.bx 141 [lN,lI 0,lN,lN,lV (.map none)])],7⟩) ?_ [] R
    refine bS hm fun x134 ex134 hm=>bS hm fun r135 er135 hm=>?_
    refine .drw [(7,[]),(7,[oT]),(7,[oT,oT]),(7,tT 3),(7,tT 4),(7,tT 5),(7,[]),(7,[]),(7,[oF,oF,oF,oF,oF,oF,oT,oT]),(7,fA 6 (tT 3)),(7,tT 10)] [_,_,_,_,_,_,_,_,_,_,_] ⟨[(51,.b r135),(8,.i st73.1),(6,.h 0),(7,.h 1),(5,.q 2 0),(4,.q 6 0),(0,.o (lQ 155 (lx155 p0) 0)),(1,.f qI p1)],[(0,ROW qI 3 st73.2.1),(1,MAP kvI qI 229 st73.2.2.1),(2,.bx 35 [lH 3,lI 0,lH 4,lH 5]),(3,ROW qI 3 r1),(4,ROW qI 3 st73.2.2.2.1),(5,ROW qT 124 st73.2.2.2.2),(6,.bx 141 [lN,lI 0,lN,lN,lV (.map none)])],7⟩ ⟨O.mv Z R R,O.nc .Q Z R R,O.faQ y5V Z R R,O.faQ y3B Z R R,O.faQ y3l Z R R,O.ld nag32 Z R .Q R R,O.mv Z R R,O.mv Z R R,O.ir sl32 Z R R R ex134 R,O.ld nag3 Z R (.R R ex134 lv3) R R,O.ca0 (y1v er135) cf94 R R Z R R R,trivial⟩ (by kernel_rfl) R ?_
    refine .seqN ?_
    rcases ifS hm with ⟨hc,hm⟩ | ⟨hc,hm⟩
    ·refine .cT R hc ?_
     exact .reg (.op (O.faP y3l Z R R) R (.op (O.ld nag32 Z R (.B R) R R) R (.mv R (.op (O.bsF (r:=qI) (zs:=([st73.1]:List Int)) bs32 R R Z R R R (.c .k .n) R R R) R (bS hm fun x136 ex136 hm=> .op (O.ap 7 Tryz.underlying32 el3 R R Z R R (.fr R) ex136 R) R (.op (O.faP y3l Z R R) R (.op (O.st nag32.sz Z R R R R R) R (.nil ((Jj80 _ hm).sub [(4,7)] R)))))))))
    ·refine .cF R hc ?_
     exact .skip ((Jj80 _ hm).sub [] R)
  ·refine .cF R hc ?_
   exact .exit (.seqX (.seqX ((K77 _ (ho73 _ (oi hm).symm)).sub [(1,2),(2,3),(3,4),(4,5),(5,6)] R)))
 ·intro Jj4
  refine .seq (.reg (.mv R (.op (O.nc .Q Z R R) R (.op (O.faQ y5V Z R R) R (.op (O.faQ y3B Z R R) R (.op (O.faQ y1T Z R R) R (.op (O.ld nag3 Z R .Q R R) R (.bi R (.nil (.seqN ?_))))))))))
  rcases ifS hm with ⟨hc,hm⟩ | ⟨hc,hm⟩
  ·refine .cT R hc ?_
   exact .seq (.reg (.mv R (.op (O.bsF (r:=qI) (zs:=([0]:List Int)) bs32 R R Z R R R (.c .k .n) R R R) R (bS hm fun x137 ex137 hm=> .op (O.apN (r:=qI) 4 Tryz.underlying32 el3 R R Z R (.fr R) ex137 R) R (.sa R (.nil (.seqN (.reg (.mv R (.op (O.mu (k:=0) (v:=0) md229 (fun _ _=>eqI) Z R R (.o R) R .k) R (.nil ((Jj4 _ _ hm).sub [(0,4),(1,3),(3,1),(4,0)] R))))))))))))
  ·refine .cF R hc ?_
   exact .skip (.nlg qI 3 6 0 R R ((Jj4 _ _ hm).sub [(0,4),(1,3),(3,1),(4,0)] R))
def y3z (st68:Int×Bool×List Bool) (b72:Bool) (l73:List Bool):Option ((Int×Bool×List Bool) ⊕ (Bool×List Bool)):=
 some (.inl (W (st68.1 + 1),b72,l73))
def y5m (p0:AutT×(List KeyT)) (st68:Int×Bool×List Bool):Option ((Int×Bool×List Bool) ⊕ (Bool×List Bool)):=
 if decide (st68.1 < (p0.1.2.2.2.length:Int)) then
  (idx p0.1.2.2.2 st68.1).bind fun x75=>
  (idx st68.2.2 x75.2.2).bind fun x76=>
  (if x76 then
   (idx st68.2.2 x75.1).bind fun x82=>
   some (!x82)
  else
   some false).bind fun b77=>
  if b77 then
   (idx st68.2.2 x75.1).bind fun x80=>
   (upd st68.2.2 x75.1 true).bind fun x81=>
   y3z st68 true x81
  else
   y3z st68 st68.2.1 st68.2.2
 else
  some (.inr st68.2)
def y5n (p0:AutT×(List KeyT)) (st48:Bool×List Bool):Option ((Bool×List Bool) ⊕ (List Bool)):=
 if st48.1 then
  (iter (y5m p0) (0,false,st48.2)).bind fun o68=>
  some (.inl o68)
 else
  some (.inr st48.2)
def y5o (p0:AutT×(List KeyT)) (st9:Int×List Bool):Option ((Int×List Bool) ⊕ (List Bool)):=
 if decide (st9.1 < (p0.1.2.2.1.length:Int)) then
  (idx p0.1.2.2.1 st9.1).bind fun x83=>
  (idx st9.2 x83).bind fun x84=>
  (upd st9.2 x83 true).bind fun x85=>
  some (.inl (W (st9.1 + 1),x85))
 else
  some (.inr st9.2)
def y4J (p0:AutT×(List KeyT)):Option (List Bool):=
 (mkL p0.1.2.1 false).bind fun x1=>
 (iter (y5o p0) (0,x1)).bind fun o9=>
 (iter (y5n p0) (true,o9)).bind fun o48=>
 some o48
theorem y7s {p0:AutT×(List KeyT)} {r:List Bool} (hm:y4J p0=some r):
  Fw Tryz.prog 80 ⟨0,[]⟩ [.a [lF qI p0.1.1,lI p0.1.2.1,lF qI p0.1.2.2.1,lF qT p0.1.2.2.2,lM kvP qI p0.2]] [] (.h 0) [ROW rB 4 r]:=by
 unfold y4J at hm
 refine Fw.mk' Tryz.func80 R Tryz.ntmps80 R R (fun C=>?_) R R
 refine .seq (.reg (.op (O.box 0 R Z R R R) R (.sa R (.nil (.seqN (.seq (.reg (.op (O.faP y3B Z R R) R (.op (O.faP y1T Z R R) R (.op (O.ld nag3 Z R (.B R) R R) R (bS hm fun x1 ex1 hm=> .op (O.mk (z:=false) 1 Tryz.underlying144 zr4 R R Z R R ex1 R) R (.sa R (.nil (.seqN (.seq (.seq (.reg (.op (O.faP y3B Z R R) R (.op (O.faP y3l Z R R) R (.op (O.ld nag32 Z R (.B R) R R) R (.op (O.len sl32 Z R R) R (.mv R (.nil (.seqN (.block (bS hm fun o9 eo9 hm=>?_))))))))))))))))))))))))))
 refine .cut1 (z:= .exit 0) o9 (fun (o9:List Bool)=>⟨[(3,.h 0),(1,.q 1 0)],[(0,ROW rB 4 o9),(1,.bx 141 [lF qI p0.1.1,lI p0.1.2.1,lF qI p0.1.2.2.1,lF qT p0.1.2.2.2,lM kvP qI p0.2])],2⟩) ?_ fun K11=>?_
 ·skip
  refine .blkE (.seqN (.seq (.seq (.reg (.sa R (.nil (.seqN (.block (bS hm fun o48 eo48 hm=>?_)))))))))
  refine .cut1 (z:= .exit 2) o48 (fun (o48:List Bool)=>⟨[(3,.h 0)],[(0,ROW rB 4 o48)],1⟩) ?_ fun K50=>?_
  ·skip
   refine .blkE (.seqN (.seq (.reg (.mv R (.sa R (.nil (.seqN (.ret ?_))))))))
   obtain rfl:=oi hm
   exact WX.rt [0] (.inl R) Tryz.results80 (.tmp R .nil) R (fun _ _ _ h=>h) ⟨⟨_,R,fun _ _ _ _ h=>h⟩,trivial⟩
  refine .iter (fun (st48:Bool×List Bool)=>⟨[(6,.b st48.1),(3,.h 0),(1,.q 1 0)],[(0,ROW rB 4 st48.2),(1,.bx 141 [lF qI p0.1.1,lI p0.1.2.1,lF qI p0.1.2.2.1,lF qT p0.1.2.2.2,lM kvP qI p0.2])],2⟩) eo48 [] R ?_
  intro st48 res48 hm ih48 ho48
  unfold y5n at hm
  refine .seq (.seq (.reg (.mv R (.nil (.seqN ?_)))))
  rcases ifS hm with ⟨hc,hm⟩ | ⟨hc,hm⟩
  ·refine .cT R hc ?_
   refine .skip (.seqN (.block (.seq (.reg (.sa R (.nil (.seqN (.seq (.reg (.op (O.faP y3B Z R R) R (.op (O.faP y1h Z R R) R (.op (O.ld nag33 Z R (.B R) R R) R (.op (O.len sl33 Z R R) R (.mv R (.nil (.seqN (.block (bS hm fun o68 eo68 hm=>?_))))))))))))))))))
   refine .cut1 (z:= .exit 4) o68 (fun (o68:Bool×List Bool)=>⟨[(6,.b o68.1),(3,.h 0),(1,.q 1 0)],[(0,ROW rB 4 o68.2),(1,.bx 141 [lF qI p0.1.1,lI p0.1.2.1,lF qI p0.1.2.2.1,lF qT p0.1.2.2.2,lM kvP qI p0.2])],2⟩) ?_ fun K71=>?_
   ·skip
    exact .blkE (.blkN ((ih48 _ (oi hm).symm).sub [] R))
   refine .iter (fun (st68:Int×Bool×List Bool)=>⟨[(30,.i st68.1),(29,.i (p0.1.2.2.2.length:Int)),(28,.f qT p0.1.2.2.2),(6,.b st68.2.1),(3,.h 0),(1,.q 1 0)],[(0,ROW rB 4 st68.2.2),(1,.bx 141 [lF qI p0.1.1,lI p0.1.2.1,lF qI p0.1.2.2.1,lF qT p0.1.2.2.2,lM kvP qI p0.2])],2⟩) eo68 [] R ?_
   intro st68 res68 hm ih68 ho68
   unfold y5m at hm
   refine .seq (.reg (.bi R (.nil (.seqN (.seq ?_)))))
   rcases ifS hm with ⟨hc,hm⟩ | ⟨hc,hm⟩
   ·refine .cT R hc ?_
    refine .skip (.seqN ?_)
    refine .join2 (fun (b72:Bool) (l73:List Bool)=>y3z st68 b72 l73=some res68) (fun b72 l73=>⟨[(6,.b b72),(30,.i st68.1),(29,.i (p0.1.2.2.2.length:Int)),(28,.f qT p0.1.2.2.2),(3,.h 0),(1,.q 1 0)],[(0,ROW rB 4 l73),(1,.bx 141 [lF qI p0.1.1,lI p0.1.2.1,lF qI p0.1.2.2.1,lF qT p0.1.2.2.2,lM kvP qI p0.2])],2⟩) ?_ ?_
    ·intro b72 l73 hm
     unfold y3z at hm
     exact .reg (.bi R (.mv R (.nil ((ih68 _ (oi hm).symm).sub [] R))))
    ·intro Jj74
     refine .block (.seq (.reg (bS hm fun x75 ex75 hm=> .op (O.ix sl33 Z R R ex75 R) R (.op (O.lg (l':=[lI x75.1,lI x75.2.1,lI x75.2.2]) ag124 Z R (.E lv124) R R R) R (.op (O.al 2 R zz124 R Z R) R (.op (O.st ag124.sz Z R R R R R) R (.nil (.seqN (.seq (.reg (.mv R (.op (O.faP y3g Z R R) R (.op (O.ld nag3 Z R (.B R) R R) R (bS hm fun x76 ex76 hm=> .op (O.ir sl144 Z R R R ex76 R) R (.op (O.ld nag4 Z R (.R R ex76 lv4) R R) R (.mv R (bS hm fun b77 eb77 hm=>?_)))))))))))))))))
     refine .cut 7 (fun (v78:Bool)=>b77=v78) (fun v78=>⟨[(46,.b v78),(8,.q 2 0),(30,.i st68.1),(29,.i (p0.1.2.2.2.length:Int)),(28,.f qT p0.1.2.2.2),(6,.b st68.2.1),(3,.h 0),(1,.q 1 0)],[(2,.bx 124 [lI x75.1,lI x75.2.1,lI x75.2.2]),(0,ROW rB 4 st68.2.2),(1,.bx 141 [lF qI p0.1.1,lI p0.1.2.1,lF qI p0.1.2.2.1,lF qT p0.1.2.2.2,lM kvP qI p0.2])],3⟩) ?_ ?_
     ·rintro _ rfl
      refine .nil (.seqN ?_)
      rcases ifS hm with ⟨hc,hm⟩ | ⟨hc,hm⟩
      ·refine .cT R hc ?_
       exact .reg (.mv R (.op (O.faP y2j Z R R) R (.op (O.ld nag3 Z R (.B R) R R) R (bS hm fun x80 ex80 hm=> .op (O.ir sl144 Z R R R ex80 R) R (bS hm fun x81 ex81 hm=> .op (O.su (z:=true) nag4.sz Z R R ex80 ex81 R R R lv4 R .b) R (.sa R (.nil (.blkN ((Jj74 _ _ hm).sub [] R)))))))))
      ·refine .cF R hc ?_
       exact .skip (.blkN ((Jj74 _ _ hm).sub [] R))
     ·intro J79
      rcases ifS eb77 with ⟨hc,hm⟩ | ⟨hc,hm⟩
      ·refine .know (d:=39) R hc ?_
       exact .op (O.mv (Gu.mk R R) R R) R (.op (O.faP y2j (Gu.mk R R) R R) R (.op (O.ld nag3 (Gu.mk R R) R (.B R) R R) R (bS hm fun x82 ex82 hm=> .op (O.ir sl144 (Gu.mk R R) R R R ex82 R) R (.op (O.ld nag4 (Gu.mk R R) R (.R R ex82 lv4) R R) R (.op (O.not (Gu.mk R R) R R) R (.op (O.pkT Z R R R R) R ((J79 (!x82) (oi hm).symm).sub [] R)))))))
      ·refine .know (d:=39) R hc ?_
       exact .sk R (.sk R (.sk R (.sk R (.sk R (.sk R (.op (O.pkF Z R R R R) R ((J79 false (oi hm).symm).sub [] R)))))))
   ·refine .cF R hc ?_
    exact .exit (.seqX (.seqX ((K71 _ (ho68 _ (oi hm).symm)).sub [] R)))
  ·refine .cF R hc ?_
   exact .exit (.seqX (.seqX ((K50 _ (ho48 _ (oi hm).symm)).sub [] R)))
 refine .iter (fun (st9:Int×List Bool)=>⟨[(17,.i st9.1),(16,.i (p0.1.2.2.1.length:Int)),(15,.f qI p0.1.2.2.1),(3,.h 0),(1,.q 1 0)],[(0,ROW rB 4 st9.2),(1,.bx 141 [lF qI p0.1.1,lI p0.1.2.1,lF qI p0.1.2.2.1,lF qT p0.1.2.2.2,lM kvP qI p0.2])],2⟩) eo9 [(0,1),(1,0)] R ?_
 intro st9 res9 hm ih9 ho9
 unfold y5o at hm
 refine .seq (.reg (.bi R (.nil (.seqN (.seq ?_)))))
 rcases ifS hm with ⟨hc,hm⟩ | ⟨hc,hm⟩
 ·refine .cT R hc ?_
  exact .skip (.seqN (.seq (.block (.seq (.reg (bS hm fun x83 ex83 hm=> .op (O.ix sl32 Z R R ex83 R) R (.op (O.ld nag3 Z R (.E lv3) R R) R (.sa R (.nil (.seqN (.reg (.mv R (.mv R (bS hm fun x84 ex84 hm=> .op (O.ir sl144 Z R R R ex84 R) R (bS hm fun x85 ex85 hm=> .op (O.su (z:=true) nag4.sz Z R R ex84 ex85 R R R lv4 R .b) R (.nil (.blkN (.seqN (.reg (.bi R (.mv R (.nil ((ih9 _ (oi hm).symm).sub [] R)))))))))))))))))))))))
 ·refine .cF R hc ?_
  exact .exit (.seqX (.seqX ((K11 _ (ho9 _ (oi hm).symm)).sub [] R)))
def y4P (p0:List Bool) (p1:Bool) (st4:Int):Option (Int ⊕ (Unit ⊕ Int)):=
 if decide (st4 < (p0.length:Int)) then
  (idx p0 st4).bind fun x10=>
  if(p1 == x10) then
   some (.inr (.inr (st4)))
  else
   some (.inl (W (st4 + 1)))
 else
  some (.inr (.inl ()))
def y4o (p0:List Bool) (p1:Bool):Option Int:=
 (iter (y4P p0 p1) 0).bind fun o4=>
 match o4 with
 | .inl u6=>
  some (-1)
 | .inr (u8)=>
  some u8
theorem y6T {p0:List Bool} {p1:Bool} {r:Int} (hm:y4o p0 p1=some r):
  Fw Tryz.prog 79 ⟨0,[]⟩ [.f rB p0,.b p1] [] (.i r) []:=by
 unfold y4o at hm
 refine Fw.mk' Tryz.func79 R Tryz.ntmps79 R R (fun C=>?_) R R
 refine .seq (.reg (.sa R (.nil (.seqN (.seq (.seq (.reg (.mv R (.op (O.len sl144 Z R R) R (.mv R (.nil (.seqN (.block (bS hm fun o4 eo4 hm=>?_))))))))))))))
 refine .cutU (z:= .exit 0) (fun u6=> .inl u6=o4) (fun (u6:Unit)=>⟨[],[],0⟩) ?_ fun K7=>?_
 ·rintro u6 rfl
  dsimp only at hm
  refine .blkE (.seqN (.seq (.reg (.sa R (.nil (.seqN (.ret ?_)))))))
  obtain rfl:=oi hm
  exact WX.rt [] (.inl R) Tryz.results79 (.tmp R .nil) R (fun _ _ _ h=>h) trivial
 refine .cutU (z:= .ret) (fun u8=> .inr (u8)=o4) (fun (u8:Int)=>⟨[(4,.i u8)],[],0⟩) ?_ fun K9=>?_
 ·rintro u8 rfl
  dsimp only at hm
  refine .blkR (.seqR ?_)
  obtain rfl:=oi hm
  exact WX.rt [] (.inl R) Tryz.results79 (.tmp R .nil) R (fun _ _ _ h=>h) trivial
 refine .iter (fun (st4:Int)=>⟨[(8,.i st4),(7,.i (p0.length:Int)),(0,.f rB p0),(1,.b p1)],[],0⟩) eo4 [] R ?_
 intro st4 res4 hm ih4 ho4
 unfold y4P at hm
 refine .seq (.reg (.bi R (.nil (.seqN (.seq ?_)))))
 rcases ifS hm with ⟨hc,hm⟩ | ⟨hc,hm⟩
 ·refine .cT R hc ?_
  refine .skip (.seqN (.seq (.block (.seq (.reg (.mv R (.sa R (.nil (.seqN (.seq (.reg (.mv R (.mv R (.mv R (bS hm fun x10 ex10 hm=> .op (O.ix sl144 Z R R ex10 R) R (.op (O.ld nag4 Z R (.E lv4) R R) R (.op (O.beq Tryz.underlying4 Z R R R) R (.nil (.seqN ?_)))))))))))))))))))
  rcases ifS hm with ⟨hc,hm⟩ | ⟨hc,hm⟩
  ·refine .cT R hc ?_
   exact .seq (.reg (.mv R (.sa R (.nil (.seqN (.ret (.blkR (.seqR (.seqR ((K9 _ (ho4 _ (oi hm).symm)).sub [] R))))))))))
  ·refine .cF R hc ?_
   exact .skip (.blkN (.seqN (.reg (.bi R (.mv R (.nil ((ih4 _ (oi hm).symm).sub [] R)))))))
 ·refine .cF R hc ?_
  exact .exit (.seqX (.seqX ((K7 _ (ho4 _ (oi hm).symm)).sub [] R)))
def y4F (p0:AutT×AutT×List Int) (p1:List Int):Option ((Int×List Int×List Int)×Bool×Int):=
 (y6y p0 p1).bind fun r1=>
 if(r1.2 != 0) then
  some ((0,([]:List Int),([]:List Int)),false,r1.2)
 else
  r1.1.bind fun x2=>
  (y3U x2 p1).bind fun r3=>
  (y4J r3).bind fun r4=>
  (y4o r4 false).bind fun r5=>
  if decide (r5≥0) then
   (y3Y r3 r5).bind fun r6=>
   some ((3,r6,([]:List Int)),false,0)
  else
   some ((0,([]:List Int),([]:List Int)),true,0)
theorem y6k {p0:AutT×AutT×List Int} {p1:List Int} {r:(Int×List Int×List Int)×Bool×Int} (hm:y4F p0 p1=some r):
  Fw Tryz.prog 19 ⟨0,[]⟩ [.a [lF qI p0.1.1,lI p0.1.2.1,lF qI p0.1.2.2.1,lF qT p0.1.2.2.2,lF qI p0.2.1.1,lI p0.2.1.2.1,lF qI p0.2.1.2.2.1,lF qT p0.2.1.2.2.2,lF qI p0.2.2],.f qI p1] [] (.tp [.a [lI r.1.1,lH 0,lH 1],.b r.2.1,.i r.2.2]) [ROW qI 3 r.1.2.1,ROW qI 3 r.1.2.2]:=by
 unfold y4F at hm
 refine Fw.mk' Tryz.func19 R Tryz.ntmps19 R R (fun C=>?_) R R
 refine .seq (.reg (.op (O.box 0 R Z R R R) R (.op (O.al 1 R zz44 R Z R) R (.sa R (.sa R (.nil (.seqN (.seq (.reg (.op (O.lg (l':=[lF qI p0.1.1,lI p0.1.2.1,lF qI p0.1.2.2.1,lF qT p0.1.2.2.2,lF qI p0.2.1.1,lI p0.2.1.2.1,lF qI p0.2.1.2.2.1,lF qT p0.2.1.2.2.2,lF qI p0.2.2]) ag37 Z R (.B R) R R R) R (.mv R (bS hm fun r1 er1 hm=> .op (O.ca0 (y9J er1) cf77 R R Z R R R) R (.mv R (.op (O.ex Z R R R) R (.op (O.ex Z R R R) R (.sa R (.sa R (.nil (.seqN (.seq (.seq (.reg (.mv R (.bi R (.nil (.seqN ?_))))))))))))))))))))))))))
 rcases ifS hm with ⟨hc,hm⟩ | ⟨hc,hm⟩
 ·refine .cT R hc ?_
  refine .seq (.reg (.op (O.bu (l:=[lI 0,lN,lN]) pl44 R Z R R R) R (.mv R (.op (O.st ag44.sz Z R R R R R) R (.sa R (.sa R (.nil (.seqN (.ret (.seqR (.nlb qI 3 1 1 R R (.nlb qI 3 1 2 R R ?_))))))))))))
  obtain rfl:=oi hm
  exact WX.rt [2,3] (.inl R) Tryz.results19 (.cell R R ag44 R (.tmp R (.tmp R .nil))) R (fun _ _ _ h=>h) ⟨⟨_,R,fun _ _ _ _ h=>h⟩,⟨_,R,fun _ _ _ _ h=>h⟩,trivial⟩
 ·refine .cF R hc ?_
  refine .skip (.seqN (.seq (.reg (.mv R (.mv R (bS hm fun x2 ex2 hm=> .cnt 20 R (.c (.pd ex2 lv155) .n) R (.cnt 7 R (.c (.pd ex2 lv155) .n) R (.cnt 14 R (.c (.pd ex2 lv155) .n) R (bS hm fun r3 er3 hm=> .op (O.ca0 (y6j er3) cf78 R R Z R R R) R (.op (O.al 2 R zz141 R Z R) R (.op (O.st ag141.sz Z R R R R R) R (.nil (.seqN (.seq (.seq (.reg (.op (O.lg (l':=[lF qI r3.1.1,lI r3.1.2.1,lF qI r3.1.2.2.1,lF qT r3.1.2.2.2,lM kvP qI r3.2]) ag141 Z R (.B R) R R R) R (bS hm fun r4 er4 hm=> .op (O.ca (r':= .h 3) [3] [(0,ROW rB 4 r4)] (some 4) (y7s er4) cf80 R R Z R R R R ⟨⟨_,R,fun _ _ _ _ h=>h⟩,trivial⟩ (fun _ _ _ h=>h) R) R (bS hm fun r5 er5 hm=> .op (O.caZ (y6T er5) cf79 R R Z R ⟨⟨R,.hr R,trivial⟩,⟨R,LnL.rf⟩,trivial⟩ (fun _ _ _ _ _ h=>h) R) R (.sa R (.nil (.seqN (.seq (.reg (.mv R (.bi R (.nil (.seqN ?_))))))))))))))))))))))))))))
  rcases ifS hm with ⟨hc,hm⟩ | ⟨hc,hm⟩
  ·refine .cT R hc ?_
   refine .seq (.reg (.op (O.lg (l':=[lF qI r3.1.1,lI r3.1.2.1,lF qI r3.1.2.2.1,lF qT r3.1.2.2.2,lM kvP qI r3.2]) ag141 Z R (.B R) R R R) R (.mv R (bS hm fun r6 er6 hm=> .op (O.ca (r':= .h 4) [4] [(0,ROW qI 3 r6)] (some 5) (y5r er6) cf81 R R Z R R R R ⟨⟨_,R,fun _ _ _ _ h=>h⟩,trivial⟩ (fun _ _ _ h=>h) R) R (.op (O.bu (l:=[lI 3,lH 4,lN]) pl44 R Z R R R) R (.op (O.st ag44.sz Z R R R R R) R (.sa R (.sa R (.nil (.seqN (.ret (.seqR (.nlb qI 3 1 2 R R ?_)))))))))))))
   obtain rfl:=oi hm
   exact WX.rt [4,5] (.inl R) Tryz.results19 (.cell R R ag44 R (.tmp R (.tmp R .nil))) R (fun _ _ _ h=>h) ⟨⟨_,R,fun _ _ _ _ h=>h⟩,⟨_,R,fun _ _ _ _ h=>h⟩,trivial⟩
  ·refine .cF R hc ?_
   refine .skip (.seqN (.seq (.reg (.op (O.bu (l:=[lI 0,lN,lN]) pl44 R Z R R R) R (.op (O.st ag44.sz Z R R R R R) R (.sa R (.sa R (.nil (.seqN (.ret (.nlb qI 3 1 1 R R (.nlb qI 3 1 2 R R ?_))))))))))))
   obtain rfl:=oi hm
   exact WX.rt [4,5] (.inl R) Tryz.results19 (.cell R R ag44 R (.tmp R (.tmp R .nil))) R (fun _ _ _ h=>h) ⟨⟨_,R,fun _ _ _ _ h=>h⟩,⟨_,R,fun _ _ _ _ h=>h⟩,trivial⟩
def y1Z (p0:List Int) (p1:List Int) (st5:Int):Option (Int ⊕ (Unit ⊕ Unit)):=
 if decide (st5 < (p0.length:Int)) then
  (idx p0 st5).bind fun x10=>
  (idx p1 st5).bind fun x11=>
  if(x10 != x11) then
   some (.inr (.inr (())))
  else
   some (.inl (W (st5 + 1)))
 else
  some (.inr (.inl ()))
def y3n (p0:List Int) (p1:List Int):Option Bool:=
 if((p0.length:Int) != (p1.length:Int)) then
  some false
 else
  (iter (y1Z p0 p1) 0).bind fun o5=>
  match o5 with
  | .inl u6=>
   some true
  | .inr (u8)=>
   some false
theorem y7k {p0:List Int} {p1:List Int} {r:Bool} (hm:y3n p0 p1=some r):
  Fw Tryz.prog 82 ⟨0,[]⟩ [.f qI p0,.f qI p1] [] (.b r) []:=by
 unfold y3n at hm
 refine Fw.mk' Tryz.func82 R Tryz.ntmps82 R R (fun C=>?_) R R
 refine .seq (.reg (.sa R (.nil (.seqN (.seq (.seq (.reg (.mv R (.op (O.len sl32 Z R R) R (.mv R (.op (O.len sl32 Z R R) R (.bi R (.nil (.seqN ?_))))))))))))))
 rcases ifS hm with ⟨hc,hm⟩ | ⟨hc,hm⟩
 ·refine .cT R hc ?_
  refine .seq (.reg (.sa R (.nil (.seqN (.ret (.seqR ?_))))))
  obtain rfl:=oi hm
  exact WX.rt [] (.inl R) Tryz.results82 (.tmp R .nil) R (fun _ _ _ h=>h) trivial
 ·refine .cF R hc ?_
  refine .skip (.seqN (.seq (.seq (.reg (.mv R (.op (O.len sl32 Z R R) R (.mv R (.nil (.seqN (.block (bS hm fun o5 eo5 hm=>?_)))))))))))
  refine .cutU (z:= .exit 0) (fun u6=> .inl u6=o5) (fun (u6:Unit)=>⟨[],[],0⟩) ?_ fun K7=>?_
  ·rintro u6 rfl
   dsimp only at hm
   refine .blkE (.seqN (.seq (.reg (.sa R (.nil (.seqN (.ret ?_)))))))
   obtain rfl:=oi hm
   exact WX.rt [] (.inl R) Tryz.results82 (.tmp R .nil) R (fun _ _ _ h=>h) trivial
  refine .cutU (z:= .ret) (fun u8=> .inr (u8)=o5) (fun (u8:Unit)=>⟨[(4,.b false)],[],0⟩) ?_ fun K9=>?_
  ·rintro u8 rfl
   dsimp only at hm
   refine .blkR (.seqR ?_)
   obtain rfl:=oi hm
   exact WX.rt [] (.inl R) Tryz.results82 (.tmp R .nil) R (fun _ _ _ h=>h) trivial
  refine .iter (fun (st5:Int)=>⟨[(13,.i st5),(12,.i (p0.length:Int)),(0,.f qI p0),(1,.f qI p1)],[],0⟩) eo5 [] R ?_
  intro st5 res5 hm ih5 ho5
  unfold y1Z at hm
  refine .seq (.reg (.bi R (.nil (.seqN (.seq ?_)))))
  rcases ifS hm with ⟨hc,hm⟩ | ⟨hc,hm⟩
  ·refine .cT R hc ?_
   refine .skip (.seqN (.seq (.block (.seq (.reg (.mv R (.sa R (.nil (.seqN (.seq ?_))))))))))
   refine .sub (τ:=⟨[(5,.i st5),(13,.i st5),(12,.i (p0.length:Int)),(0,.f qI p0),(1,.f qI p1)],[],0⟩) ?_ [] R
   refine bS hm fun x10 ex10 hm=>bS hm fun x11 ex11 hm=>?_
   refine .drw [(0,[]),(0,[]),(0,[oT,oT]),(0,tT 3),(0,[]),(0,[]),(0,[oF,oF,oF,oF,oT,oT]),(0,fA 4 (tT 3)),(0,tT 8)] [_,_,_,_,_,_,_,_,_] ⟨[(24,.b (x10 != x11)),(13,.i st5),(12,.i (p0.length:Int)),(0,.f qI p0),(1,.f qI p1)],[],0⟩ ⟨O.mv Z R R,O.mv Z R R,O.ix sl32 Z R R ex10 R,O.ld nag3 Z R (.E lv3) R R,O.mv Z R R,O.mv Z R R,O.ix sl32 Z R R ex11 R,O.ld nag3 Z R (.E lv3) R R,O.bi Z R R R R,trivial⟩ (by kernel_rfl) R ?_
   refine .seqN ?_
   rcases ifS hm with ⟨hc,hm⟩ | ⟨hc,hm⟩
   ·refine .cT R hc ?_
    exact .seq (.reg (.sa R (.nil (.seqN (.ret (.blkR (.seqR (.seqR ((K9 _ (ho5 _ (oi hm).symm)).sub [] R)))))))))
   ·refine .cF R hc ?_
    exact .skip (.blkN (.seqN (.reg (.bi R (.mv R (.nil ((ih5 _ (oi hm).symm).sub [] R)))))))
  ·refine .cF R hc ?_
   exact .exit (.seqX (.seqX ((K7 _ (ho5 _ (oi hm).symm)).sub [] R)))
def y3E (p0:List Int) (p1:List Int):Option Bool:=
 (y3n p0 p1).bind fun r1=>
 some r1
theorem y5u {p0:List Int} {p1:List Int} {r:Bool} (hm:y3E p0 p1=some r):
  Fw Tryz.prog 29 ⟨0,[]⟩ [.f qI p0,.f qI p1] [] (.b r) []:=by
 unfold y3E at hm
 refine Fw.mk' Tryz.func29 R Tryz.ntmps29 R R (fun C=>?_) R R
 refine .seq (.reg (.sa R (.nil (.seqN (.seq (.reg (.mv R (.mv R (bS hm fun r1 er1 hm=> .op (O.ca0 (y7k er1) cf82 R R Z R R R) R (.sa R (.nil (.seqN (.ret ?_)))))))))))))
 obtain rfl:=oi hm
 exact WX.rt [] (.inl R) Tryz.results29 (.tmp R .nil) R (fun _ _ _ h=>h) trivial
def y2J :Option Bool:=
 (y4e).bind fun r1=>
 (y5J r1 2).bind fun r2=>
 (y4F ((([3,4,5]:List Int),2,([0]:List Int),([(0,3,0),(0,4,1),(1,5,0)]:List (Int×Int×Int))),(([3]:List Int),1,([0]:List Int),([(0,3,0)]:List (Int×Int×Int))),([]:List Int)) ([4,3]:List Int)).bind fun r3=>
 (y4F ((([3,4,5]:List Int),2,([0]:List Int),([(0,3,0),(0,4,1),(1,5,0)]:List (Int×Int×Int))),(([3]:List Int),1,([0]:List Int),([(0,3,0)]:List (Int×Int×Int))),([]:List Int)) ([4,5,3]:List Int)).bind fun r4=>
 (if ((((r2.2.2 == 0) && (!r2.2.1)) && (r2.1.1 == 1)) && ((r2.1.2.1.length:Int) == 0)) then
  (y3E r2.1.2.2 ([1,0]:List Int)).bind fun r30=>
  some r30
 else
  some false).bind fun b11=>
 (if ((((b11 && ((r2.1.2.2.length:Int) == 2)) && (r3.2.2 == 0)) && (!r3.2.1)) && (r3.1.1 == 3)) then
  (y3E r3.1.2.1 ([4]:List Int)).bind fun r29=>
  some r29
 else
  some false).bind fun b22=>
 some ((b22 && (r4.2.2 == 0)) && r4.2.1)
theorem y4H {r:Bool} (hm:y2J=some r):
  Fw Tryz.prog 15 ⟨0,[]⟩ [] [] (.b r) []:=by
 unfold y2J at hm
 refine Fw.mk' Tryz.func15 R Tryz.ntmps15 R R (fun C=>?_) R R
 refine .seq (.reg (.sa R (.nil (.seqN (.seq (.reg (bS hm fun r1 er1 hm=> .op (O.ca0 (y6x er1) cf71 R R Z R R R) R (bS hm fun r2 er2 hm=> .op (O.ca (r':= .tp [.a [lI r2.1.1,lH 0,lF qI r2.1.2.2],.b r2.2.1,.i r2.2.2]) [0] [(0,ROW qI 3 r2.1.2.1)] (some 1) (y8C er2) cf36 R R Z R R R R ⟨⟨_,R,fun _ _ _ _ h=>h⟩,trivial⟩ (fun _ _ _ h=>h) R) R (.mv R (.op (O.ex Z R R R) R (.op (O.ex Z R R R) R (.op (O.ex Z R R R) R (.op (O.al 1 R zz44 R Z R) R (.op (O.st ag44.sz Z R R R R R) R (.sa R (.sa R (.nil (.seqN (.seq (.reg (.op (O.bsF (r:=qI) (zs:=([3,4,5]:List Int)) bs32 R R Z R R R (.c .k (.c .k (.c .k .n))) R R R) R (.op (O.bsF (r:=qI) (zs:=([0]:List Int)) bs32 R R Z R R R (.c .k .n) R R R) R (.op (O.bu (l:=[lI 0,lI 3,lI 0]) pl124 R Z R R R) R (.op (O.bu (l:=[lI 0,lI 4,lI 1]) pl124 R Z R R R) R (.op (O.bu (l:=[lI 1,lI 5,lI 0]) pl124 R Z R R R) R (.op (O.bsF (r:=qT) (zs:=([(0,3,0),(0,4,1),(1,5,0)]:List (Int×Int×Int))) bs33 R R Z R R R (.c (.p .k (.p .k .k)) (.c (.p .k (.p .k .k)) (.c (.p .k (.p .k .k)) .n))) R R R) R (.op (O.bu (l:=[lF qI ([3,4,5]:List Int),lI 2,lF qI ([0]:List Int),lF qT ([(0,3,0),(0,4,1),(1,5,0)]:List (Int×Int×Int))]) pl35 R Z R R R) R (.op (O.al 2 R zz35 R Z R) R (.op (O.st ag35.sz Z R R R R R) R (.nil (.seqN (.seq (.reg (.op (O.bsF (r:=qI) (zs:=([3]:List Int)) bs32 R R Z R R R (.c .k .n) R R R) R (.op (O.bsF (r:=qI) (zs:=([0]:List Int)) bs32 R R Z R R R (.c .k .n) R R R) R (.op (O.bu (l:=[lI 0,lI 3,lI 0]) pl124 R Z R R R) R (.op (O.bsF (r:=qT) (zs:=([(0,3,0)]:List (Int×Int×Int))) bs33 R R Z R R R (.c (.p .k (.p .k .k)) .n) R R R) R ?_)))))))))))))))))))))))))))))))))))))
 refine .op (O.bu (l:=[lF qI ([3]:List Int),lI 1,lF qI ([0]:List Int),lF qT ([(0,3,0)]:List (Int×Int×Int))]) pl35 R Z R R R) R (.op (O.al 3 R zz35 R Z R) R (.op (O.st ag35.sz Z R R R R R) R (.nil (.seqN (.seq (.reg (.op (O.lg (l':=[lF qI ([3,4,5]:List Int),lI 2,lF qI ([0]:List Int),lF qT ([(0,3,0),(0,4,1),(1,5,0)]:List (Int×Int×Int))]) ag35 Z R (.B R) R R R) R (.op (O.lg (l':=[lF qI ([3]:List Int),lI 1,lF qI ([0]:List Int),lF qT ([(0,3,0)]:List (Int×Int×Int))]) ag35 Z R (.B R) R R R) R (.op (O.bu (l:=[lF qI ([3,4,5]:List Int),lI 2,lF qI ([0]:List Int),lF qT ([(0,3,0),(0,4,1),(1,5,0)]:List (Int×Int×Int)),lF qI ([3]:List Int),lI 1,lF qI ([0]:List Int),lF qT ([(0,3,0)]:List (Int×Int×Int)),lN]) pl37 R Z R R R) R (.op (O.al 4 R zz37 R Z R) R (.op (O.st ag37.sz Z R R R R R) R (.nil (.seqN (.seq (.reg (.op (O.lg (l':=[lF qI ([3,4,5]:List Int),lI 2,lF qI ([0]:List Int),lF qT ([(0,3,0),(0,4,1),(1,5,0)]:List (Int×Int×Int)),lF qI ([3]:List Int),lI 1,lF qI ([0]:List Int),lF qT ([(0,3,0)]:List (Int×Int×Int)),lN]) ag37 Z R (.B R) R R R) R (.op (O.bsF (r:=qI) (zs:=([4,3]:List Int)) bs32 R R Z R R R (.c .k (.c .k .n)) R R R) R (bS hm fun r3 er3 hm=> .op (O.cac (r':= .tp [.a [lI r3.1.1,lH 5,lH 6],.b r3.2.1,.i r3.2.2]) [5,6] [(0,ROW qI 3 r3.1.2.1),(1,ROW qI 3 r3.1.2.2)] (some 7) (y6k er3) cf19 R R Z R R ⟨⟨R,(.c .rf (.c .rf (.c .rf (.c .rf (.c .rf (.c .rf (.c .rf (.c .rf (.c (.nf (r:=qI)) .n)))))))))⟩,⟨R,.rf⟩,trivial⟩ R ⟨⟨_,R,fun _ _ _ _ h=>h⟩,⟨_,R,fun _ _ _ _ h=>h⟩,trivial⟩ (fun _ _ _ h=>h) R) R (.mv R (.op (O.ex Z R R R) R (.op (O.ex Z R R R) R (.op (O.ex Z R R R) R (.op (O.al 7 R zz44 R Z R) R (.op (O.st ag44.sz Z R R R R R) R (.sa R (.sa R (.nil (.seqN (.seq (.reg (.op (O.lg (l':=[lF qI ([3,4,5]:List Int),lI 2,lF qI ([0]:List Int),lF qT ([(0,3,0),(0,4,1),(1,5,0)]:List (Int×Int×Int)),lF qI ([3]:List Int),lI 1,lF qI ([0]:List Int),lF qT ([(0,3,0)]:List (Int×Int×Int)),lN]) ag37 Z R (.B R) R R R) R (.op (O.bsF (r:=qI) (zs:=([4,5,3]:List Int)) bs32 R R Z R R R (.c .k (.c .k (.c .k .n))) R R R) R (bS hm fun r4 er4 hm=> .op (O.cac (r':= .tp [.a [lI r4.1.1,lH 8,lH 9],.b r4.2.1,.i r4.2.2]) [8,9] [(0,ROW qI 3 r4.1.2.1),(1,ROW qI 3 r4.1.2.2)] (some 10) (y6k er4) cf19 R R Z R R ⟨⟨R,(.c .rf (.c .rf (.c .rf (.c .rf (.c .rf (.c .rf (.c .rf (.c .rf (.c (.nf (r:=qI)) .n)))))))))⟩,⟨R,.rf⟩,trivial⟩ R ⟨⟨_,R,fun _ _ _ _ h=>h⟩,⟨_,R,fun _ _ _ _ h=>h⟩,trivial⟩ (fun _ _ _ h=>h) R) R (.mv R (.op (O.ex Z R R R) R (.op (O.ex Z R R R) R (.op (O.ex Z R R R) R ?_)))))))))))))))))))))))))))))))))))))
 refine .op (O.al 10 R zz44 R Z R) R (.op (O.st ag44.sz Z R R R R R) R (.sa R (.sa R (.nil (.seqN (.seq (.reg (.mv R (.bi R (.mv R ?_))))))))))
 refine .cut 3 (fun (v5:Bool)=>((r2.2.2 == 0) && (!r2.2.1))=v5) (fun v5=>⟨[(53,.b v5),(12,.i r4.2.2),(11,.b r4.2.1),(9,.i r3.2.2),(8,.b r3.2.1),(7,.q 7 0),(1,.q 1 0)],[(7,.bx 44 [lI r3.1.1,lH 5,lH 6]),(5,ROW qI 3 r3.1.2.1),(6,ROW qI 3 r3.1.2.2),(1,.bx 44 [lI r2.1.1,lH 0,lF qI r2.1.2.2]),(0,ROW qI 3 r2.1.2.1)],11⟩) ?_ ?_
 ·rintro _ rfl
  refine .mv R ?_
  refine .cut 4 (fun (v7:Bool)=>(((r2.2.2 == 0) && (!r2.2.1)) && (r2.1.1 == 1))=v7) (fun v7=>⟨[(58,.b v7),(12,.i r4.2.2),(11,.b r4.2.1),(9,.i r3.2.2),(8,.b r3.2.1),(7,.q 7 0),(1,.q 1 0)],[(7,.bx 44 [lI r3.1.1,lH 5,lH 6]),(5,ROW qI 3 r3.1.2.1),(6,ROW qI 3 r3.1.2.2),(1,.bx 44 [lI r2.1.1,lH 0,lF qI r2.1.2.2]),(0,ROW qI 3 r2.1.2.1)],11⟩) ?_ ?_
  ·rintro _ rfl
   refine .mv R ?_
   refine .cut 5 (fun (v9:Bool)=>((((r2.2.2 == 0) && (!r2.2.1)) && (r2.1.1 == 1)) && ((r2.1.2.1.length:Int) == 0))=v9) (fun v9=>⟨[(64,.b v9),(12,.i r4.2.2),(11,.b r4.2.1),(9,.i r3.2.2),(8,.b r3.2.1),(7,.q 7 0),(1,.q 1 0)],[(7,.bx 44 [lI r3.1.1,lH 5,lH 6]),(5,ROW qI 3 r3.1.2.1),(6,ROW qI 3 r3.1.2.2),(1,.bx 44 [lI r2.1.1,lH 0,lF qI r2.1.2.2]),(0,ROW qI 3 r2.1.2.1)],11⟩) ?_ ?_
   ·rintro _ rfl
    refine .mv R (bS hm fun b11 eb11 hm=>?_)
    refine .cut 5 (fun (v12:Bool)=>b11=v12) (fun v12=>⟨[(70,.b v12),(12,.i r4.2.2),(11,.b r4.2.1),(9,.i r3.2.2),(8,.b r3.2.1),(7,.q 7 0),(1,.q 1 0)],[(7,.bx 44 [lI r3.1.1,lH 5,lH 6]),(5,ROW qI 3 r3.1.2.1),(6,ROW qI 3 r3.1.2.2),(1,.bx 44 [lI r2.1.1,lH 0,lF qI r2.1.2.2]),(0,ROW qI 3 r2.1.2.1)],11⟩) ?_ ?_
    ·rintro _ rfl
     refine .mv R ?_
     refine .cut 5 (fun (v14:Bool)=>(b11 && ((r2.1.2.2.length:Int) == 2))=v14) (fun v14=>⟨[(76,.b v14),(12,.i r4.2.2),(11,.b r4.2.1),(9,.i r3.2.2),(8,.b r3.2.1),(7,.q 7 0)],[(7,.bx 44 [lI r3.1.1,lH 5,lH 6]),(5,ROW qI 3 r3.1.2.1),(6,ROW qI 3 r3.1.2.2)],11⟩) ?_ ?_
     ·rintro _ rfl
      refine .mv R ?_
      refine .cut 3 (fun (v16:Bool)=>((b11 && ((r2.1.2.2.length:Int) == 2)) && (r3.2.2 == 0))=v16) (fun v16=>⟨[(80,.b v16),(12,.i r4.2.2),(11,.b r4.2.1),(8,.b r3.2.1),(7,.q 7 0)],[(7,.bx 44 [lI r3.1.1,lH 5,lH 6]),(5,ROW qI 3 r3.1.2.1),(6,ROW qI 3 r3.1.2.2)],11⟩) ?_ ?_
      ·rintro _ rfl
       refine .mv R ?_
       refine .cut 3 (fun (v18:Bool)=>(((b11 && ((r2.1.2.2.length:Int) == 2)) && (r3.2.2 == 0)) && (!r3.2.1))=v18) (fun v18=>⟨[(84,.b v18),(12,.i r4.2.2),(11,.b r4.2.1),(7,.q 7 0)],[(7,.bx 44 [lI r3.1.1,lH 5,lH 6]),(5,ROW qI 3 r3.1.2.1),(6,ROW qI 3 r3.1.2.2)],11⟩) ?_ ?_
       ·rintro _ rfl
        refine .mv R ?_
        refine .cut 4 (fun (v20:Bool)=>((((b11 && ((r2.1.2.2.length:Int) == 2)) && (r3.2.2 == 0)) && (!r3.2.1)) && (r3.1.1 == 3))=v20) (fun v20=>⟨[(89,.b v20),(12,.i r4.2.2),(11,.b r4.2.1),(7,.q 7 0)],[(7,.bx 44 [lI r3.1.1,lH 5,lH 6]),(5,ROW qI 3 r3.1.2.1),(6,ROW qI 3 r3.1.2.2)],11⟩) ?_ ?_
        ·rintro _ rfl
         refine .mv R (bS hm fun b22 eb22 hm=>?_)
         refine .cut 5 (fun (v23:Bool)=>b22=v23) (fun v23=>⟨[(95,.b v23),(12,.i r4.2.2),(11,.b r4.2.1)],[],11⟩) ?_ ?_
         ·rintro _ rfl
          refine .mv R ?_
          refine .cut 3 (fun (v25:Bool)=>(b22 && (r4.2.2 == 0))=v25) (fun v25=>⟨[(99,.b v25),(11,.b r4.2.1)],[],11⟩) ?_ ?_
          ·rintro _ rfl
           refine .mv R ?_
           refine .cut 2 (fun (v27:Bool)=>((b22 && (r4.2.2 == 0)) && r4.2.1)=v27) (fun v27=>⟨[(102,.b v27)],[],11⟩) ?_ ?_
           ·rintro _ rfl
            refine .sa R (.nil (.seqN (.ret ?_)))
            obtain rfl:=oi hm
            exact WX.rt [] (.inl R) Tryz.results15 (.tmp R .nil) R (fun _ _ _ h=>h) trivial
           ·intro J28
            rcases Bool.eq_false_or_eq_true (b22 && (r4.2.2 == 0)) with hc | hc
            ·refine .know (d:=100) R hc ?_
             exact .op (O.mv (Gu.mk R R) R R) R (.op (O.pkT Z R R R R) R ((J28 r4.2.1 (andT hc).symm).sub [] R))
            ·refine .know (d:=100) R hc ?_
             exact .sk R (.op (O.pkF Z R R R R) R ((J28 false (andF hc).symm).sub [] R))
          ·intro J26
           rcases Bool.eq_false_or_eq_true b22 with hc | hc
           ·refine .know (d:=96) R hc ?_
            exact .op (O.mv (Gu.mk R R) R R) R (.op (O.bi (Gu.mk R R) R R R R) R (.op (O.pkT Z R R R R) R ((J26 (r4.2.2 == 0) (andT hc).symm).sub [] R)))
           ·refine .know (d:=96) R hc ?_
            exact .sk R (.sk R (.op (O.pkF Z R R R R) R ((J26 false (andF hc).symm).sub [] R)))
         ·intro J24
          rcases ifS eb22 with ⟨hc,hm⟩ | ⟨hc,hm⟩
          ·refine .know (d:=90) R hc ?_
           exact .op (O.faP ybm (Gu.mk R R) R R) R (.op (O.ld nag32 (Gu.mk R R) R (.B R) R R) R (.op (O.bsF (r:=qI) (zs:=([4]:List Int)) bs32 R R (Gu.mk R R) R R R (.c .k .n) R R R) R (bS hm fun r29 er29 hm=> .op (O.caZ (y5u er29) cf29 R R (Gu.mk R R) R ⟨⟨R,.hr R,trivial⟩,⟨R,LnL.rf⟩,trivial⟩ (fun _ _ _ _ _ h=>h) R) R (.op (O.pkT Z R R R R) R ((J24 r29 (oi hm).symm).sub [] R)))))
          ·refine .know (d:=90) R hc ?_
           exact .sk R (.sk R (.sk R (.sk R (.op (O.pkF Z R R R R) R ((J24 false (oi hm).symm).sub [] R)))))
        ·intro J21
         rcases Bool.eq_false_or_eq_true (((b11 && ((r2.1.2.2.length:Int) == 2)) && (r3.2.2 == 0)) && (!r3.2.1)) with hc | hc
         ·refine .know (d:=85) R hc ?_
          exact .op (O.faP ybl (Gu.mk R R) R R) R (.op (O.ld nag3 (Gu.mk R R) R (.B R) R R) R (.op (O.bi (Gu.mk R R) R R R R) R (.op (O.pkT Z R R R R) R ((J21 (r3.1.1 == 3) (andT hc).symm).sub [] R))))
         ·refine .know (d:=85) R hc ?_
          exact .sk R (.sk R (.sk R (.op (O.pkF Z R R R R) R ((J21 false (andF hc).symm).sub [] R))))
       ·intro J19
        rcases Bool.eq_false_or_eq_true ((b11 && ((r2.1.2.2.length:Int) == 2)) && (r3.2.2 == 0)) with hc | hc
        ·refine .know (d:=81) R hc ?_
         exact .op (O.mv (Gu.mk R R) R R) R (.op (O.not (Gu.mk R R) R R) R (.op (O.pkT Z R R R R) R ((J19 (!r3.2.1) (andT hc).symm).sub [] R)))
        ·refine .know (d:=81) R hc ?_
         exact .sk R (.sk R (.op (O.pkF Z R R R R) R ((J19 false (andF hc).symm).sub [] R)))
      ·intro J17
       rcases Bool.eq_false_or_eq_true (b11 && ((r2.1.2.2.length:Int) == 2)) with hc | hc
       ·refine .know (d:=77) R hc ?_
        exact .op (O.mv (Gu.mk R R) R R) R (.op (O.bi (Gu.mk R R) R R R R) R (.op (O.pkT Z R R R R) R ((J17 (r3.2.2 == 0) (andT hc).symm).sub [] R)))
       ·refine .know (d:=77) R hc ?_
        exact .sk R (.sk R (.op (O.pkF Z R R R R) R ((J17 false (andF hc).symm).sub [] R)))
     ·intro J15
      rcases Bool.eq_false_or_eq_true b11 with hc | hc
      ·refine .know (d:=71) R hc ?_
       exact .op (O.faP ybn (Gu.mk R R) R R) R (.op (O.ld nag32 (Gu.mk R R) R (.B R) R R) R (.op (O.len sl32 (Gu.mk R R) R R) R (.op (O.bi (Gu.mk R R) R R R R) R (.op (O.pkT Z R R R R) R ((J15 ((r2.1.2.2.length:Int) == 2) (andT hc).symm).sub [] R)))))
      ·refine .know (d:=71) R hc ?_
       exact .sk R (.sk R (.sk R (.sk R (.op (O.pkF Z R R R R) R ((J15 false (andF hc).symm).sub [] R)))))
    ·intro J13
     rcases ifS eb11 with ⟨hc,hm⟩ | ⟨hc,hm⟩
     ·refine .know (d:=65) R hc ?_
      exact .op (O.faP ybn (Gu.mk R R) R R) R (.op (O.ld nag32 (Gu.mk R R) R (.B R) R R) R (.op (O.bsF (r:=qI) (zs:=([1,0]:List Int)) bs32 R R (Gu.mk R R) R R R (.c .k (.c .k .n)) R R R) R (bS hm fun r30 er30 hm=> .op (O.ca0 (y5u er30) cf29 R R (Gu.mk R R) R R R) R (.op (O.pkT Z R R R R) R ((J13 r30 (oi hm).symm).sub [] R)))))
     ·refine .know (d:=65) R hc ?_
      exact .sk R (.sk R (.sk R (.sk R (.op (O.pkF Z R R R R) R ((J13 false (oi hm).symm).sub [] R)))))
   ·intro J10
    rcases Bool.eq_false_or_eq_true (((r2.2.2 == 0) && (!r2.2.1)) && (r2.1.1 == 1)) with hc | hc
    ·refine .know (d:=59) R hc ?_
     exact .op (O.faP ybm (Gu.mk R R) R R) R (.op (O.ld nag32 (Gu.mk R R) R (.B R) R R) R (.op (O.lenH sl32 (Gu.mk R R) R R R) R (.op (O.bi (Gu.mk R R) R R R R) R (.op (O.pkT Z R R R R) R ((J10 ((r2.1.2.1.length:Int) == 0) (andT hc).symm).sub [] R)))))
    ·refine .know (d:=59) R hc ?_
     exact .sk R (.sk R (.sk R (.sk R (.op (O.pkF Z R R R R) R ((J10 false (andF hc).symm).sub [] R)))))
  ·intro J8
   rcases Bool.eq_false_or_eq_true ((r2.2.2 == 0) && (!r2.2.1)) with hc | hc
   ·refine .know (d:=54) R hc ?_
    exact .op (O.faP ybl (Gu.mk R R) R R) R (.op (O.ld nag3 (Gu.mk R R) R (.B R) R R) R (.op (O.bi (Gu.mk R R) R R R R) R (.op (O.pkT Z R R R R) R ((J8 (r2.1.1 == 1) (andT hc).symm).sub [] R))))
   ·refine .know (d:=54) R hc ?_
    exact .sk R (.sk R (.sk R (.op (O.pkF Z R R R R) R ((J8 false (andF hc).symm).sub [] R))))
 ·intro J6
  rcases Bool.eq_false_or_eq_true (r2.2.2 == 0) with hc | hc
  ·refine .know (d:=50) R hc ?_
   exact .op (O.mv (Gu.mk R R) R R) R (.op (O.not (Gu.mk R R) R R) R (.op (O.pkT Z R R R R) R ((J6 (!r2.2.1) (andT hc).symm).sub [] R)))
  ·refine .know (d:=50) R hc ?_
   exact .sk R (.sk R (.op (O.pkF Z R R R R) R ((J6 false (andF hc).symm).sub [] R)))
def yV (st9:Int×List Int) (l12:List Int):Option ((Int×List Int) ⊕ (List Int)):=
 some (.inl (W (st9.1 + 1),l12))
def y1s (p0:Int) (st9:Int×List Int):Option ((Int×List Int) ⊕ (List Int)):=
 if decide (st9.1 < 5) then
  (ng st9.1).bind fun _=>
  if((IntKind.u8.wrap (((BitVec.ofInt 8 (p0.fdiv (2 ^ (min st9.1.toNat 8))) &&& BitVec.ofInt 8 1).toNat:Int))) == 1) then
   (app st9.2 ([st9.1]:List Int)).bind fun x15=>
   yV st9 x15
  else
   yV st9 st9.2
 else
  some (.inr st9.2)
def yU (p0:Int):Option (List Int):=
 (iter (y1s p0) (0,([]:List Int))).bind fun o9=>
 some o9
theorem y3i {p0:Int} {r:List Int} (hm:yU p0=some r):
  Fw Tryz.prog 144 ⟨0,[]⟩ [.o (lV (.int .u8 p0))] [] (.h 0) [ROW qI 3 r]:=by
 unfold yU at hm
 refine Fw.mk' Tryz.func144 R Tryz.ntmps144 R R (fun C=>?_) R R
 refine .seq (.reg (.sa R (.nil (.seqN (.seq (.reg (.sa R (.nil (.seqN (.seq (.seq (.reg (.sa R (.nil (.seqN (.block (bS hm fun o9 eo9 hm=>?_)))))))))))))))))
 refine .cut1 (z:= .exit 0) o9 (fun (o9:List Int)=>⟨[(3,.h 0)],[(0,ROW qI 3 o9)],1⟩) ?_ fun K11=>?_
 ·skip
  refine .blkE (.seqN (.seq (.reg (.mv R (.sa R (.nil (.seqN (.ret ?_))))))))
  obtain rfl:=oi hm
  exact WX.rt [0] (.inl R) Tryz.results144 (.tmp R .nil) R (fun _ _ _ h=>h) ⟨⟨_,R,fun _ _ _ _ h=>h⟩,trivial⟩
 refine .nlg qI 3 3 0 R R (.iter (fun (st9:Int×List Int)=>⟨[(4,.i st9.1),(3,.h 0),(0,.o (lV (.int .u8 p0)))],[(0,ROW qI 3 st9.2)],1⟩) eo9 [] R ?_)
 intro st9 res9 hm ih9 ho9
 unfold y1s at hm
 refine .seq (.seq (.reg (.mv R (.bi R (.nil (.seqN ?_))))))
 rcases ifS hm with ⟨hc,hm⟩ | ⟨hc,hm⟩
 ·refine .cT R hc ?_
  refine .skip (.seqN ?_)
  refine .join1 (fun (l12:List Int)=>yV st9 l12=some res9) (fun l12=>⟨[(3,.h 0),(4,.i st9.1),(0,.o (lV (.int .u8 p0)))],[(0,ROW qI 3 l12)],1⟩) ?_ ?_
  ·intro l12 hm
   unfold yV at hm
   exact .reg (.mv R (.bi R (.sa R (.nil ((ih9 _ (oi hm).symm).sub [] R)))))
  ·intro Jj13
   refine .block (.seq (.reg (.mv R (.mv R (bS hm fun _ z14 hm=> .op (O.shr Z R R (yar z14) R) R (.bi R (.bi R (.nil (.seqN ?_)))))))))
   rcases ifS hm with ⟨hc,hm⟩ | ⟨hc,hm⟩
   ·refine .cT R hc ?_
    exact .reg (.mv R (.mv R (.op (O.bsF (r:=qI) (zs:=([st9.1]:List Int)) bs32 R R Z R R R (.c .k .n) R R R) R (bS hm fun x15 ex15 hm=> .op (O.ap 1 Tryz.underlying32 el3 R R Z R R (.fr R) ex15 R) R (.sa R (.nil (.blkN ((Jj13 _ hm).sub [(0,1)] R))))))))
   ·refine .cF R hc ?_
    exact .skip (.blkN ((Jj13 _ hm).sub [] R))
 ·refine .cF R hc ?_
  exact .exit (.seqX (.seqX ((K11 _ (ho9 _ (oi hm).symm)).sub [] R)))
def y1B (p0:List Int):Option AutT:=
 (app ([]:List Int) p0).bind fun x1=>
 some (x1,0,([]:List Int),([]:List (Int×Int×Int)))
theorem y3K {p0:List Int} {r:AutT} (hm:y1B p0=some r):
  Fw Tryz.prog 194 ⟨0,[]⟩ [.f qI p0] [] (.g [lH 0,lI r.2.1,lH 1,lH 2]) [ROW qI 3 r.1,ROW qI 3 r.2.2.1,ROW qT 124 r.2.2.2]:=by
 unfold y1B at hm
 refine Fw.mk' Tryz.func194 R Tryz.ntmps194 R R (fun C=>?_) R R
 refine .seq (.reg (.op (O.al 0 R zz35 R Z R) R (.nil (.seqN (.seq (.reg (.op (O.b0O (r:=qI) 1 R bs32 R Z R) R (.mv R (bS hm fun x1 ex1 hm=> .op (O.ap 2 Tryz.underlying32 el3 R R Z R R (.fr R) ex1 R) R (.op (O.bu (l:=[lH 2,lI 0,lN,lN]) pl35 R Z R R R) R (.op (O.st ag35.sz Z R R R R R) R (.nil (.seqN (.ret (.nlb qI 3 0 2 R R (.nlb qT 124 0 3 R R ?_))))))))))))))))
 obtain rfl:=oi hm
 exact WX.rt [2,3,4] (.inl R) Tryz.results194 (.cell R R ag35 R .nil) R (fun _ _ _ h=>h) ⟨⟨_,R,fun _ _ _ _ h=>h⟩,⟨_,R,fun _ _ _ _ h=>h⟩,⟨_,R,fun _ _ _ _ h=>h⟩,trivial⟩
def y2q (p0:AutT) (p1:Int) (p2:Int) (st9:Int):Option (Int ⊕ (Unit ⊕ Int)):=
 if decide (st9 < (p0.2.2.2.length:Int)) then
  (idx p0.2.2.2 st9).bind fun x15=>
  (if (x15.1 == p1) then
   (idx p0.2.2.2 st9).bind fun x20=>
   some (x20.2.1 == p2)
  else
   some false).bind fun b16=>
  if b16 then
   (idx p0.2.2.2 st9).bind fun x19=>
   some (.inr (.inr (x19.2.2)))
  else
   some (.inl (W (st9 + 1)))
 else
  some (.inr (.inl ()))
def y2m (p0:AutT) (p1:Int) (p2:Int):Option Int:=
 (iter (y2q p0 p1 p2) 0).bind fun o9=>
 match o9 with
 | .inl u11=>
  some (-1)
 | .inr (u13)=>
  some u13
theorem y4Q {p0:AutT} {p1:Int} {p2:Int} {r:Int} (hm:y2m p0 p1 p2=some r):
  Fw Tryz.prog 55 ⟨0,[]⟩ [.a [lF qI p0.1,lI p0.2.1,lF qI p0.2.2.1,lF qT p0.2.2.2],.i p1,.i p2] [] (.i r) []:=by
 unfold y2m at hm
 refine Fw.mk' Tryz.func55 R Tryz.ntmps55 R R (fun C=>?_) R R
 refine .seq (.reg (.op (O.box 0 R Z R R R) R (.sa R (.nil (.seqN (.seq (.seq (.reg (.sa R (.nil (.seqN (.block (bS hm fun o9 eo9 hm=>?_)))))))))))))
 refine .cutU (z:= .exit 0) (fun u11=> .inl u11=o9) (fun (u11:Unit)=>⟨[],[],0⟩) ?_ fun K12=>?_
 ·rintro u11 rfl
  dsimp only at hm
  refine .blkE (.seqN (.seq (.reg (.sa R (.nil (.seqN (.ret ?_)))))))
  obtain rfl:=oi hm
  exact WX.rt [] (.inl R) Tryz.results55 (.tmp R .nil) R (fun _ _ _ h=>h) trivial
 refine .cutU (z:= .ret) (fun u13=> .inr (u13)=o9) (fun (u13:Int)=>⟨[(6,.i u13)],[],0⟩) ?_ fun K14=>?_
 ·rintro u13 rfl
  dsimp only at hm
  refine .blkR (.seqR ?_)
  obtain rfl:=oi hm
  exact WX.rt [] (.inl R) Tryz.results55 (.tmp R .nil) R (fun _ _ _ h=>h) trivial
 refine .iter (fun (st9:Int)=>⟨[(7,.i st9),(3,.q 0 0),(1,.i p1),(2,.i p2)],[(0,.bx 35 [lF qI p0.1,lI p0.2.1,lF qI p0.2.2.1,lF qT p0.2.2.2])],1⟩) eo9 [] R ?_
 intro st9 res9 hm ih9 ho9
 unfold y2q at hm
 refine .seq (.seq (.reg (.mv R (.op (O.faP y1h Z R R) R (.op (O.ld nag33 Z R (.B R) R R) R (.op (O.len sl33 Z R R) R (.bi R (.nil (.seqN ?_)))))))))
 rcases ifS hm with ⟨hc,hm⟩ | ⟨hc,hm⟩
 ·refine .cT R hc ?_
  refine .skip (.seqN (.seq (.block (.seq (.reg (.op (O.faP y1h Z R R) R (.op (O.ld nag33 Z R (.B R) R R) R (.mv R (bS hm fun x15 ex15 hm=> .op (O.ix sl33 Z R R ex15 R) R (.op (O.faE y2j Z R R) R (.op (O.ld nag3 Z R (.E lv124) R R) R (.mv R (.bi R (.mv R (bS hm fun b16 eb16 hm=>?_)))))))))))))))
  refine .cut 9 (fun (v17:Bool)=>b16=v17) (fun v17=>⟨[(32,.b v17),(7,.i st9),(3,.q 0 0),(1,.i p1),(2,.i p2)],[(0,.bx 35 [lF qI p0.1,lI p0.2.1,lF qI p0.2.2.1,lF qT p0.2.2.2])],1⟩) ?_ ?_
  ·rintro _ rfl
   refine .nil (.seqN ?_)
   rcases ifS hm with ⟨hc,hm⟩ | ⟨hc,hm⟩
   ·refine .cT R hc ?_
    exact .seq (.reg (.op (O.faP y1h Z R R) R (.op (O.ld nag33 Z R (.B R) R R) R (.mv R (bS hm fun x19 ex19 hm=> .op (O.ix sl33 Z R R ex19 R) R (.op (O.faE y3g Z R R) R (.op (O.ld nag3 Z R (.E lv124) R R) R (.sa R (.nil (.seqN (.ret (.blkR (.seqR (.seqR ((K14 _ (ho9 _ (oi hm).symm)).sub [] R)))))))))))))))
   ·refine .cF R hc ?_
    exact .skip (.blkN (.seqN (.reg (.mv R (.bi R (.sa R (.nil ((ih9 _ (oi hm).symm).sub [] R))))))))
  ·intro J18
   rcases ifS eb16 with ⟨hc,hm⟩ | ⟨hc,hm⟩
   ·refine .know (d:=23) R hc ?_
    exact .op (O.faP y1h (Gu.mk R R) R R) R (.op (O.ld nag33 (Gu.mk R R) R (.B R) R R) R (.op (O.mv (Gu.mk R R) R R) R (bS hm fun x20 ex20 hm=> .op (O.ix sl33 (Gu.mk R R) R R ex20 R) R (.op (O.faE y3Z (Gu.mk R R) R R) R (.op (O.ld nag3 (Gu.mk R R) R (.E lv124) R R) R (.op (O.mv (Gu.mk R R) R R) R (.op (O.bi (Gu.mk R R) R R R R) R (.op (O.pkT Z R R R R) R ((J18 (x20.2.1 == p2) (oi hm).symm).sub [] R)))))))))
   ·refine .know (d:=23) R hc ?_
    exact .sk R (.sk R (.sk R (.sk R (.sk R (.sk R (.sk R (.sk R (.op (O.pkF Z R R R R) R ((J18 false (oi hm).symm).sub [] R)))))))))
 ·refine .cF R hc ?_
  exact .exit (.seqX (.seqX ((K12 _ (ho9 _ (oi hm).symm)).sub [] R)))
def y2A (p0:List Int) (p1:Int) (st4:Int):Option (Int ⊕ (Unit ⊕ Unit)):=
 if decide (st4 < (p0.length:Int)) then
  (idx p0 st4).bind fun x9=>
  if(x9 == p1) then
   some (.inr (.inr (())))
  else
   some (.inl (W (st4 + 1)))
 else
  some (.inr (.inl ()))
def y2x (p0:List Int) (p1:Int):Option Bool:=
 (iter (y2A p0 p1) 0).bind fun o4=>
 match o4 with
 | .inl u5=>
  some false
 | .inr (u7)=>
  some true
theorem y5c {p0:List Int} {p1:Int} {r:Bool} (hm:y2x p0 p1=some r):
  Fw Tryz.prog 229 ⟨0,[]⟩ [.f qI p0,.i p1] [] (.b r) []:=by
 unfold y2x at hm
 refine Fw.mk' Tryz.func229 R Tryz.ntmps229 R R (fun C=>?_) R R
 refine .seq (.reg (.sa R (.nil (.seqN (.seq (.seq (.reg (.sa R (.nil (.seqN (.block (bS hm fun o4 eo4 hm=>?_))))))))))))
 refine .cutU (z:= .exit 0) (fun u5=> .inl u5=o4) (fun (u5:Unit)=>⟨[],[],0⟩) ?_ fun K6=>?_
 ·rintro u5 rfl
  dsimp only at hm
  refine .blkE (.seqN (.seq (.reg (.sa R (.nil (.seqN (.ret ?_)))))))
  obtain rfl:=oi hm
  exact WX.rt [] (.inl R) Tryz.results229 (.tmp R .nil) R (fun _ _ _ h=>h) trivial
 refine .cutU (z:= .ret) (fun u7=> .inr (u7)=o4) (fun (u7:Unit)=>⟨[(4,.b true)],[],0⟩) ?_ fun K8=>?_
 ·rintro u7 rfl
  dsimp only at hm
  refine .blkR (.seqR ?_)
  obtain rfl:=oi hm
  exact WX.rt [] (.inl R) Tryz.results229 (.tmp R .nil) R (fun _ _ _ h=>h) trivial
 refine .iter (fun (st4:Int)=>⟨[(5,.i st4),(0,.f qI p0),(1,.i p1)],[],0⟩) eo4 [] R ?_
 intro st4 res4 hm ih4 ho4
 unfold y2A at hm
 refine .seq (.seq (.reg (.mv R (.mv R (.op (O.len sl32 Z R R) R (.bi R (.nil (.seqN ?_))))))))
 rcases ifS hm with ⟨hc,hm⟩ | ⟨hc,hm⟩
 ·refine .cT R hc ?_
  refine .skip (.seqN (.seq (.block (.seq (.reg (.mv R (.mv R (bS hm fun x9 ex9 hm=> .op (O.ix sl32 Z R R ex9 R) R (.op (O.ld nag3 Z R (.E lv3) R R) R (.mv R (.bi R (.nil (.seqN ?_)))))))))))))
  rcases ifS hm with ⟨hc,hm⟩ | ⟨hc,hm⟩
  ·refine .cT R hc ?_
   exact .seq (.reg (.sa R (.nil (.seqN (.ret (.blkR (.seqR (.seqR ((K8 _ (ho4 _ (oi hm).symm)).sub [] R)))))))))
  ·refine .cF R hc ?_
   exact .skip (.blkN (.seqN (.reg (.mv R (.bi R (.sa R (.nil ((ih4 _ (oi hm).symm).sub [] R))))))))
 ·refine .cF R hc ?_
  exact .exit (.seqX (.seqX ((K6 _ (ho4 _ (oi hm).symm)).sub [] R)))
def y1C (st51:Int×List Int) (l54:List Int):Option ((Int×List Int) ⊕ (List Int)):=
 some (.inl (W (st51.1 + 1),l54))
def y1D (p0:AutT) (st34:Int×List Int) (st51:Int×List Int):Option ((Int×List Int) ⊕ (List Int)):=
 if decide (st51.1 < (p0.1.length:Int)) then
  (idx st51.2 st34.1).bind fun x56=>
  (idx p0.1 st51.1).bind fun x57=>
  (y2m p0 x56 x57).bind fun r58=>
  (if decide (r58≥0) then
   (y2x st51.2 r58).bind fun r63=>
   some (!r63)
  else
   some false).bind fun b59=>
  if b59 then
   (app st51.2 ([r58]:List Int)).bind fun x62=>
   y1C st51 x62
  else
   y1C st51 st51.2
 else
  some (.inr st51.2)
def y1E (p0:AutT) (st34:Int×List Int):Option ((Int×List Int) ⊕ (List Int)):=
 if decide (st34.1 < (st34.2.length:Int)) then
  (iter (y1D p0 st34) (0,st34.2)).bind fun o51=>
  some (.inl (W (st34.1 + 1),o51))
 else
  some (.inr st34.2)
def y2e (p0:AutT) (l1:List Int):Option (List Int):=
 (iter (y1E p0) (0,l1)).bind fun o34=>
 some o34
def y2K (p0:AutT):Option (List Int):=
 if decide (p0.2.1 > 0) then
  (app ([]:List Int) ([0]:List Int)).bind fun x64=>
  y2e p0 x64
 else
  y2e p0 ([]:List Int)
theorem y6p {p0:AutT} {r:List Int} (hm:y2K p0=some r):
  Fw Tryz.prog 228 ⟨0,[]⟩ [.a [lF qI p0.1,lI p0.2.1,lF qI p0.2.2.1,lF qT p0.2.2.2]] [] (.h 0) [ROW qI 3 r]:=by
 unfold y2K at hm
 refine Fw.mk' Tryz.func228 R Tryz.ntmps228 R R (fun C=>?_) R R
 refine .seq (.reg (.op (O.box 0 R Z R R R) R (.sa R (.nil (.seqN (.seq (.reg (.sa R (.nil (.seqN ?_))))))))))
 refine .join1 (fun (l1:List Int)=>y2e p0 l1=some r) (fun l1=>⟨[(3,.h 0),(1,.q 1 0)],[(0,ROW qI 3 l1),(1,.bx 35 [lF qI p0.1,lI p0.2.1,lF qI p0.2.2.1,lF qT p0.2.2.2])],2⟩) ?_ ?_
 ·intro l1 hm
  unfold y2e at hm
  refine .seq (.seq (.reg (.sa R (.nil (.seqN (.block (bS hm fun o34 eo34 hm=>?_)))))))
  refine .cut1 (z:= .exit 0) o34 (fun (o34:List Int)=>⟨[(3,.h 0)],[(0,ROW qI 3 o34)],1⟩) ?_ fun K36=>?_
  ·skip
   refine .blkE (.seqN (.seq (.reg (.mv R (.sa R (.nil (.seqN (.ret ?_))))))))
   obtain rfl:=oi hm
   exact WX.rt [0] (.inl R) Tryz.results228 (.tmp R .nil) R (fun _ _ _ h=>h) ⟨⟨_,R,fun _ _ _ _ h=>h⟩,trivial⟩
  refine .iter (fun (st34:Int×List Int)=>⟨[(4,.i st34.1),(3,.h 0),(1,.q 1 0)],[(0,ROW qI 3 st34.2),(1,.bx 35 [lF qI p0.1,lI p0.2.1,lF qI p0.2.2.1,lF qT p0.2.2.2])],2⟩) eo34 [] R ?_
  intro st34 res34 hm ih34 ho34
  unfold y1E at hm
  refine .seq (.seq (.reg (.mv R (.mv R (.op (O.lenH sl32 Z R R R) R (.bi R (.nil (.seqN ?_))))))))
  rcases ifS hm with ⟨hc,hm⟩ | ⟨hc,hm⟩
  ·refine .cT R hc ?_
   refine .skip (.seqN (.seq (.block (.seq (.reg (.sa R (.nil (.seqN (.block (bS hm fun o51 eo51 hm=>?_))))))))))
   refine .cut1 (z:= .exit 2) o51 (fun (o51:List Int)=>⟨[(4,.i st34.1),(3,.h 0),(1,.q 1 0)],[(0,ROW qI 3 o51),(1,.bx 35 [lF qI p0.1,lI p0.2.1,lF qI p0.2.2.1,lF qT p0.2.2.2])],2⟩) ?_ fun K53=>?_
   ·skip
    exact .blkE (.blkN (.seqN (.reg (.mv R (.bi R (.sa R (.nil ((ih34 _ (oi hm).symm).sub [] R))))))))
   refine .iter (fun (st51:Int×List Int)=>⟨[(5,.i st51.1),(4,.i st34.1),(3,.h 0),(1,.q 1 0)],[(0,ROW qI 3 st51.2),(1,.bx 35 [lF qI p0.1,lI p0.2.1,lF qI p0.2.2.1,lF qT p0.2.2.2])],2⟩) eo51 [] R ?_
   intro st51 res51 hm ih51 ho51
   unfold y1D at hm
   refine .seq (.seq (.reg (.mv R (.op (O.faP y1S Z R R) R (.op (O.ld nag32 Z R (.B R) R R) R (.op (O.len sl32 Z R R) R (.bi R (.nil (.seqN ?_)))))))))
   rcases ifS hm with ⟨hc,hm⟩ | ⟨hc,hm⟩
   ·refine .cT R hc ?_
    refine .skip (.seqN ?_)
    refine .join1 (fun (l54:List Int)=>y1C st51 l54=some res51) (fun l54=>⟨[(3,.h 0),(5,.i st51.1),(4,.i st34.1),(1,.q 1 0)],[(0,ROW qI 3 l54),(1,.bx 35 [lF qI p0.1,lI p0.2.1,lF qI p0.2.2.1,lF qT p0.2.2.2])],2⟩) ?_ ?_
    ·intro l54 hm
     unfold y1C at hm
     exact .reg (.mv R (.bi R (.sa R (.nil ((ih51 _ (oi hm).symm).sub [] R)))))
    ·intro Jj55
     refine .block (.seq ?_)
     refine .sub (τ:=⟨[(5,.i st51.1),(4,.i st34.1),(3,.h 0),(1,.q 1 0)],[(0,ROW qI 3 st51.2),(1,.bx 35 [lF qI p0.1,lI p0.2.1,lF qI p0.2.2.1,lF qT p0.2.2.2])],2⟩) ?_ [] R
     refine bS hm fun x56 ex56 hm=>bS hm fun x57 ex57 hm=>bS hm fun r58 er58 hm=>?_
     refine .drw [(2,[]),(2,[]),(2,[]),(2,[oF,oT,oT]),(2,fA 1 (tT 3)),(2,[]),(2,[oF,oF,oF,oF,oF,oT]),(2,[]),(2,fA 5 (tT 3)),(2,fA 5 (tT 4)),(2,tT 10),(2,tT 11)] [_,_,_,_,_,_,_,_,_,_,_,_] ⟨[(6,.i r58),(5,.i st51.1),(4,.i st34.1),(3,.h 0),(1,.q 1 0)],[(0,ROW qI 3 st51.2),(1,.bx 35 [lF qI p0.1,lI p0.2.1,lF qI p0.2.2.1,lF qT p0.2.2.2])],2⟩ ⟨O.lg (l':=[lF qI p0.1,lI p0.2.1,lF qI p0.2.2.1,lF qT p0.2.2.2]) ag35 Z R (.B R) R R R,O.mv Z R R,O.mv Z R R,O.ir sl32 Z R R R ex56 R,O.ld nag3 Z R (.R R ex56 lv3) R R,O.faP y1S Z R R,O.ld nag32 Z R (.B R) R R,O.mv Z R R,O.ix sl32 Z R R ex57 R,O.ld nag3 Z R (.E lv3) R R,O.ca0 (y4Q er58) cf55 R R Z R R R,O.as Z R R,trivial⟩ (by kernel_rfl) R ?_
     refine .seqN (.seq (.reg (.mv R (.bi R (.mv R (bS hm fun b59 eb59 hm=>?_))))))
     refine .cut 5 (fun (v60:Bool)=>b59=v60) (fun v60=>⟨[(44,.b v60),(6,.i r58),(5,.i st51.1),(4,.i st34.1),(3,.h 0),(1,.q 1 0)],[(0,ROW qI 3 st51.2),(1,.bx 35 [lF qI p0.1,lI p0.2.1,lF qI p0.2.2.1,lF qT p0.2.2.2])],2⟩) ?_ ?_
     ·rintro _ rfl
      refine .nil (.seqN ?_)
      rcases ifS hm with ⟨hc,hm⟩ | ⟨hc,hm⟩
      ·refine .cT R hc ?_
       exact .reg (.mv R (.mv R (.op (O.bsF (r:=qI) (zs:=([r58]:List Int)) bs32 R R Z R R R (.c .k .n) R R R) R (bS hm fun x62 ex62 hm=> .op (O.ap 2 Tryz.underlying32 el3 R R Z R R (.fr R) ex62 R) R (.sa R (.nil (.blkN ((Jj55 _ hm).sub [(0,2)] R))))))))
      ·refine .cF R hc ?_
       exact .skip (.blkN ((Jj55 _ hm).sub [] R))
     ·intro J61
      rcases ifS eb59 with ⟨hc,hm⟩ | ⟨hc,hm⟩
      ·refine .know (d:=39) R hc ?_
       exact .op (O.mv (Gu.mk R R) R R) R (.op (O.mv (Gu.mk R R) R R) R (bS hm fun r63 er63 hm=> .op (O.caZ (y5c er63) cf229 R R (Gu.mk R R) R ⟨⟨R,.hr R,trivial⟩,⟨R,LnL.rf⟩,trivial⟩ (fun _ _ _ _ _ h=>h) R) R (.op (O.not (Gu.mk R R) R R) R (.op (O.pkT Z R R R R) R ((J61 (!r63) (oi hm).symm).sub [] R)))))
      ·refine .know (d:=39) R hc ?_
       exact .sk R (.sk R (.sk R (.sk R (.op (O.pkF Z R R R R) R ((J61 false (oi hm).symm).sub [] R)))))
   ·refine .cF R hc ?_
    exact .exit (.seqX (.seqX ((K53 _ (ho51 _ (oi hm).symm)).sub [] R)))
  ·refine .cF R hc ?_
   exact .exit (.seqX (.seqX ((K36 _ (ho34 _ (oi hm).symm)).sub [] R)))
 ·intro Jj2
  refine .seq (.reg (.op (O.faP y1T Z R R) R (.op (O.ld nag3 Z R (.B R) R R) R (.bi R (.nil (.seqN ?_))))))
  rcases ifS hm with ⟨hc,hm⟩ | ⟨hc,hm⟩
  ·refine .cT R hc ?_
   exact .reg (.mv R (.op (O.bsF (r:=qI) (zs:=([0]:List Int)) bs32 R R Z R R R (.c .k .n) R R R) R (bS hm fun x64 ex64 hm=> .op (O.apN (r:=qI) 1 Tryz.underlying32 el3 R R Z R (.fr R) ex64 R) R (.sa R (.nil ((Jj2 _ hm).sub [(0,1),(1,0)] R))))))
  ·refine .cF R hc ?_
   exact .skip (.nlg qI 3 3 0 R R ((Jj2 _ hm).sub [(0,1),(1,0)] R))
def y2f (p0:List Int) (p1:Int) (st4:Int):Option (Int ⊕ (Unit ⊕ Int)):=
 if decide (st4 < (p0.length:Int)) then
  (idx p0 st4).bind fun x10=>
  if(x10 == p1) then
   some (.inr (.inr (st4)))
  else
   some (.inl (W (st4 + 1)))
 else
  some (.inr (.inl ()))
def y2L (p0:List Int) (p1:Int):Option Int:=
 (iter (y2f p0 p1) 0).bind fun o4=>
 match o4 with
 | .inl u6=>
  some (-1)
 | .inr (u8)=>
  some u8
theorem y6q {p0:List Int} {p1:Int} {r:Int} (hm:y2L p0 p1=some r):
  Fw Tryz.prog 230 ⟨0,[]⟩ [.f qI p0,.i p1] [] (.i r) []:=by
 unfold y2L at hm
 refine Fw.mk' Tryz.func230 R Tryz.ntmps230 R R (fun C=>?_) R R
 refine .seq (.reg (.sa R (.nil (.seqN (.seq (.seq (.reg (.sa R (.nil (.seqN (.block (bS hm fun o4 eo4 hm=>?_))))))))))))
 refine .cutU (z:= .exit 0) (fun u6=> .inl u6=o4) (fun (u6:Unit)=>⟨[],[],0⟩) ?_ fun K7=>?_
 ·rintro u6 rfl
  dsimp only at hm
  refine .blkE (.seqN (.seq (.reg (.sa R (.nil (.seqN (.ret ?_)))))))
  obtain rfl:=oi hm
  exact WX.rt [] (.inl R) Tryz.results230 (.tmp R .nil) R (fun _ _ _ h=>h) trivial
 refine .cutU (z:= .ret) (fun u8=> .inr (u8)=o4) (fun (u8:Int)=>⟨[(4,.i u8)],[],0⟩) ?_ fun K9=>?_
 ·rintro u8 rfl
  dsimp only at hm
  refine .blkR (.seqR ?_)
  obtain rfl:=oi hm
  exact WX.rt [] (.inl R) Tryz.results230 (.tmp R .nil) R (fun _ _ _ h=>h) trivial
 refine .iter (fun (st4:Int)=>⟨[(5,.i st4),(0,.f qI p0),(1,.i p1)],[],0⟩) eo4 [] R ?_
 intro st4 res4 hm ih4 ho4
 unfold y2f at hm
 refine .seq (.seq (.reg (.mv R (.mv R (.op (O.len sl32 Z R R) R (.bi R (.nil (.seqN ?_))))))))
 rcases ifS hm with ⟨hc,hm⟩ | ⟨hc,hm⟩
 ·refine .cT R hc ?_
  refine .skip (.seqN (.seq (.block (.seq (.reg (.mv R (.mv R (bS hm fun x10 ex10 hm=> .op (O.ix sl32 Z R R ex10 R) R (.op (O.ld nag3 Z R (.E lv3) R R) R (.mv R (.bi R (.nil (.seqN ?_)))))))))))))
  rcases ifS hm with ⟨hc,hm⟩ | ⟨hc,hm⟩
  ·refine .cT R hc ?_
   exact .seq (.reg (.mv R (.sa R (.nil (.seqN (.ret (.blkR (.seqR (.seqR ((K9 _ (ho4 _ (oi hm).symm)).sub [] R))))))))))
  ·refine .cF R hc ?_
   exact .skip (.blkN (.seqN (.reg (.mv R (.bi R (.sa R (.nil ((ih4 _ (oi hm).symm).sub [] R))))))))
 ·refine .cF R hc ?_
  exact .exit (.seqX (.seqX ((K7 _ (ho4 _ (oi hm).symm)).sub [] R)))
def yY (st55:Int×EdgL) (l58:List (Int×Int×Int)):Option ((Int×EdgL) ⊕ EdgL):=
 some (.inl (W (st55.1 + 1),l58))
def yZ (p0:AutT) (r1:List Int) (st37:Int×List Int×EdgL) (st55:Int×EdgL):Option ((Int×EdgL) ⊕ EdgL):=
 if decide (st55.1 < (p0.1.length:Int)) then
  (idx r1 st37.1).bind fun x60=>
  (idx p0.1 st55.1).bind fun x61=>
  (y2m p0 x60 x61).bind fun r62=>
  if decide (r62≥0) then
   (idx p0.1 st55.1).bind fun x63=>
   (y2L r1 r62).bind fun r64=>
   (app st55.2 ([(st37.1,x63,r64)]:List (Int×Int×Int))).bind fun x65=>
   yY st55 x65
  else
   yY st55 st55.2
 else
  some (.inr st55.2)
def y1a (p0:AutT) (r1:List Int) (st37:Int×List Int×EdgL) (l41:List Int):Option ((Int×List Int×EdgL) ⊕ (List Int×EdgL)):=
 (iter (yZ p0 r1 st37) (0,st37.2.2)).bind fun o55=>
 some (.inl (W (st37.1 + 1),l41,o55))
def y1F (p0:AutT) (r1:List Int) (st37:Int×List Int×EdgL):Option ((Int×List Int×EdgL) ⊕ (List Int×EdgL)):=
 if decide (st37.1 < (r1.length:Int)) then
  (idx r1 st37.1).bind fun x66=>
  (y2x p0.2.2.1 x66).bind fun r67=>
  if r67 then
   (app st37.2.1 ([st37.1]:List Int)).bind fun x68=>
   y1a p0 r1 st37 x68
  else
   y1a p0 r1 st37 st37.2.1
 else
  some (.inr st37.2)
def y1U (p0:AutT):Option AutT:=
 (y2K p0).bind fun r1=>
 (y1B p0.1).bind fun r2=>
 (iter (y1F p0 r1) (0,r2.2.2)).bind fun o37=>
 some (r2.1,(r1.length:Int),o37)
theorem y5D {p0:AutT} {r:AutT} (hm:y1U p0=some r):
  Fw Tryz.prog 195 ⟨0,[]⟩ [.a [lF qI p0.1,lI p0.2.1,lF qI p0.2.2.1,lF qT p0.2.2.2]] [] (.g [lH 0,lI r.2.1,lH 1,lH 2]) [ROW qI 3 r.1,ROW qI 3 r.2.2.1,ROW qT 124 r.2.2.2]:=by
 unfold y1U at hm
 refine Fw.mk' Tryz.func195 R Tryz.ntmps195 R R (fun C=>?_) R R
 refine .seq (.reg (.op (O.box 0 R Z R R R) R (.op (O.al 1 R zz35 R Z R) R (.nil (.seqN (.seq (.reg (.op (O.lg (l':=[lF qI p0.1,lI p0.2.1,lF qI p0.2.2.1,lF qT p0.2.2.2]) ag35 Z R (.B R) R R R) R (bS hm fun r1 er1 hm=> .op (O.ca (r':= .h 2) [2] [(0,ROW qI 3 r1)] (some 3) (y6p er1) cf228 R R Z R R R R ⟨⟨_,R,fun _ _ _ _ h=>h⟩,trivial⟩ (fun _ _ _ h=>h) R) R (.sa R (.nil (.seqN (.seq (.reg (.op (O.faP y1S Z R R) R (.op (O.ld nag32 Z R (.B R) R R) R (bS hm fun r2 er2 hm=> .op (O.ca (r':= .g [lH 3,lI r2.2.1,lH 4,lH 5]) [3,4,5] [(0,ROW qI 3 r2.1),(1,ROW qI 3 r2.2.2.1),(2,ROW qT 124 r2.2.2.2)] (some 6) (y3K er2) cf194 R R Z R R R R ⟨⟨_,R,fun _ _ _ _ h=>h⟩,⟨_,R,fun _ _ _ _ h=>h⟩,⟨_,R,fun _ _ _ _ h=>h⟩,trivial⟩ (fun _ _ _ h=>h) R) R (.op (O.al 6 R zz35 R Z R) R (.op (O.st ag35.sz Z R R R R R) R (.nil (.seqN (.seq (.reg (.mv R (.op (O.lenH sl32 Z R R R) R (.op (O.faP y1T Z R R) R (.op (O.st nag3.sz Z R R R R R) R (.nil (.seqN (.seq (.seq (.reg (.sa R (.nil (.seqN (.block (bS hm fun o37 eo37 hm=>?_)))))))))))))))))))))))))))))))))))))
 refine .cut1 (z:= .exit 0) o37 (fun (o37:List Int×EdgL)=>⟨[(4,.q 0 0),(2,.q 4 0)],[(0,.bx 35 [lH 1,lI (r1.length:Int),lH 2,lH 3]),(1,ROW qI 3 r2.1),(2,ROW qI 3 o37.1),(3,ROW qT 124 o37.2),(4,.bx 35 [lN,lI 0,lN,lN])],5⟩) ?_ fun K40=>?_
 ·skip
  refine .blkE (.seqN (.seq (.reg (.op (O.lg (l':=[lH 1,lI (r1.length:Int),lH 2,lH 3]) ag35 Z R (.B R) R R R) R (.op (O.st ag35.sz Z R R R R R) R (.nil (.seqN (.ret ?_))))))))
  obtain rfl:=oi hm
  exact WX.rt [1,2,3] (.inl R) Tryz.results195 (.cell R R ag35 R .nil) R (fun _ _ _ h=>h) ⟨⟨_,R,fun _ _ _ _ h=>h⟩,⟨_,R,fun _ _ _ _ h=>h⟩,⟨_,R,fun _ _ _ _ h=>h⟩,trivial⟩
 refine .iter (fun (st37:Int×List Int×EdgL)=>⟨[(5,.i st37.1),(4,.q 0 0),(3,.h 4),(2,.q 5 0),(1,.q 6 0)],[(0,.bx 35 [lH 1,lI (r1.length:Int),lH 2,lH 3]),(1,ROW qI 3 r2.1),(2,ROW qI 3 st37.2.1),(3,ROW qT 124 st37.2.2),(4,ROW qI 3 r1),(5,.bx 35 [lN,lI 0,lN,lN]),(6,.bx 35 [lF qI p0.1,lI p0.2.1,lF qI p0.2.2.1,lF qT p0.2.2.2])],7⟩) eo37 [(0,6),(1,3),(2,4),(3,5),(4,2),(5,1),(6,0)] R ?_
 intro st37 res37 hm ih37 ho37
 unfold y1F at hm
 refine .seq (.seq (.reg (.mv R (.mv R (.op (O.lenH sl32 Z R R R) R (.bi R (.nil (.seqN ?_))))))))
 rcases ifS hm with ⟨hc,hm⟩ | ⟨hc,hm⟩
 ·refine .cT R hc ?_
  refine .skip (.seqN (.seq (.block ?_)))
  refine .join1 (fun (l41:List Int)=>y1a p0 r1 st37 l41=some res37) (fun l41=>⟨[(5,.i st37.1),(4,.q 0 0),(3,.h 4),(2,.q 5 0),(1,.q 6 0)],[(0,.bx 35 [lH 1,lI (r1.length:Int),lH 2,lH 3]),(1,ROW qI 3 r2.1),(2,ROW qI 3 l41),(3,ROW qT 124 st37.2.2),(4,ROW qI 3 r1),(5,.bx 35 [lN,lI 0,lN,lN]),(6,.bx 35 [lF qI p0.1,lI p0.2.1,lF qI p0.2.2.1,lF qT p0.2.2.2])],7⟩) ?_ ?_
  ·intro l41 hm
   unfold y1a at hm
   refine .seq (.reg (.sa R (.nil (.seqN (.block (bS hm fun o55 eo55 hm=>?_))))))
   refine .cut1 (z:= .exit 2) o55 (fun (o55:EdgL)=>⟨[(5,.i st37.1),(4,.q 0 0),(3,.h 4),(2,.q 5 0),(1,.q 6 0)],[(0,.bx 35 [lH 1,lI (r1.length:Int),lH 2,lH 3]),(1,ROW qI 3 r2.1),(2,ROW qI 3 l41),(3,ROW qT 124 o55),(4,ROW qI 3 r1),(5,.bx 35 [lN,lI 0,lN,lN]),(6,.bx 35 [lF qI p0.1,lI p0.2.1,lF qI p0.2.2.1,lF qT p0.2.2.2])],7⟩) ?_ fun K57=>?_
   ·skip
    exact .blkE (.blkN (.seqN (.reg (.mv R (.bi R (.sa R (.nil ((ih37 _ (oi hm).symm).sub [] R))))))))
   refine .iter (fun (st55:Int×EdgL)=>⟨[(6,.i st55.1),(5,.i st37.1),(4,.q 0 0),(3,.h 4),(2,.q 5 0),(1,.q 6 0)],[(0,.bx 35 [lH 1,lI (r1.length:Int),lH 2,lH 3]),(1,ROW qI 3 r2.1),(2,ROW qI 3 l41),(3,ROW qT 124 st55.2),(4,ROW qI 3 r1),(5,.bx 35 [lN,lI 0,lN,lN]),(6,.bx 35 [lF qI p0.1,lI p0.2.1,lF qI p0.2.2.1,lF qT p0.2.2.2])],7⟩) eo55 [] R ?_
   intro st55 res55 hm ih55 ho55
   unfold yZ at hm
   refine .seq (.seq (.reg (.mv R (.op (O.faP y1S Z R R) R (.op (O.ld nag32 Z R (.B R) R R) R (.op (O.len sl32 Z R R) R (.bi R (.nil (.seqN ?_)))))))))
   rcases ifS hm with ⟨hc,hm⟩ | ⟨hc,hm⟩
   ·refine .cT R hc ?_
    refine .skip (.seqN ?_)
    refine .join1 (fun (l58:List (Int×Int×Int))=>yY st55 l58=some res55) (fun l58=>⟨[(6,.i st55.1),(5,.i st37.1),(4,.q 0 0),(3,.h 4),(2,.q 5 0),(1,.q 6 0)],[(0,.bx 35 [lH 1,lI (r1.length:Int),lH 2,lH 3]),(1,ROW qI 3 r2.1),(2,ROW qI 3 l41),(3,ROW qT 124 l58),(4,ROW qI 3 r1),(5,.bx 35 [lN,lI 0,lN,lN]),(6,.bx 35 [lF qI p0.1,lI p0.2.1,lF qI p0.2.2.1,lF qT p0.2.2.2])],7⟩) ?_ ?_
    ·intro l58 hm
     unfold yY at hm
     exact .reg (.mv R (.bi R (.sa R (.nil ((ih55 _ (oi hm).symm).sub [] R)))))
    ·intro Jj59
     refine .block (.seq ?_)
     refine .sub (τ:=⟨[(6,.i st55.1),(5,.i st37.1),(4,.q 0 0),(3,.h 4),(2,.q 5 0),(1,.q 6 0)],[(0,.bx 35 [lH 1,lI (r1.length:Int),lH 2,lH 3]),(1,ROW qI 3 r2.1),(2,ROW qI 3 l41),(3,ROW qT 124 st55.2),(4,ROW qI 3 r1),(5,.bx 35 [lN,lI 0,lN,lN]),(6,.bx 35 [lF qI p0.1,lI p0.2.1,lF qI p0.2.2.1,lF qT p0.2.2.2])],7⟩) ?_ [] R
     refine bS hm fun x60 ex60 hm=>bS hm fun x61 ex61 hm=>bS hm fun r62 er62 hm=>?_
     refine .drw [(7,[]),(7,[]),(7,[]),(7,[oF,oT,oT]),(7,fA 1 (tT 3)),(7,[]),(7,[oF,oF,oF,oF,oF,oT]),(7,[]),(7,fA 5 (tT 3)),(7,fA 5 (tT 4)),(7,tT 10),(7,tT 11)] [_,_,_,_,_,_,_,_,_,_,_,_] ⟨[(7,.i r62),(6,.i st55.1),(5,.i st37.1),(4,.q 0 0),(3,.h 4),(2,.q 5 0),(1,.q 6 0)],[(0,.bx 35 [lH 1,lI (r1.length:Int),lH 2,lH 3]),(1,ROW qI 3 r2.1),(2,ROW qI 3 l41),(3,ROW qT 124 st55.2),(4,ROW qI 3 r1),(5,.bx 35 [lN,lI 0,lN,lN]),(6,.bx 35 [lF qI p0.1,lI p0.2.1,lF qI p0.2.2.1,lF qT p0.2.2.2])],7⟩ ⟨O.lg (l':=[lF qI p0.1,lI p0.2.1,lF qI p0.2.2.1,lF qT p0.2.2.2]) ag35 Z R (.B R) R R R,O.mv Z R R,O.mv Z R R,O.ir sl32 Z R R R ex60 R,O.ld nag3 Z R (.R R ex60 lv3) R R,O.faP y1S Z R R,O.ld nag32 Z R (.B R) R R,O.mv Z R R,O.ix sl32 Z R R ex61 R,O.ld nag3 Z R (.E lv3) R R,O.ca0 (y4Q er62) cf55 R R Z R R R,O.as Z R R,trivial⟩ (by kernel_rfl) R ?_
     refine .seqN (.seq (.reg (.mv R (.bi R (.nil (.seqN ?_))))))
     rcases ifS hm with ⟨hc,hm⟩ | ⟨hc,hm⟩
     ·refine .cT R hc ?_
      refine .sub (τ:=⟨[(7,.i r62),(6,.i st55.1),(5,.i st37.1),(4,.q 0 0),(3,.h 4),(2,.q 5 0),(1,.q 6 0)],[(0,.bx 35 [lH 1,lI (r1.length:Int),lH 2,lH 3]),(1,ROW qI 3 r2.1),(2,ROW qI 3 l41),(3,ROW qT 124 st55.2),(4,ROW qI 3 r1),(5,.bx 35 [lN,lI 0,lN,lN]),(6,.bx 35 [lF qI p0.1,lI p0.2.1,lF qI p0.2.2.1,lF qT p0.2.2.2])],7⟩) ?_ [] R
      refine bS hm fun x63 ex63 hm=>bS hm fun r64 er64 hm=>bS hm fun x65 ex65 hm=>?_
      refine .drg 8 [(7,[]),(7,[oT]),(7,[]),(7,[]),(7,[oF,oF,oF,oT]),(7,[]),(7,fA 3 (tT 3)),(7,fA 3 (tT 4)),(7,[]),(7,[]),(7,[oF,oF,oF,oF,oF,oF,oF,oF,oT,oT]),(7,fA 2 (tT 9)),(7,fA 2 (tT 10)),(7,tT 13),(8,tT 14),(8,tT 15)] [_,_,_,_,_,_,_,_,_,_,_,_,_,_,_,_] ⟨[(6,.i st55.1),(5,.i st37.1),(4,.q 0 0),(3,.h 4),(2,.q 5 0),(1,.q 6 0)],[(0,.bx 35 [lH 1,lI (r1.length:Int),lH 2,lH 7]),(1,ROW qI 3 r2.1),(2,ROW qI 3 l41),(7,ROW qT 124 x65),(4,ROW qI 3 r1),(5,.bx 35 [lN,lI 0,lN,lN]),(6,.bx 35 [lF qI p0.1,lI p0.2.1,lF qI p0.2.2.1,lF qT p0.2.2.2])],8⟩ ⟨O.faP y1h Z R R,O.ld nag33 Z R (.B R) R R,O.mv Z R R,O.faP y1S Z R R,O.ld nag32 Z R (.B R) R R,O.mv Z R R,O.ix sl32 Z R R ex63 R,O.ld nag3 Z R (.E lv3) R R,O.mv Z R R,O.mv Z R R,O.caZ (y6q er64) cf230 R R Z R ⟨⟨R,.hr R,trivial⟩,⟨R,LnL.rf⟩,trivial⟩ (fun _ _ _ _ _ h=>h) R,O.bu (l:=[lI st37.1,lI x63,lI r64]) pl124 R Z R R R,O.bsF (r:=qT) (zs:=([(st37.1,x63,r64)]:List (Int×Int×Int))) bs33 R R Z R R R (.c (.p .k (.p .k .k)) .n) R R R,O.ap 7 Tryz.underlying33 el124 R R Z R R (.fr R) ex65 R,O.faP y1h Z R R,O.st nag33.sz Z R R R R R,trivial⟩ (by kernel_rfl) R ?_
      exact .blkN ((Jj59 _ hm).sub [(3,7)] R)
     ·refine .cF R hc ?_
      exact .skip (.blkN ((Jj59 _ hm).sub [] R))
   ·refine .cF R hc ?_
    exact .exit (.seqX (.seqX ((K57 _ (ho55 _ (oi hm).symm)).sub [] R)))
  ·intro Jj42
   refine .seq ?_
   refine .sub (τ:=⟨[(5,.i st37.1),(4,.q 0 0),(3,.h 4),(2,.q 5 0),(1,.q 6 0)],[(0,.bx 35 [lH 1,lI (r1.length:Int),lH 2,lH 3]),(1,ROW qI 3 r2.1),(2,ROW qI 3 st37.2.1),(3,ROW qT 124 st37.2.2),(4,ROW qI 3 r1),(5,.bx 35 [lN,lI 0,lN,lN]),(6,.bx 35 [lF qI p0.1,lI p0.2.1,lF qI p0.2.2.1,lF qT p0.2.2.2])],7⟩) ?_ [] R
   refine bS hm fun x66 ex66 hm=>bS hm fun r67 er67 hm=>?_
   refine .drw [(7,[]),(7,[oT]),(7,[]),(7,[]),(7,[oF,oF,oT,oT]),(7,fA 2 (tT 3)),(7,tT 6)] [_,_,_,_,_,_,_] ⟨[(28,.b r67),(5,.i st37.1),(4,.q 0 0),(3,.h 4),(2,.q 5 0),(1,.q 6 0)],[(0,.bx 35 [lH 1,lI (r1.length:Int),lH 2,lH 3]),(1,ROW qI 3 r2.1),(2,ROW qI 3 st37.2.1),(3,ROW qT 124 st37.2.2),(4,ROW qI 3 r1),(5,.bx 35 [lN,lI 0,lN,lN]),(6,.bx 35 [lF qI p0.1,lI p0.2.1,lF qI p0.2.2.1,lF qT p0.2.2.2])],7⟩ ⟨O.faP y3l Z R R,O.ld nag32 Z R (.B R) R R,O.mv Z R R,O.mv Z R R,O.ir sl32 Z R R R ex66 R,O.ld nag3 Z R (.R R ex66 lv3) R R,O.ca0 (y5c er67) cf229 R R Z R R R,trivial⟩ (by kernel_rfl) R ?_
   refine .seqN ?_
   rcases ifS hm with ⟨hc,hm⟩ | ⟨hc,hm⟩
   ·refine .cT R hc ?_
    exact .reg (.op (O.faP y3l Z R R) R (.op (O.ld nag32 Z R (.B R) R R) R (.mv R (.op (O.bsF (r:=qI) (zs:=([st37.1]:List Int)) bs32 R R Z R R R (.c .k .n) R R R) R (bS hm fun x68 ex68 hm=> .op (O.ap 7 Tryz.underlying32 el3 R R Z R R (.fr R) ex68 R) R (.op (O.faP y3l Z R R) R (.op (O.st nag32.sz Z R R R R R) R (.nil ((Jj42 _ hm).sub [(2,7)] R)))))))))
   ·refine .cF R hc ?_
    exact .skip ((Jj42 _ hm).sub [] R)
 ·refine .cF R hc ?_
  exact .exit (.seqX (.seqX ((K40 _ (ho37 _ (oi hm).symm)).sub [(4,5)] R)))
def y1K (st61:Int×EdgL) (l66:List (Int×Int×Int)):Option ((Int×EdgL) ⊕ EdgL):=
 some (.inl (W (st61.1 + 1),l66))
def y2r (p0:List Int) (p1:y1O) (st40:Int×List Int×EdgL) (st61:Int×EdgL):Option ((Int×EdgL) ⊕ EdgL):=
 if((decide (st61.1 < (p0.length:Int))) && (decide (st61.1 < 5))) then
  (rng st40.1 5).bind fun _=>
  (rng st61.1 5).bind fun _=>
  (([p1.2.2.1.1,p1.2.2.1.2.1,p1.2.2.1.2.2.1,p1.2.2.1.2.2.2.1,p1.2.2.1.2.2.2.2,p1.2.2.2.1.1,p1.2.2.2.1.2.1,p1.2.2.2.1.2.2.1,p1.2.2.2.1.2.2.2.1,p1.2.2.2.1.2.2.2.2,p1.2.2.2.2.1.1,p1.2.2.2.2.1.2.1,p1.2.2.2.2.1.2.2.1,p1.2.2.2.2.1.2.2.2.1,p1.2.2.2.2.1.2.2.2.2,p1.2.2.2.2.2.1.1,p1.2.2.2.2.2.1.2.1,p1.2.2.2.2.2.1.2.2.1,p1.2.2.2.2.2.1.2.2.2.1,p1.2.2.2.2.2.1.2.2.2.2,p1.2.2.2.2.2.2.1,p1.2.2.2.2.2.2.2.1,p1.2.2.2.2.2.2.2.2.1,p1.2.2.2.2.2.2.2.2.2.1,p1.2.2.2.2.2.2.2.2.2.2]:List Int)[st40.1.toNat * 5 + st61.1.toNat * 1]?).bind fun x70=>
  (nz (W ((W (1 + (W (p1.1.tmod 5)))) + 2))).bind fun _=>
  if decide (((W x70).tmod (W ((W (1 + (W (p1.1.tmod 5)))) + 2))) < (W (1 + (W (p1.1.tmod 5))))) then
   (idx p0 st61.1).bind fun x72=>
   (app st61.2 ([(st40.1,x72,((W x70).tmod (W ((W (1 + (W (p1.1.tmod 5)))) + 2))))]:List (Int×Int×Int))).bind fun x73=>
   y1K st61 x73
  else
   y1K st61 st61.2
 else
  some (.inr st61.2)
def y1L (p0:List Int) (p1:y1O) (st40:Int×List Int×EdgL) (l45:List Int):Option ((Int×List Int×EdgL) ⊕ (List Int×EdgL)):=
 (iter (y2r p0 p1 st40) (0,st40.2.2)).bind fun o61=>
 some (.inl (W (st40.1 + 1),l45,o61))
def y2s (p0:List Int) (p1:y1O) (st40:Int×List Int×EdgL):Option ((Int×List Int×EdgL) ⊕ (List Int×EdgL)):=
 if decide (st40.1 < (W (1 + (W (p1.1.tmod 5))))) then
  (ng st40.1).bind fun _=>
  if((IntKind.u8.wrap (((BitVec.ofInt 8 (p1.2.1.fdiv (2 ^ (min st40.1.toNat 8))) &&& BitVec.ofInt 8 1).toNat:Int))) == 1) then
   (app st40.2.1 ([st40.1]:List Int)).bind fun x75=>
   y1L p0 p1 st40 x75
  else
   y1L p0 p1 st40 st40.2.1
 else
  some (.inr st40.2)
def y2n (p0:List Int) (p1:y1O):Option AutT:=
 if decide (p1.1≥250) then
  (y1B p0).bind fun r1=>
  some r1
 else
  (y1B p0).bind fun r2=>
  (iter (y2s p0 p1) (0,r2.2.2)).bind fun o40=>
  (y1U (r2.1,W (1 + (W (p1.1.tmod 5))),o40)).bind fun r44=>
  some r44
theorem y4R {p0:List Int} {p1:y1O} {r:AutT} (hm:y2n p0 p1=some r):
  Fw Tryz.prog 143 ⟨0,[]⟩ [.f qI p0,.a (lx26 p1)] [] (.g [lH 0,lI r.2.1,lH 1,lH 2]) [ROW qI 3 r.1,ROW qI 3 r.2.2.1,ROW qT 124 r.2.2.2]:=by
 unfold y2n at hm
 refine Fw.mk' Tryz.func143 R Tryz.ntmps143 R R (fun C=>?_) R R
 refine .seq (.reg (.op (O.box 0 R Z R R R) R (.op (O.al 1 R zz35 R Z R) R (.nil (.seqN (.seq (.seq (.reg (.op (O.faP ybo Z R R) R (.op (O.ld nag5 Z R (.B R) R R) R (.bi R (.nil (.seqN ?_)))))))))))))
 rcases ifS hm with ⟨hc,hm⟩ | ⟨hc,hm⟩
 ·refine .cT R hc ?_
  refine .seq (.reg (.mv R (bS hm fun r1 er1 hm=> .op (O.ca (r':= .g [lH 2,lI r1.2.1,lH 3,lH 4]) [2,3,4] [(0,ROW qI 3 r1.1),(1,ROW qI 3 r1.2.2.1),(2,ROW qT 124 r1.2.2.2)] (some 5) (y3K er1) cf194 R R Z R R R R ⟨⟨_,R,fun _ _ _ _ h=>h⟩,⟨_,R,fun _ _ _ _ h=>h⟩,⟨_,R,fun _ _ _ _ h=>h⟩,trivial⟩ (fun _ _ _ h=>h) R) R (.op (O.st ag35.sz Z R R R R R) R (.nil (.seqN (.ret (.seqR ?_))))))))
  obtain rfl:=oi hm
  exact WX.rt [2,3,4] (.inl R) Tryz.results143 (.cell R R ag35 R .nil) R (fun _ _ _ h=>h) ⟨⟨_,R,fun _ _ _ _ h=>h⟩,⟨_,R,fun _ _ _ _ h=>h⟩,⟨_,R,fun _ _ _ _ h=>h⟩,trivial⟩
 ·refine .cF R hc ?_
  refine .skip (.seqN (.seq (.reg (.mv R (bS hm fun r2 er2 hm=> .op (O.ca (r':= .g [lH 2,lI r2.2.1,lH 3,lH 4]) [2,3,4] [(0,ROW qI 3 r2.1),(1,ROW qI 3 r2.2.2.1),(2,ROW qT 124 r2.2.2.2)] (some 5) (y3K er2) cf194 R R Z R R R R ⟨⟨_,R,fun _ _ _ _ h=>h⟩,⟨_,R,fun _ _ _ _ h=>h⟩,⟨_,R,fun _ _ _ _ h=>h⟩,trivial⟩ (fun _ _ _ h=>h) R) R (.op (O.al 5 R zz35 R Z R) R (.op (O.st ag35.sz Z R R R R R) R (.nil (.seqN (.seq (.reg (.op (O.faP ybo Z R R) R (.op (O.ld nag5 Z R (.B R) R R) R (.op (O.rem Z R R (by decide) R) R (.op (O.cv Tryz.underlying5 Tryz.underlying3 Z R R) R (.bi R (.op (O.faP y1T Z R R) R (.op (O.st nag3.sz Z R R R R R) R (.nil (.seqN (.seq (.seq (.reg (.sa R (.nil (.seqN (.block (bS hm fun o40 eo40 hm=>?_))))))))))))))))))))))))))))
  refine .cut1 (z:= .exit 0) o40 (fun (o40:List Int×EdgL)=>⟨[(5,.q 0 0),(4,.q 4 0)],[(0,.bx 35 [lH 1,lI (W (1 + (W (p1.1.tmod 5)))),lH 2,lH 3]),(1,ROW qI 3 r2.1),(2,ROW qI 3 o40.1),(3,ROW qT 124 o40.2),(4,.bx 35 [lN,lI 0,lN,lN])],5⟩) ?_ fun K43=>?_
  ·skip
   refine .blkE (.seqN (.seq (.reg (.op (O.lg (l':=[lH 1,lI (W (1 + (W (p1.1.tmod 5)))),lH 2,lH 3]) ag35 Z R (.B R) R R R) R (bS hm fun r44 er44 hm=> .op (O.caY (r':= .g [lH 5,lI r44.2.1,lH 6,lH 7]) [5,6,7] [(0,ROW qI 3 r44.1),(1,ROW qI 3 r44.2.2.1),(2,ROW qT 124 r44.2.2.2)] (some 8) (y5D er44) cf195 R R Z R R ⟨⟨R,.hr R,.rf,.hr R,.hr R,trivial⟩,trivial⟩ R ⟨.row flr3,.row flr3,.row y4a,trivial⟩ (fun _ _ _ _ h=>h) ⟨⟨_,R,fun _ _ _ _ h=>h⟩,⟨_,R,fun _ _ _ _ h=>h⟩,⟨_,R,fun _ _ _ _ h=>h⟩,trivial⟩ (fun _ _ _ h=>h) R) R (.op (O.st ag35.sz Z R R R R R) R (.nil (.seqN (.ret ?_)))))))))
   obtain rfl:=oi hm
   exact WX.rt [5,6,7] (.inl R) Tryz.results143 (.cell R R ag35 R .nil) R (fun _ _ _ h=>h) ⟨⟨_,R,fun _ _ _ _ h=>h⟩,⟨_,R,fun _ _ _ _ h=>h⟩,⟨_,R,fun _ _ _ _ h=>h⟩,trivial⟩
  refine .iter (fun (st40:Int×List Int×EdgL)=>⟨[(6,.i st40.1),(5,.q 0 0),(4,.q 4 0),(3,.q 5 0),(0,.f qI p0)],[(0,.bx 35 [lH 1,lI (W (1 + (W (p1.1.tmod 5)))),lH 2,lH 3]),(1,ROW qI 3 r2.1),(2,ROW qI 3 st40.2.1),(3,ROW qT 124 st40.2.2),(4,.bx 35 [lN,lI 0,lN,lN]),(5,.bx 26 (lx26 p1))],6⟩) eo40 [(0,5),(1,2),(2,3),(3,4),(4,1),(5,0)] R ?_
  intro st40 res40 hm ih40 ho40
  unfold y2s at hm
  refine .seq (.seq (.reg (.mv R (.op (O.faP y1T Z R R) R (.op (O.ld nag3 Z R (.B R) R R) R (.bi R (.nil (.seqN ?_))))))))
  rcases ifS hm with ⟨hc,hm⟩ | ⟨hc,hm⟩
  ·refine .cT R hc ?_
   refine .skip (.seqN (.seq (.block ?_)))
   refine .join1 (fun (l45:List Int)=>y1L p0 p1 st40 l45=some res40) (fun l45=>⟨[(6,.i st40.1),(5,.q 0 0),(4,.q 4 0),(3,.q 5 0),(0,.f qI p0)],[(0,.bx 35 [lH 1,lI (W (1 + (W (p1.1.tmod 5)))),lH 2,lH 3]),(1,ROW qI 3 r2.1),(2,ROW qI 3 l45),(3,ROW qT 124 st40.2.2),(4,.bx 35 [lN,lI 0,lN,lN]),(5,.bx 26 (lx26 p1))],6⟩) ?_ ?_
   ·intro l45 hm
    unfold y1L at hm
    refine .seq (.reg (.sa R (.nil (.seqN (.block (bS hm fun o61 eo61 hm=>?_))))))
    refine .cut1 (z:= .exit 2) o61 (fun (o61:EdgL)=>⟨[(6,.i st40.1),(5,.q 0 0),(4,.q 4 0),(3,.q 5 0),(0,.f qI p0)],[(0,.bx 35 [lH 1,lI (W (1 + (W (p1.1.tmod 5)))),lH 2,lH 3]),(1,ROW qI 3 r2.1),(2,ROW qI 3 l45),(3,ROW qT 124 o61),(4,.bx 35 [lN,lI 0,lN,lN]),(5,.bx 26 (lx26 p1))],6⟩) ?_ fun K63=>?_
    ·skip
     exact .blkE (.blkN (.seqN (.reg (.mv R (.bi R (.sa R (.nil ((ih40 _ (oi hm).symm).sub [] R))))))))
    refine .iter (fun (st61:Int×EdgL)=>⟨[(7,.i st61.1),(6,.i st40.1),(5,.q 0 0),(4,.q 4 0),(3,.q 5 0),(0,.f qI p0)],[(0,.bx 35 [lH 1,lI (W (1 + (W (p1.1.tmod 5)))),lH 2,lH 3]),(1,ROW qI 3 r2.1),(2,ROW qI 3 l45),(3,ROW qT 124 st61.2),(4,.bx 35 [lN,lI 0,lN,lN]),(5,.bx 26 (lx26 p1))],6⟩) eo61 [] R ?_
    intro st61 res61 hm ih61 ho61
    unfold y2r at hm
    refine .seq (.seq (.reg (.mv R (.mv R (.op (O.len sl32 Z R R) R (.bi R (.mv R ?_)))))))
    refine .cut 3 (fun (v64:Bool)=>((decide (st61.1 < (p0.length:Int))) && (decide (st61.1 < 5)))=v64) (fun v64=>⟨[(47,.b v64),(7,.i st61.1),(6,.i st40.1),(5,.q 0 0),(4,.q 4 0),(3,.q 5 0),(0,.f qI p0)],[(0,.bx 35 [lH 1,lI (W (1 + (W (p1.1.tmod 5)))),lH 2,lH 3]),(1,ROW qI 3 r2.1),(2,ROW qI 3 l45),(3,ROW qT 124 st61.2),(4,.bx 35 [lN,lI 0,lN,lN]),(5,.bx 26 (lx26 p1))],6⟩) ?_ ?_
    ·rintro _ rfl
     refine .nil (.seqN ?_)
     rcases ifS hm with ⟨hc,hm⟩ | ⟨hc,hm⟩
     ·refine .cT R hc ?_
      refine .skip (.seqN ?_)
      refine .join1 (fun (l66:List (Int×Int×Int))=>y1K st61 l66=some res61) (fun l66=>⟨[(7,.i st61.1),(6,.i st40.1),(5,.q 0 0),(4,.q 4 0),(3,.q 5 0),(0,.f qI p0)],[(0,.bx 35 [lH 1,lI (W (1 + (W (p1.1.tmod 5)))),lH 2,lH 3]),(1,ROW qI 3 r2.1),(2,ROW qI 3 l45),(3,ROW qT 124 l66),(4,.bx 35 [lN,lI 0,lN,lN]),(5,.bx 26 (lx26 p1))],6⟩) ?_ ?_
      ·intro l66 hm
       unfold y1K at hm
       exact .reg (.mv R (.bi R (.sa R (.nil ((ih61 _ (oi hm).symm).sub [] R)))))
      ·intro Jj67
       refine .block (.seq ?_)
       refine .sub (τ:=⟨[(7,.i st61.1),(6,.i st40.1),(5,.q 0 0),(4,.q 4 0),(3,.q 5 0),(0,.f qI p0)],[(0,.bx 35 [lH 1,lI (W (1 + (W (p1.1.tmod 5)))),lH 2,lH 3]),(1,ROW qI 3 r2.1),(2,ROW qI 3 l45),(3,ROW qT 124 st61.2),(4,.bx 35 [lN,lI 0,lN,lN]),(5,.bx 26 (lx26 p1))],6⟩) ?_ [] R
       refine bS hm fun _ z68 hm=>bS hm fun _ z69 hm=>bS hm fun x70 ex70 hm=>bS hm fun _ z71 hm=>?_
       refine .drw [(6,[]),(6,[]),(6,[]),(6,[oT,oF,oT]),(6,tT 4),(6,tT 5),(6,tT 6),(6,[]),(6,[oF,oF,oF,oF,oF,oF,oF,oT]),(6,[oF,oF,oF,oF,oF,oF,oF,oT,oT]),(6,tT 10),(6,tT 11)] [_,_,_,_,_,_,_,_,_,_,_,_] ⟨[(8,.i ((W x70).tmod (W ((W (1 + (W (p1.1.tmod 5)))) + 2)))),(7,.i st61.1),(6,.i st40.1),(5,.q 0 0),(4,.q 4 0),(3,.q 5 0),(0,.f qI p0)],[(0,.bx 35 [lH 1,lI (W (1 + (W (p1.1.tmod 5)))),lH 2,lH 3]),(1,ROW qI 3 r2.1),(2,ROW qI 3 l45),(3,ROW qT 124 st61.2),(4,.bx 35 [lN,lI 0,lN,lN]),(5,.bx 26 (lx26 p1))],6⟩ ⟨O.mv Z R R,O.mv Z R R,O.faP yd9 Z R R,O.ia ia24 Z R R z68 R,O.ia ia23 Z R R z69 R,O.ldA (off:=2) (k:=st40.1.toNat * 5 + st61.1.toNat * 1) (m:=25) (cs:=[p1.2.2.1.1,p1.2.2.1.2.1,p1.2.2.1.2.2.1,p1.2.2.1.2.2.2.1,p1.2.2.1.2.2.2.2,p1.2.2.2.1.1,p1.2.2.2.1.2.1,p1.2.2.2.1.2.2.1,p1.2.2.2.1.2.2.2.1,p1.2.2.2.1.2.2.2.2,p1.2.2.2.2.1.1,p1.2.2.2.2.1.2.1,p1.2.2.2.2.1.2.2.1,p1.2.2.2.2.1.2.2.2.1,p1.2.2.2.2.1.2.2.2.2,p1.2.2.2.2.2.1.1,p1.2.2.2.2.2.1.2.1,p1.2.2.2.2.2.1.2.2.1,p1.2.2.2.2.2.1.2.2.2.1,p1.2.2.2.2.2.1.2.2.2.2,p1.2.2.2.2.2.2.1,p1.2.2.2.2.2.2.2.1,p1.2.2.2.2.2.2.2.2.1,p1.2.2.2.2.2.2.2.2.2.1,p1.2.2.2.2.2.2.2.2.2.2]) nag5 Z R R R (by omega) ex70 R,O.cv Tryz.underlying5 Tryz.underlying3 Z R R,O.faP y1T Z R R,O.ld nag3 Z R (.B R) R R,O.bi Z R R R R,O.rem Z R R (ycx z71) R,O.as Z R R,trivial⟩ (by kernel_rfl) R ?_
       refine .seqN (.seq (.reg (.mv R (.op (O.faP y1T Z R R) R (.op (O.ld nag3 Z R (.B R) R R) R (.bi R (.nil (.seqN ?_))))))))
       rcases ifS hm with ⟨hc,hm⟩ | ⟨hc,hm⟩
       ·refine .cT R hc ?_
        refine .sub (τ:=⟨[(8,.i ((W x70).tmod (W ((W (1 + (W (p1.1.tmod 5)))) + 2)))),(7,.i st61.1),(6,.i st40.1),(5,.q 0 0),(4,.q 4 0),(3,.q 5 0),(0,.f qI p0)],[(0,.bx 35 [lH 1,lI (W (1 + (W (p1.1.tmod 5)))),lH 2,lH 3]),(1,ROW qI 3 r2.1),(2,ROW qI 3 l45),(3,ROW qT 124 st61.2),(4,.bx 35 [lN,lI 0,lN,lN]),(5,.bx 26 (lx26 p1))],6⟩) ?_ [] R
        refine bS hm fun x72 ex72 hm=>bS hm fun x73 ex73 hm=>?_
        refine .drg 7 [(6,[]),(6,[oT]),(6,[]),(6,[]),(6,[]),(6,[oF,oF,oF,oT,oT]),(6,fA 3 (tT 3)),(6,[]),(6,fA 2 (tT 6)),(6,fA 2 (tT 7)),(6,tT 10),(7,tT 11),(7,tT 12)] [_,_,_,_,_,_,_,_,_,_,_,_,_] ⟨[(7,.i st61.1),(6,.i st40.1),(5,.q 0 0),(4,.q 4 0),(3,.q 5 0),(0,.f qI p0)],[(0,.bx 35 [lH 1,lI (W (1 + (W (p1.1.tmod 5)))),lH 2,lH 6]),(1,ROW qI 3 r2.1),(2,ROW qI 3 l45),(6,ROW qT 124 x73),(4,.bx 35 [lN,lI 0,lN,lN]),(5,.bx 26 (lx26 p1))],7⟩ ⟨O.faP y1h Z R R,O.ld nag33 Z R (.B R) R R,O.mv Z R R,O.mv Z R R,O.mv Z R R,O.ix sl32 Z R R ex72 R,O.ld nag3 Z R (.E lv3) R R,O.mv Z R R,O.bu (l:=[lI st40.1,lI x72,lI ((W x70).tmod (W ((W (1 + (W (p1.1.tmod 5)))) + 2)))]) pl124 R Z R R R,O.bsF (r:=qT) (zs:=([(st40.1,x72,((W x70).tmod (W ((W (1 + (W (p1.1.tmod 5)))) + 2))))]:List (Int×Int×Int))) bs33 R R Z R R R (.c (.p .k (.p .k .k)) .n) R R R,O.ap 6 Tryz.underlying33 el124 R R Z R R (.fr R) ex73 R,O.faP y1h Z R R,O.st nag33.sz Z R R R R R,trivial⟩ (by kernel_rfl) R ?_
        exact .blkN ((Jj67 _ hm).sub [(3,6)] R)
       ·refine .cF R hc ?_
        exact .skip (.blkN ((Jj67 _ hm).sub [] R))
     ·refine .cF R hc ?_
      exact .exit (.seqX (.seqX ((K63 _ (ho61 _ (oi hm).symm)).sub [] R)))
    ·intro J65
     rcases Bool.eq_false_or_eq_true (decide (st61.1 < (p0.length:Int))) with hc | hc
     ·refine .know (d:=44) R hc ?_
      exact .op (O.mv (Gu.mk R R) R R) R (.op (O.bi (Gu.mk R R) R R R R) R (.op (O.pkT Z R R R R) R ((J65 (decide (st61.1 < 5)) (andT hc).symm).sub [] R)))
     ·refine .know (d:=44) R hc ?_
      exact .sk R (.sk R (.op (O.pkF Z R R R R) R ((J65 false (andF hc).symm).sub [] R)))
   ·intro Jj46
    refine .seq (.reg (.op (O.faP yd8 Z R R) R (.op (O.ld nag5 Z R (.B R) R R) R (.mv R (bS hm fun _ z74 hm=> .op (O.shr Z R R (yar z74) R) R (.bi R (.bi R (.nil (.seqN ?_)))))))))
    rcases ifS hm with ⟨hc,hm⟩ | ⟨hc,hm⟩
    ·refine .cT R hc ?_
     exact .reg (.op (O.faP y3l Z R R) R (.op (O.ld nag32 Z R (.B R) R R) R (.mv R (.op (O.bsF (r:=qI) (zs:=([st40.1]:List Int)) bs32 R R Z R R R (.c .k .n) R R R) R (bS hm fun x75 ex75 hm=> .op (O.ap 6 Tryz.underlying32 el3 R R Z R R (.fr R) ex75 R) R (.op (O.faP y3l Z R R) R (.op (O.st nag32.sz Z R R R R R) R (.nil ((Jj46 _ hm).sub [(2,6)] R)))))))))
    ·refine .cF R hc ?_
     exact .skip ((Jj46 _ hm).sub [] R)
  ·refine .cF R hc ?_
   exact .exit (.seqX (.seqX ((K43 _ (ho40 _ (oi hm).symm)).sub [] R)))
def y2Y (p0:(Int×y1O)×(Int×y1O)×Int):Option (AutT×AutT×List Int):=
 (yU p0.1.1).bind fun r1=>
 (y2n r1 p0.1.2).bind fun r2=>
 (yU p0.2.1.1).bind fun r3=>
 (y2l r3 r2.1).bind fun r4=>
 (y2n r4 p0.2.1.2).bind fun r5=>
 (yU p0.2.2).bind fun r6=>
 some (r2,r5,r6)
theorem y6A {p0:(Int×y1O)×(Int×y1O)×Int} {r:AutT×AutT×List Int} (hm:y2Y p0=some r):
  Fw Tryz.prog 72 ⟨0,[]⟩ [.a (lx30 p0)] [] (.tp [.a [lH 0,lI r.1.2.1,lH 1,lH 2],.a [lH 3,lI r.2.1.2.1,lH 4,lH 5],.h 6]) [ROW qI 3 r.1.1,ROW qI 3 r.1.2.2.1,ROW qT 124 r.1.2.2.2,ROW qI 3 r.2.1.1,ROW qI 3 r.2.1.2.2.1,ROW qT 124 r.2.1.2.2.2,ROW qI 3 r.2.2]:=by
 unfold y2Y at hm
 refine Fw.mk' Tryz.func72 R Tryz.ntmps72 R R (fun C=>?_) R R
 refine .seq (.reg (.op (O.box 0 R Z R R R) R (.op (O.al 1 R zz35 R Z R) R (.op (O.al 2 R zz35 R Z R) R (.sa R (.nil (.seqN (.seq ?_))))))))
 refine .sub (τ:=⟨[(3,.q 2 0),(2,.q 1 0),(1,.q 0 0)],[(2,.bx 35 [lN,lI 0,lN,lN]),(1,.bx 35 [lN,lI 0,lN,lN]),(0,.bx 30 (lx30 p0))],3⟩) ?_ [] R
 refine bS hm fun r1 er1 hm=>bS hm fun r2 er2 hm=>?_
 refine .drg 7 [(3,[]),(3,[oT]),(3,[oT,oT]),(3,tT 3),(3,[]),(3,[oF,oF,oF,oF,oT]),(3,[oF,oF,oF,oF,oT,oT]),(4,tT 7),(7,tT 8)] [_,_,_,_,_,_,_,_,_] ⟨[(3,.q 2 0),(2,.q 1 0),(1,.q 0 0)],[(2,.bx 35 [lN,lI 0,lN,lN]),(1,.bx 35 [lH 4,lI r2.2.1,lH 5,lH 6]),(4,ROW qI 3 r2.1),(5,ROW qI 3 r2.2.2.1),(6,ROW qT 124 r2.2.2.2),(0,.bx 30 (lx30 p0))],7⟩ ⟨O.faP ybr Z R R,O.faP ybp Z R R,O.ld nag22 Z R (.B R) R R,O.ca (r':= .h 3) [3] [(0,ROW qI 3 r1)] (some 4) (y3i er1) cf144 R R Z R R R R ⟨⟨_,R,fun _ _ _ _ h=>h⟩,trivial⟩ (fun _ _ _ h=>h) R,O.faP ybr Z R R,O.faP ybq Z R R,O.lg (l':=(lx26 p0.1.2)) ag26 Z R (.B R) R R R,O.caY (r':= .g [lH 4,lI r2.2.1,lH 5,lH 6]) [4,5,6] [(0,ROW qI 3 r2.1),(1,ROW qI 3 r2.2.2.1),(2,ROW qT 124 r2.2.2.2)] (some 7) (y4R er2) cf143 R R Z R R ⟨⟨R,.hr R,trivial⟩,⟨R,LnL.rf⟩,trivial⟩ R ⟨.row flr3,.row flr3,.row y4a,trivial⟩ (fun _ _ _ _ h=>h) ⟨⟨_,R,fun _ _ _ _ h=>h⟩,⟨_,R,fun _ _ _ _ h=>h⟩,⟨_,R,fun _ _ _ _ h=>h⟩,trivial⟩ (fun _ _ _ h=>h) R,O.st ag35.sz Z R R R R R,trivial⟩ (by kernel_rfl) R ?_
 refine .seqN (.seq ?_)
 refine .sub (τ:=⟨[(3,.q 2 0),(2,.q 1 0),(1,.q 0 0)],[(2,.bx 35 [lN,lI 0,lN,lN]),(1,.bx 35 [lH 4,lI r2.2.1,lH 5,lH 6]),(4,ROW qI 3 r2.1),(5,ROW qI 3 r2.2.2.1),(6,ROW qT 124 r2.2.2.2),(0,.bx 30 (lx30 p0))],7⟩) ?_ [] R
 refine bS hm fun r3 er3 hm=>bS hm fun r4 er4 hm=>bS hm fun r5 er5 hm=>?_
 refine .drg 12 [(7,[]),(7,[oT]),(7,[oT,oT]),(7,tT 3),(7,[]),(7,[oF,oF,oF,oF,oT]),(8,tT 6),(7,[]),(7,[oF,oF,oF,oF,oF,oF,oF,oT]),(7,[oF,oF,oF,oF,oF,oF,oF,oT,oT]),(9,tT 10),(12,tT 11)] [_,_,_,_,_,_,_,_,_,_,_,_] ⟨[(3,.q 2 0),(2,.q 1 0),(1,.q 0 0)],[(2,.bx 35 [lH 9,lI r5.2.1,lH 10,lH 11]),(9,ROW qI 3 r5.1),(10,ROW qI 3 r5.2.2.1),(11,ROW qT 124 r5.2.2.2),(1,.bx 35 [lH 4,lI r2.2.1,lH 5,lH 6]),(4,ROW qI 3 r2.1),(5,ROW qI 3 r2.2.2.1),(6,ROW qT 124 r2.2.2.2),(0,.bx 30 (lx30 p0))],12⟩ ⟨O.faP ybs Z R R,O.faP ybp Z R R,O.ld nag22 Z R (.B R) R R,O.ca (r':= .h 7) [7] [(0,ROW qI 3 r3)] (some 8) (y3i er3) cf144 R R Z R R R R ⟨⟨_,R,fun _ _ _ _ h=>h⟩,trivial⟩ (fun _ _ _ h=>h) R,O.faP y1S Z R R,O.ld nag32 Z R (.B R) R R,O.caY (r':= .h 8) [8] [(0,ROW qI 3 r4)] (some 9) (y4O er4) cf145 R R Z R R ⟨⟨R,.hr R,trivial⟩,⟨R,.hr R,trivial⟩,trivial⟩ R ⟨.row flr3,trivial⟩ (fun _ _ _ _ h=>h) ⟨⟨_,R,fun _ _ _ _ h=>h⟩,trivial⟩ (fun _ _ _ h=>h) R,O.faP ybs Z R R,O.faP ybq Z R R,O.lg (l':=(lx26 p0.2.1.2)) ag26 Z R (.B R) R R R,O.caY (r':= .g [lH 9,lI r5.2.1,lH 10,lH 11]) [9,10,11] [(0,ROW qI 3 r5.1),(1,ROW qI 3 r5.2.2.1),(2,ROW qT 124 r5.2.2.2)] (some 12) (y4R er5) cf143 R R Z R R ⟨⟨R,.hr R,trivial⟩,⟨R,LnL.rf⟩,trivial⟩ R ⟨.row flr3,.row flr3,.row y4a,trivial⟩ (fun _ _ _ _ h=>h) ⟨⟨_,R,fun _ _ _ _ h=>h⟩,⟨_,R,fun _ _ _ _ h=>h⟩,⟨_,R,fun _ _ _ _ h=>h⟩,trivial⟩ (fun _ _ _ h=>h) R,O.st ag35.sz Z R R R R R,trivial⟩ (by kernel_rfl) R ?_
 refine .seqN (.seq ?_)
 refine .sub (τ:=⟨[(3,.q 2 0),(2,.q 1 0),(1,.q 0 0)],[(2,.bx 35 [lH 9,lI r5.2.1,lH 10,lH 11]),(9,ROW qI 3 r5.1),(10,ROW qI 3 r5.2.2.1),(11,ROW qT 124 r5.2.2.2),(1,.bx 35 [lH 4,lI r2.2.1,lH 5,lH 6]),(4,ROW qI 3 r2.1),(5,ROW qI 3 r2.2.2.1),(6,ROW qT 124 r2.2.2.2),(0,.bx 30 (lx30 p0))],12⟩) ?_ [] R
 refine bS hm fun r6 er6 hm=>?_
 refine .drd 13 [(12,[],[]),(12,[],[1]),(12,[],[]),(12,[oF,oF,oT],[]),(12,[oF,oF,oT,oT],[]),(13,[oT,oF,oT,oT,oT],[]),(13,[oT,oT,oT,oT,oT,oT],[]),(13,[oT,oT,oT,oT,oT,oT,oT],[])] [_,_,_,_,_,_,_,_] ⟨[(4,.h 12),(3,.q 2 0),(2,.q 1 0)],[(12,ROW qI 3 r6),(2,.bx 35 [lH 9,lI r5.2.1,lH 10,lH 11]),(9,ROW qI 3 r5.1),(10,ROW qI 3 r5.2.2.1),(11,ROW qT 124 r5.2.2.2),(1,.bx 35 [lH 4,lI r2.2.1,lH 5,lH 6]),(4,ROW qI 3 r2.1),(5,ROW qI 3 r2.2.2.1),(6,ROW qT 124 r2.2.2.2)],13⟩ ⟨O.lg (l':=[lH 4,lI r2.2.1,lH 5,lH 6]) ag35 Z R (.B R) R R R,O.lg (l':=[lH 9,lI r5.2.1,lH 10,lH 11]) ag35 Z R (.B R) R R R,O.faP yda Z R R,O.ld nag22 Z R (.B R) R R,O.ca (r':= .h 12) [12] [(0,ROW qI 3 r6)] (some 13) (y3i er6) cf144 R R Z R R R R ⟨⟨_,R,fun _ _ _ _ h=>h⟩,trivial⟩ (fun _ _ _ h=>h) R,O.st ag35.sz Z R R R R R,O.st ag35.sz Z R R R R R,O.as Z R R,trivial⟩ (by kernel_rfl) R ?_
 refine .seqN (.ret ?_)
 obtain rfl:=oi hm
 exact WX.rt [4,5,6,9,10,11,12] (.inl R) Tryz.results72 (.cell R R ag35 R (.cell R R ag35 R (.tmp R .nil))) R (fun _ _ _ h=>h) ⟨⟨_,R,fun _ _ _ _ h=>h⟩,⟨_,R,fun _ _ _ _ h=>h⟩,⟨_,R,fun _ _ _ _ h=>h⟩,⟨_,R,fun _ _ _ _ h=>h⟩,⟨_,R,fun _ _ _ _ h=>h⟩,⟨_,R,fun _ _ _ _ h=>h⟩,⟨_,R,fun _ _ _ _ h=>h⟩,trivial⟩
def y2t (p0:AutT) (p1:Int) (p2:Int) (st9:Int):Option (Int ⊕ (Unit ⊕ Int)):=
 if decide (st9 < (p0.2.2.2.length:Int)) then
  (idx p0.2.2.2 st9).bind fun x15=>
  (if (x15.1 == p1) then
   (idx p0.2.2.2 st9).bind fun x20=>
   some (x20.2.1 == p2)
  else
   some false).bind fun b16=>
  if b16 then
   (idx p0.2.2.2 st9).bind fun x19=>
   some (.inr (.inr (x19.2.2)))
  else
   some (.inl (W (st9 + 1)))
 else
  some (.inr (.inl ()))
def y1N (p0:AutT) (p1:Int) (p2:Int):Option Int:=
 (iter (y2t p0 p1 p2) 0).bind fun o9=>
 match o9 with
 | .inl u11=>
  some (-1)
 | .inr (u13)=>
  some u13
theorem y3V {p0:AutT} {p1:Int} {p2:Int} {r:Int} (hm:y1N p0 p1 p2=some r):
  Fw Tryz.prog 73 ⟨0,[]⟩ [.a [lF qI p0.1,lI p0.2.1,lF qI p0.2.2.1,lF qT p0.2.2.2],.i p1,.i p2] [] (.i r) []:=by
 unfold y1N at hm
 refine Fw.mk' Tryz.func73 R Tryz.ntmps73 R R (fun C=>?_) R R
 refine .seq (.reg (.op (O.box 0 R Z R R R) R (.sa R (.nil (.seqN (.seq (.seq (.reg (.sa R (.nil (.seqN (.block (bS hm fun o9 eo9 hm=>?_)))))))))))))
 refine .cutU (z:= .exit 0) (fun u11=> .inl u11=o9) (fun (u11:Unit)=>⟨[],[],0⟩) ?_ fun K12=>?_
 ·rintro u11 rfl
  dsimp only at hm
  refine .blkE (.seqN (.seq (.reg (.sa R (.nil (.seqN (.ret ?_)))))))
  obtain rfl:=oi hm
  exact WX.rt [] (.inl R) Tryz.results73 (.tmp R .nil) R (fun _ _ _ h=>h) trivial
 refine .cutU (z:= .ret) (fun u13=> .inr (u13)=o9) (fun (u13:Int)=>⟨[(6,.i u13)],[],0⟩) ?_ fun K14=>?_
 ·rintro u13 rfl
  dsimp only at hm
  refine .blkR (.seqR ?_)
  obtain rfl:=oi hm
  exact WX.rt [] (.inl R) Tryz.results73 (.tmp R .nil) R (fun _ _ _ h=>h) trivial
 refine .iter (fun (st9:Int)=>⟨[(7,.i st9),(3,.q 0 0),(1,.i p1),(2,.i p2)],[(0,.bx 35 [lF qI p0.1,lI p0.2.1,lF qI p0.2.2.1,lF qT p0.2.2.2])],1⟩) eo9 [] R ?_
 intro st9 res9 hm ih9 ho9
 unfold y2t at hm
 refine .seq (.seq (.reg (.mv R (.op (O.faP y1h Z R R) R (.op (O.ld nag33 Z R (.B R) R R) R (.op (O.len sl33 Z R R) R (.bi R (.nil (.seqN ?_)))))))))
 rcases ifS hm with ⟨hc,hm⟩ | ⟨hc,hm⟩
 ·refine .cT R hc ?_
  refine .skip (.seqN (.seq (.block (.seq (.reg (.op (O.faP y1h Z R R) R (.op (O.ld nag33 Z R (.B R) R R) R (.mv R (bS hm fun x15 ex15 hm=> .op (O.ix sl33 Z R R ex15 R) R (.op (O.faE y2j Z R R) R (.op (O.ld nag3 Z R (.E lv124) R R) R (.mv R (.bi R (.mv R (bS hm fun b16 eb16 hm=>?_)))))))))))))))
  refine .cut 9 (fun (v17:Bool)=>b16=v17) (fun v17=>⟨[(32,.b v17),(7,.i st9),(3,.q 0 0),(1,.i p1),(2,.i p2)],[(0,.bx 35 [lF qI p0.1,lI p0.2.1,lF qI p0.2.2.1,lF qT p0.2.2.2])],1⟩) ?_ ?_
  ·rintro _ rfl
   refine .nil (.seqN ?_)
   rcases ifS hm with ⟨hc,hm⟩ | ⟨hc,hm⟩
   ·refine .cT R hc ?_
    exact .seq (.reg (.op (O.faP y1h Z R R) R (.op (O.ld nag33 Z R (.B R) R R) R (.mv R (bS hm fun x19 ex19 hm=> .op (O.ix sl33 Z R R ex19 R) R (.op (O.faE y3g Z R R) R (.op (O.ld nag3 Z R (.E lv124) R R) R (.sa R (.nil (.seqN (.ret (.blkR (.seqR (.seqR ((K14 _ (ho9 _ (oi hm).symm)).sub [] R)))))))))))))))
   ·refine .cF R hc ?_
    exact .skip (.blkN (.seqN (.reg (.mv R (.bi R (.sa R (.nil ((ih9 _ (oi hm).symm).sub [] R))))))))
  ·intro J18
   rcases ifS eb16 with ⟨hc,hm⟩ | ⟨hc,hm⟩
   ·refine .know (d:=23) R hc ?_
    exact .op (O.faP y1h (Gu.mk R R) R R) R (.op (O.ld nag33 (Gu.mk R R) R (.B R) R R) R (.op (O.mv (Gu.mk R R) R R) R (bS hm fun x20 ex20 hm=> .op (O.ix sl33 (Gu.mk R R) R R ex20 R) R (.op (O.faE y3Z (Gu.mk R R) R R) R (.op (O.ld nag3 (Gu.mk R R) R (.E lv124) R R) R (.op (O.mv (Gu.mk R R) R R) R (.op (O.bi (Gu.mk R R) R R R R) R (.op (O.pkT Z R R R R) R ((J18 (x20.2.1 == p2) (oi hm).symm).sub [] R)))))))))
   ·refine .know (d:=23) R hc ?_
    exact .sk R (.sk R (.sk R (.sk R (.sk R (.sk R (.sk R (.sk R (.op (O.pkF Z R R R R) R ((J18 false (oi hm).symm).sub [] R)))))))))
 ·refine .cF R hc ?_
  exact .exit (.seqX (.seqX ((K12 _ (ho9 _ (oi hm).symm)).sub [] R)))
def y3v (p0:AutT) (p1:List Int) (p2:List Int):Option Int:=
 (y1t p0).bind fun r1=>
 if(r1 != 0) then
  some r1
 else
  (yT p1 p0.2.1).bind fun r2=>
  if(r2 != 0) then
   some r2
  else
   (yT p2 32).bind fun r3=>
   some r3
theorem y7t {p0:AutT} {p1:List Int} {p2:List Int} {r:Int} (hm:y3v p0 p1 p2=some r):
  Fw Tryz.prog 146 ⟨0,[]⟩ [.a [lF qI p0.1,lI p0.2.1,lF qI p0.2.2.1,lF qT p0.2.2.2],.f qI p1,.f qI p2] [] (.i r) []:=by
 unfold y3v at hm
 refine Fw.mk' Tryz.func146 R Tryz.ntmps146 R R (fun C=>?_) R R
 refine .seq (.reg (.op (O.box 0 R Z R R R) R (.sa R (.nil (.seqN (.seq (.seq (.reg (.op (O.lg (l':=[lF qI p0.1,lI p0.2.1,lF qI p0.2.2.1,lF qT p0.2.2.2]) ag35 Z R (.B R) R R R) R (bS hm fun r1 er1 hm=> .op (O.ca0 (y4k er1) cf101 R R Z R R R) R (.sa R (.nil (.seqN (.seq (.reg (.mv R (.bi R (.nil (.seqN ?_)))))))))))))))))))
 rcases ifS hm with ⟨hc,hm⟩ | ⟨hc,hm⟩
 ·refine .cT R hc ?_
  refine .seq (.reg (.mv R (.sa R (.nil (.seqN (.ret (.seqR ?_)))))))
  obtain rfl:=oi hm
  exact WX.rt [] (.inl R) Tryz.results146 (.tmp R .nil) R (fun _ _ _ h=>h) trivial
 ·refine .cF R hc ?_
  refine .skip (.seqN (.seq (.seq (.reg (.mv R (.op (O.faP y1T Z R R) R (.op (O.ld nag3 Z R (.B R) R R) R (bS hm fun r2 er2 hm=> .op (O.ca0 (y2F er2) cf25 R R Z R R R) R (.sa R (.nil (.seqN (.seq (.reg (.mv R (.bi R (.nil (.seqN ?_)))))))))))))))))
  rcases ifS hm with ⟨hc,hm⟩ | ⟨hc,hm⟩
  ·refine .cT R hc ?_
   refine .seq (.reg (.mv R (.sa R (.nil (.seqN (.ret (.seqR ?_)))))))
   obtain rfl:=oi hm
   exact WX.rt [] (.inl R) Tryz.results146 (.tmp R .nil) R (fun _ _ _ h=>h) trivial
  ·refine .cF R hc ?_
   refine .skip (.seqN (.seq (.reg (.mv R (bS hm fun r3 er3 hm=> .op (O.ca0 (y2F er3) cf25 R R Z R R R) R (.sa R (.nil (.seqN (.ret ?_)))))))))
   obtain rfl:=oi hm
   exact WX.rt [] (.inl R) Tryz.results146 (.tmp R .nil) R (fun _ _ _ h=>h) trivial
def y2Z (p0:AutT) (st27:Int×(List (Int×List Int))):Option ((Int×(List (Int×List Int))) ⊕ (List (Int×List Int))):=
 if decide (st27.1 < (p0.2.2.2.length:Int)) then
  (idx p0.2.2.2 st27.1).bind fun x30=>
  (app ((kget st27.2 x30.2.2).getD []) ([x30.1]:List Int)).bind fun x31=>
  some (.inl (W (st27.1 + 1),(kput st27.2 x30.2.2 x31)))
 else
  some (.inr st27.2)
def y3a (p1:List Int) (st18:Int×List Bool):Option ((Int×List Bool) ⊕ (List Bool)):=
 if decide (st18.1 < (p1.length:Int)) then
  (idx p1 st18.1).bind fun x32=>
  (idx st18.2 x32).bind fun x33=>
  (upd st18.2 x32 false).bind fun x34=>
  some (.inl (W (st18.1 + 1),x34))
 else
  some (.inr st18.2)
def y2o (x1:List Bool) (st8:Int×List Bool):Option ((Int×List Bool) ⊕ (List Bool)):=
 if decide (st8.1 < (x1.length:Int)) then
  (idx st8.2 st8.1).bind fun x35=>
  (upd st8.2 st8.1 true).bind fun x36=>
  some (.inl (W (st8.1 + 1),x36))
 else
  some (.inr st8.2)
def y3w (p0:AutT) (p1:List Int) (p2:List Int):Option (AutT×List Int×(List (Int×List Int))×List Bool):=
 (mkL p0.2.1 false).bind fun x1=>
 (iter (y2o x1) (0,x1)).bind fun o8=>
 (iter (y3a p1) (0,o8)).bind fun o18=>
 (iter (y2Z p0) (0,([]:List (Int×List Int)))).bind fun o27=>
 some (p0,p2,o27,o18)
theorem y7u {p0:AutT} {p1:List Int} {p2:List Int} {r:(AutT×List Int×(List (Int×List Int))×List Bool)} (hm:y3w p0 p1 p2=some r):
  Fw Tryz.prog 197 ⟨0,[]⟩ [.a [lF qI p0.1,lI p0.2.1,lF qI p0.2.2.1,lF qT p0.2.2.2],.f qI p1,.f qI p2] [] (.q 0 0) [.bx 289 [lF qI r.1.1,lI r.1.2.1,lF qI r.1.2.2.1,lF qT r.1.2.2.2,lF qI r.2.1,lM kvI (rL qI) r.2.2.1,lH 1],ROW rB 4 r.2.2.2]:=by
 unfold y3w at hm
 refine Fw.mk' Tryz.func197 R Tryz.ntmps197 R R (fun C=>?_) R R
 refine .seq (.reg (.op (O.box 0 R Z R R R) R (.sa R (.nil (.seqN (.seq ?_))))))
 refine .sub (τ:=⟨[(3,.q 0 0),(1,.f qI p1),(2,.f qI p2)],[(0,.bx 35 [lF qI p0.1,lI p0.2.1,lF qI p0.2.2.1,lF qT p0.2.2.2])],1⟩) ?_ [] R
 refine bS hm fun x1 ex1 hm=>?_
 refine .drw [(1,[]),(1,[]),(1,[]),(1,[]),(1,[oF,oF,oF,oT]),(1,[oF,oF,oF,oT,oT]),(3,tT 6),(3,tT 7),(4,tT 8)] [_,_,_,_,_,_,_,_,_] ⟨[(7,.q 3 0),(3,.q 0 0),(1,.f qI p1)],[(3,.bx 289 [lF qI p0.1,lI p0.2.1,lF qI p0.2.2.1,lF qT p0.2.2.2,lF qI p2,lH 1,lH 2]),(1,MTB flr3 3 none ([]:List (Int×List Int))),(2,ROW rB 4 x1),(0,.bx 35 [lF qI p0.1,lI p0.2.1,lF qI p0.2.2.1,lF qT p0.2.2.2])],4⟩ ⟨O.lg (l':=[lF qI p0.1,lI p0.2.1,lF qI p0.2.2.1,lF qT p0.2.2.2]) ag35 Z R (.B R) R R R,O.mv Z R R,O.mkM flr3 3 1 R Z R,O.faP y1T Z R R,O.ld nag3 Z R (.B R) R R,O.mk (z:=false) 2 Tryz.underlying144 zr4 R R Z R R ex1 R,O.bu (l:=[lF qI p0.1,lI p0.2.1,lF qI p0.2.2.1,lF qT p0.2.2.2,lF qI p2,lH 1,lH 2]) pl289 R Z R R R,O.box 3 R Z R R R,O.as Z R R,trivial⟩ (by kernel_rfl) R ?_
 refine .seqN (.seq (.seq (.reg (.mv R (.op (O.nc .B Z R R) R (.op (O.faP y3L Z R R) R (.op (O.ld y4g Z R (.B R) R R) R (.op (O.lenH sl144 Z R R R) R (.mv R (.nil (.seqN (.block (bS hm fun o8 eo8 hm=>?_)))))))))))))
 refine .cut1 (z:= .exit 0) o8 (fun (o8:List Bool)=>⟨[(7,.q 0 0),(3,.q 3 0),(1,.f qI p1)],[(0,.bx 289 [lF qI p0.1,lI p0.2.1,lF qI p0.2.2.1,lF qT p0.2.2.2,lF qI p2,lH 1,lH 2]),(1,MTB flr3 3 none ([]:List (Int×List Int))),(2,ROW rB 4 o8),(3,.bx 35 [lF qI p0.1,lI p0.2.1,lF qI p0.2.2.1,lF qT p0.2.2.2])],4⟩) ?_ fun K10=>?_
 ·skip
  refine .blkE (.seqN (.seq (.seq (.reg (.mv R (.op (O.len sl32 Z R R) R (.mv R (.nil (.seqN (.block (bS hm fun o18 eo18 hm=>?_)))))))))))
  refine .cut1 (z:= .exit 2) o18 (fun (o18:List Bool)=>⟨[(7,.q 0 0),(3,.q 3 0)],[(0,.bx 289 [lF qI p0.1,lI p0.2.1,lF qI p0.2.2.1,lF qT p0.2.2.2,lF qI p2,lH 1,lH 2]),(1,MTB flr3 3 none ([]:List (Int×List Int))),(2,ROW rB 4 o18),(3,.bx 35 [lF qI p0.1,lI p0.2.1,lF qI p0.2.2.1,lF qT p0.2.2.2])],4⟩) ?_ fun K20=>?_
  ·skip
   refine .blkE (.seqN (.seq (.seq (.reg (.op (O.faP y1h Z R R) R (.op (O.ld nag33 Z R (.B R) R R) R (.op (O.len sl33 Z R R) R (.mv R (.nil (.seqN (.block (bS hm fun o27 eo27 hm=>?_))))))))))))
   refine .cut1 (z:= .exit 4) o27 (fun (o27:(List (Int×List Int)))=>⟨[(7,.q 0 0)],[(0,.bx 289 [lF qI p0.1,lI p0.2.1,lF qI p0.2.2.1,lF qT p0.2.2.2,lF qI p2,lH 1,lH 2]),(1,MTB flr3 3 none o27),(2,ROW rB 4 o18)],3⟩) ?_ fun K29=>?_
   ·skip
    refine .blkE (.seqN (.seq (.reg (.mv R (.sa R (.nil (.seqN (.ret (.fz 1 [] [0] R R fMt R R ?_)))))))))
    obtain rfl:=oi hm
    exact WX.rt [0,2] (.inl R) Tryz.results197 (.tmp R .nil) R (fun _ _ _ h=>h) ⟨⟨_,R,fun _ _ _ _ h=>h⟩,⟨_,R,fun _ _ _ _ h=>h⟩,trivial⟩
   refine .iter (fun (st27:Int×(List (Int×List Int)))=>⟨[(52,.i st27.1),(51,.i (p0.2.2.2.length:Int)),(50,.f qT p0.2.2.2),(7,.q 0 0)],[(0,.bx 289 [lF qI p0.1,lI p0.2.1,lF qI p0.2.2.1,lF qT p0.2.2.2,lF qI p2,lH 1,lH 2]),(1,MTB flr3 3 none st27.2),(2,ROW rB 4 o18)],3⟩) eo27 [] R ?_
   intro st27 res27 hm ih27 ho27
   unfold y2Z at hm
   refine .seq (.reg (.bi R (.nil (.seqN (.seq ?_)))))
   rcases ifS hm with ⟨hc,hm⟩ | ⟨hc,hm⟩
   ·refine .cT R hc ?_
    refine .skip (.seqN (.seq (.block (.seq (.reg (bS hm fun x30 ex30 hm=> .op (O.ix sl33 Z R R ex30 R) R (.op (O.lg (l':=[lI x30.1,lI x30.2.1,lI x30.2.2]) ag124 Z R (.E lv124) R R R) R (.op (O.al 3 R zz124 R Z R) R (.op (O.st ag124.sz Z R R R R R) R (.nil (.seqN ?_)))))))))))
    refine .sub (τ:=⟨[(12,.q 3 0),(52,.i st27.1),(51,.i (p0.2.2.2.length:Int)),(50,.f qT p0.2.2.2),(7,.q 0 0)],[(3,.bx 124 [lI x30.1,lI x30.2.1,lI x30.2.2]),(0,.bx 289 [lF qI p0.1,lI p0.2.1,lF qI p0.2.2.1,lF qT p0.2.2.2,lF qI p2,lH 1,lH 2]),(1,MTB flr3 3 none st27.2),(2,ROW rB 4 o18)],4⟩) ?_ [] R
    refine bS hm fun x31 ex31 hm=>?_
    refine .drz 6 [(12,1),(12,4),(16,5)] [(4,[],[1],[]),(4,[oT],[1],[]),(4,[oT,oT],[1],[]),(4,[oT,oT,oT],[1],[]),(4,[],[1],[]),(4,[oF,oF,oF,oF,oT],[1],[]),(4,[],[],[]),(4,[oF,oF,oF,oF,oF,oF,oT],[],[]),(4,[oF,oF,oF,oF,oF,oF,oT,oT],[],[]),(4,[oF,oF,oF,oF,oF,oF,oT,oT,oT],[],[]),(4,[],[],[]),(4,[oF,oF,oF,oF,oF,oF,oF,oF,oF,oF,oT],[],[]),(4,[oF,oF,oF,oF,oF,oF,oT,oT,oT,oT,oT,oT],[],[]),(4,[],[1],[]),(4,[oF,oF,oF,oF,oF,oF,oF,oF,oF,oF,oF,oF,oF,oT],[1],[]),(4,[oF,oF,oF,oF,oF,oF,oF,oF,oF,oF,oF,oF,oF,oT,oT],[1],[]),(5,[oF,oF,oF,oF,oF,oF,oT,oT,oT,oT,oT,oT,oT,oT,oT,oT],[],[]),(6,[oT,oT,oT,oT,oT,oT,oT,oT,oT,oT,oT,oT,oT,oT,oT,oT,oT],[],[(12,4)])] [_,_,_,_,_,_,_,_,_,_,_,_,_,_,_,_,_,_] ⟨[(52,.i st27.1),(51,.i (p0.2.2.2.length:Int)),(50,.f qT p0.2.2.2),(7,.q 0 0)],[(0,.bx 289 [lF qI p0.1,lI p0.2.1,lF qI p0.2.2.1,lF qT p0.2.2.2,lF qI p2,lH 1,lH 2]),(1,MTB flr3 3 none (kput st27.2 x30.2.2 x31)),(2,ROW rB 4 o18)],6⟩ ⟨O.mv Z R R,O.nc .B Z R R,O.faP y9j Z R R,O.ld ya4 Z R (.B R) R R,O.faP y3g Z R R,O.ld nag3 Z R (.B R) R R,O.mv Z R R,O.nc .B Z R R,O.faP y9j Z R R,O.ld ya4 Z R (.B R) R R,O.faP y3g Z R R,O.ld nag3 Z R (.B R) R R,O.luM (k:=x30.2.2) 4 ybt R Z R R (.o R) R,O.faP y2j Z R R,O.ld nag3 Z R (.B R) R R,O.bsF (r:=qI) (zs:=([x30.1]:List Int)) bs32 R R Z R R R (.c .k .n) R R R,O.ap 5 Tryz.underlying32 el3 R R Z R R (.fr R) ex31 R,O.muM (k:=x30.2.2) ybt Z R R (.o R) R R R (fun _ e=>by cases e;rfl),trivial⟩ (by kernel_rfl) R ?_
    exact .blkN (.seqN (.reg (.bi R (.mv R (.nil ((ih27 _ (oi hm).symm).sub [] R))))))
   ·refine .cF R hc ?_
    exact .exit (.seqX (.seqX ((K29 _ (ho27 _ (oi hm).symm)).sub [] R)))
  refine .iter (fun (st18:Int×List Bool)=>⟨[(38,.i st18.1),(37,.i (p1.length:Int)),(36,.f qI p1),(7,.q 0 0),(3,.q 3 0)],[(0,.bx 289 [lF qI p0.1,lI p0.2.1,lF qI p0.2.2.1,lF qT p0.2.2.2,lF qI p2,lH 1,lH 2]),(1,MTB flr3 3 none ([]:List (Int×List Int))),(2,ROW rB 4 st18.2),(3,.bx 35 [lF qI p0.1,lI p0.2.1,lF qI p0.2.2.1,lF qT p0.2.2.2])],4⟩) eo18 [] R ?_
  intro st18 res18 hm ih18 ho18
  unfold y3a at hm
  refine .seq (.reg (.bi R (.nil (.seqN (.seq ?_)))))
  rcases ifS hm with ⟨hc,hm⟩ | ⟨hc,hm⟩
  ·refine .cT R hc ?_
   exact .skip (.seqN (.seq (.block (.seq (.reg (bS hm fun x32 ex32 hm=> .op (O.ix sl32 Z R R ex32 R) R (.op (O.ld nag3 Z R (.E lv3) R R) R (.sa R (.nil (.seqN (.reg (.mv R (.op (O.nc .B Z R R) R (.op (O.faP y3L Z R R) R (.op (O.ld y4g Z R (.B R) R R) R (.mv R (bS hm fun x33 ex33 hm=> .op (O.ir sl144 Z R R R ex33 R) R (bS hm fun x34 ex34 hm=> .op (O.su (z:=false) nag4.sz Z R R ex33 ex34 R R R lv4 R .b) R (.nil (.blkN (.seqN (.reg (.bi R (.mv R (.nil ((ih18 _ (oi hm).symm).sub [] R))))))))))))))))))))))))))
  ·refine .cF R hc ?_
   exact .exit (.seqX (.seqX ((K20 _ (ho18 _ (oi hm).symm)).sub [] R)))
 refine .iter (fun (st8:Int×List Bool)=>⟨[(26,.i st8.1),(25,.i (x1.length:Int)),(7,.q 0 0),(3,.q 3 0),(1,.f qI p1)],[(0,.bx 289 [lF qI p0.1,lI p0.2.1,lF qI p0.2.2.1,lF qT p0.2.2.2,lF qI p2,lH 1,lH 2]),(1,MTB flr3 3 none ([]:List (Int×List Int))),(2,ROW rB 4 st8.2),(3,.bx 35 [lF qI p0.1,lI p0.2.1,lF qI p0.2.2.1,lF qT p0.2.2.2])],4⟩) eo8 [(0,3),(3,0)] R ?_
 intro st8 res8 hm ih8 ho8
 unfold y2o at hm
 refine .seq (.reg (.bi R (.nil (.seqN (.seq ?_)))))
 rcases ifS hm with ⟨hc,hm⟩ | ⟨hc,hm⟩
 ·refine .cT R hc ?_
  exact .skip (.seqN (.seq (.block (.seq (.reg (.mv R (.sa R (.nil (.seqN (.reg (.mv R (.op (O.nc .B Z R R) R (.op (O.faP y3L Z R R) R (.op (O.ld y4g Z R (.B R) R R) R (.mv R (bS hm fun x35 ex35 hm=> .op (O.ir sl144 Z R R R ex35 R) R (bS hm fun x36 ex36 hm=> .op (O.su (z:=true) nag4.sz Z R R ex35 ex36 R R R lv4 R .b) R (.nil (.blkN (.seqN (.reg (.bi R (.mv R (.nil ((ih8 _ (oi hm).symm).sub [] R)))))))))))))))))))))))))
 ·refine .cF R hc ?_
  exact .exit (.seqX (.seqX ((K10 _ (ho8 _ (oi hm).symm)).sub [] R)))
def yR (st23:Int×(List (Int×Int×Int×Int))) (l26:List (Int×Int×Int×Int)):Option ((Int×(List (Int×Int×Int×Int))) ⊕ (List (Int×Int×Int×Int))):=
 some (.inl (W (st23.1 + 1),l26))
def y1d (p1:Int) (st23:Int×(List (Int×Int×Int×Int))) (x28:Int×Int×Int) (b31:Bool):Option ((Int×(List (Int×Int×Int×Int))) ⊕ (List (Int×Int×Int×Int))):=
 if b31 then
  yR st23 st23.2
 else
  (app st23.2 ([(x28.1,p1,2,x28.2.1)]:List (Int×Int×Int×Int))).bind fun x33=>
  yR st23 x33
def yu (p1:Int) (st23:Int×(List (Int×Int×Int×Int))) (x28:Int×Int×Int) (b29:Bool):Option ((Int×(List (Int×Int×Int×Int))) ⊕ (List (Int×Int×Int×Int))):=
 if b29 then
  yR st23 st23.2
 else
  if decide ((st23.2.length:Int) > 0) then
   (idx st23.2 (W ((st23.2.length:Int) - 1))).bind fun x36=>
   y1d p1 st23 x28 (x36.1 == x28.1)
  else
   y1d p1 st23 x28 false
def y1H (p0:AutT×List Int×(List (Int×List Int))×List Bool) (p1:Int) (st23:Int×(List (Int×Int×Int×Int))):Option ((Int×(List (Int×Int×Int×Int))) ⊕ (List (Int×Int×Int×Int))):=
 if decide (st23.1 < (p0.1.2.2.2.length:Int)) then
  (idx p0.1.2.2.2 st23.1).bind fun x28=>
  (idx p0.2.2.2 x28.1).bind fun x37=>
  if(!x37) then
   yu p1 st23 x28 true
  else
   (idx p0.2.2.2 x28.2.2).bind fun x40=>
   if x40 then
    yu p1 st23 x28 true
   else
    (yx p0.2.1 x28.2.1).bind fun r43=>
    yu p1 st23 x28 (!r43)
 else
  some (.inr st23.2)
def y2g (p0:AutT×List Int×(List (Int×List Int))×List Bool) (p1:Int):Option (List (Int×Int×Int×Int)):=
 (iter (y1H p0 p1) (0,([]:List (Int×Int×Int×Int)))).bind fun o23=>
 some o23
theorem y5K {p0:AutT×List Int×(List (Int×List Int))×List Bool} {p1:Int} {r:(List (Int×Int×Int×Int))} (hm:y2g p0 p1=some r):
  Fw Tryz.prog 231 ⟨0,[]⟩ [.o (lQ 289 [lF qI p0.1.1,lI p0.1.2.1,lF qI p0.1.2.2.1,lF qT p0.1.2.2.2,lF qI p0.2.1,lM kvI (rL qI) p0.2.2.1,lF rB p0.2.2.2] 0),.i p1] [] (.h 0) [ROW rE286 286 r]:=by
 unfold y2g at hm
 refine Fw.mk' Tryz.func231 R Tryz.ntmps231 R R (fun C=>?_) R R
 refine .seq (.reg (.sa R (.nil (.seqN (.seq (.reg (.sa R (.nil (.seqN (.seq (.seq (.reg (.mv R (.op (O.nc .Q Z R R) R (.op (O.faQ y4Z Z R R) R (.op (O.faQ y1h Z R R) R (.op (O.ld nag33 Z R .Q R R) R (.op (O.len sl33 Z R R) R (.mv R (.nil (.seqN (.block (bS hm fun o23 eo23 hm=>?_)))))))))))))))))))))))
 refine .cut1 (z:= .exit 0) o23 (fun (o23:(List (Int×Int×Int×Int)))=>⟨[(5,.h 0)],[(0,ROW rE286 286 o23)],1⟩) ?_ fun K25=>?_
 ·skip
  refine .blkE (.seqN (.seq (.reg (.mv R (.sa R (.nil (.seqN (.ret ?_))))))))
  obtain rfl:=oi hm
  exact WX.rt [0] (.inl R) Tryz.results231 (.tmp R .nil) R (fun _ _ _ h=>h) ⟨⟨_,R,fun _ _ _ _ h=>h⟩,trivial⟩
 refine .nlg rE286 286 5 0 R R (.iter (fun (st23:Int×(List (Int×Int×Int×Int)))=>⟨[(15,.i st23.1),(14,.i (p0.1.2.2.2.length:Int)),(13,.f qT p0.1.2.2.2),(5,.h 0),(0,.o (lQ 289 [lF qI p0.1.1,lI p0.1.2.1,lF qI p0.1.2.2.1,lF qT p0.1.2.2.2,lF qI p0.2.1,lM kvI (rL qI) p0.2.2.1,lF rB p0.2.2.2] 0)),(1,.i p1)],[(0,ROW rE286 286 st23.2)],1⟩) eo23 [] R ?_)
 intro st23 res23 hm ih23 ho23
 unfold y1H at hm
 refine .seq (.reg (.bi R (.nil (.seqN (.seq ?_)))))
 rcases ifS hm with ⟨hc,hm⟩ | ⟨hc,hm⟩
 ·refine .cT R hc ?_
  refine .skip (.seqN ?_)
  refine .join1 (fun (l26:List (Int×Int×Int×Int))=>yR st23 l26=some res23) (fun l26=>⟨[(15,.i st23.1),(14,.i (p0.1.2.2.2.length:Int)),(13,.f qT p0.1.2.2.2),(5,.h 0),(0,.o (lQ 289 [lF qI p0.1.1,lI p0.1.2.1,lF qI p0.1.2.2.1,lF qT p0.1.2.2.2,lF qI p0.2.1,lM kvI (rL qI) p0.2.2.1,lF rB p0.2.2.2] 0)),(1,.i p1)],[(0,ROW rE286 286 l26)],1⟩) ?_ ?_
  ·intro l26 hm
   unfold yR at hm
   exact .reg (.bi R (.mv R (.nil ((ih23 _ (oi hm).symm).sub [] R))))
  ·intro Jj27
   refine .block (.seq (.reg (bS hm fun x28 ex28 hm=> .op (O.ix sl33 Z R R ex28 R) R (.op (O.lg (l':=[lI x28.1,lI x28.2.1,lI x28.2.2]) ag124 Z R (.E lv124) R R R) R (.op (O.al 1 R zz124 R Z R) R (.op (O.st ag124.sz Z R R R R R) R (.nil (.seqN (.seq ?_)))))))))
   refine .join1 (fun (b29:Bool)=>yu p1 st23 x28 b29=some res23) (fun b29=>⟨[(47,.b b29),(7,.q 0 0),(15,.i st23.1),(14,.i (p0.1.2.2.2.length:Int)),(13,.f qT p0.1.2.2.2),(5,.h 1),(0,.o (lQ 289 [lF qI p0.1.1,lI p0.1.2.1,lF qI p0.1.2.2.1,lF qT p0.1.2.2.2,lF qI p0.2.1,lM kvI (rL qI) p0.2.2.1,lF rB p0.2.2.2] 0)),(1,.i p1)],[(0,.bx 124 [lI x28.1,lI x28.2.1,lI x28.2.2]),(1,ROW rE286 286 st23.2)],2⟩) ?_ ?_
   ·intro b29 hm
    unfold yu at hm
    rcases ifS hm with ⟨hc,hm⟩ | ⟨hc,hm⟩
    ·refine .cT R hc ?_
     exact .exit (.seqX (.blkE ((Jj27 _ hm).sub [(0,1)] R)))
    ·refine .cF R hc ?_
     refine .skip (.seqN (.seq (.seq (.reg (.mv R (.op (O.lenH sl127 Z R R R) R (.sa R (.nil (.seqN ?_)))))))))
     refine .join1 (fun (b31:Bool)=>y1d p1 st23 x28 b31=some res23) (fun b31=>⟨[(62,.b b31),(7,.q 0 0),(15,.i st23.1),(14,.i (p0.1.2.2.2.length:Int)),(13,.f qT p0.1.2.2.2),(5,.h 1),(0,.o (lQ 289 [lF qI p0.1.1,lI p0.1.2.1,lF qI p0.1.2.2.1,lF qT p0.1.2.2.2,lF qI p0.2.1,lM kvI (rL qI) p0.2.2.1,lF rB p0.2.2.2] 0)),(1,.i p1)],[(0,.bx 124 [lI x28.1,lI x28.2.1,lI x28.2.2]),(1,ROW rE286 286 st23.2)],2⟩) ?_ ?_
     ·intro b31 hm
      unfold y1d at hm
      rcases ifS hm with ⟨hc,hm⟩ | ⟨hc,hm⟩
      ·refine .cT R hc ?_
       exact .exit (.seqX (.blkE ((Jj27 _ hm).sub [(0,1)] R)))
      ·refine .cF R hc ?_
       exact .skip (.seqN (.reg (.mv R (.op (O.faP y2j Z R R) R (.op (O.ld nag3 Z R (.B R) R R) R (.mv R (.op (O.faP y3Z Z R R) R (.op (O.ld nag3 Z R (.B R) R R) R (.op (O.bu (l:=[lI x28.1,lI p1,lI 2,lI x28.2.1]) pl286 R Z R R R) R (.op (O.bsF (r:=rE286) (zs:=([(x28.1,p1,2,x28.2.1)]:List (Int×Int×Int×Int))) bs127 R R Z R R R (.c (.p .k (.p .k (.p .k .k))) .n) R R R) R (bS hm fun x33 ex33 hm=> .op (O.ap 2 Tryz.underlying127 el286 R R Z R R (.fr R) ex33 R) R (.sa R (.nil (.blkN ((Jj27 _ hm).sub [(0,2)] R)))))))))))))))
     ·intro Jj32
      refine .sub (τ:=⟨[(8,.i (st23.2.length:Int)),(7,.q 0 0),(15,.i st23.1),(14,.i (p0.1.2.2.2.length:Int)),(13,.f qT p0.1.2.2.2),(5,.h 1),(0,.o (lQ 289 [lF qI p0.1.1,lI p0.1.2.1,lF qI p0.1.2.2.1,lF qT p0.1.2.2.2,lF qI p0.2.1,lM kvI (rL qI) p0.2.2.1,lF rB p0.2.2.2] 0)),(1,.i p1)],[(0,.bx 124 [lI x28.1,lI x28.2.1,lI x28.2.2]),(1,ROW rE286 286 st23.2)],2⟩) ?_ [] R
      refine .drP 2 [(2,[]),(2,[oT])] [_,_] ⟨O.mv Z R R,O.bi Z R R R R,trivial⟩ fun hp34=>?_
      rcases ifS hm with ⟨hc35,hm⟩ | ⟨hc35,hm⟩
      ·skip
       exact bS hm fun x36 ex36 hm=> .drF hp34 [(2,[oT,oT]),(2,tT 3),(2,tT 3),(2,tA 3 (fA 1 (tT 1))),(2,tT 6),(2,tT 7),(2,tT 8),(2,tT 3),(2,tA 3 (fA 6 (tT 1))),(2,tT 11),(2,tT 12)] [_,_,_,_,_,_,_,_,_,_,_] ⟨[(62,.b (x36.1 == x28.1)),(7,.q 0 0),(15,.i st23.1),(14,.i (p0.1.2.2.2.length:Int)),(13,.f qT p0.1.2.2.2),(5,.h 1),(0,.o (lQ 289 [lF qI p0.1.1,lI p0.1.2.1,lF qI p0.1.2.2.1,lF qT p0.1.2.2.2,lF qI p0.2.1,lM kvI (rL qI) p0.2.2.1,lF rB p0.2.2.2] 0)),(1,.i p1)],[(0,.bx 124 [lI x28.1,lI x28.2.1,lI x28.2.2]),(1,ROW rE286 286 st23.2)],2⟩ ⟨O.kn (O.mv Z R R) hc35,O.mv (Gu.mk R R) R R,O.mv (Gu.mk R R) R R,O.bi (Gu.mk R R) R R R R,O.ir sl127 (Gu.mk R R) R R R ex36 R,O.faR yaD (Gu.mk R R) R R,O.ld nag3 (Gu.mk R R) R (.R R ex36 lv286) R R,O.faP y2j (Gu.mk R R) R R,O.ld nag3 (Gu.mk R R) R (.B R) R R,O.bi (Gu.mk R R) R R R R,O.pkT Z R R R R,trivial⟩ (by kernel_rfl) R ((Jj32 _ hm).sub [] R)
      ·skip
       exact .drF hp34 [(2,[oT,oT]),(2,tT 3),(2,tT 3),(2,tA 3 (fA 1 (tT 1))),(2,tT 6),(2,tT 7),(2,tT 8),(2,tT 3),(2,tA 3 (fA 6 (tT 1))),(2,tT 11),(2,tT 12)] [_,_,_,_,_,_,_,_,_,_,_] ⟨[(62,.b false),(7,.q 0 0),(15,.i st23.1),(14,.i (p0.1.2.2.2.length:Int)),(13,.f qT p0.1.2.2.2),(5,.h 1),(0,.o (lQ 289 [lF qI p0.1.1,lI p0.1.2.1,lF qI p0.1.2.2.1,lF qT p0.1.2.2.2,lF qI p0.2.1,lM kvI (rL qI) p0.2.2.1,lF rB p0.2.2.2] 0)),(1,.i p1)],[(0,.bx 124 [lI x28.1,lI x28.2.1,lI x28.2.2]),(1,ROW rE286 286 st23.2)],2⟩ ⟨O.kn (O.mv Z R R) hc35,O.skip R R R R,O.skip R R R R,O.skip R R R R,O.skip R R R R,O.skip R R R R,O.skip R R R R,O.skip R R R R,O.skip R R R R,O.skip R R R R,O.pkF Z R R R R,trivial⟩ (by kernel_rfl) R ((Jj32 _ hm).sub [] R)
   ·intro Jj30
    refine .sub (τ:=⟨[(7,.q 1 0),(15,.i st23.1),(14,.i (p0.1.2.2.2.length:Int)),(13,.f qT p0.1.2.2.2),(5,.h 0),(0,.o (lQ 289 [lF qI p0.1.1,lI p0.1.2.1,lF qI p0.1.2.2.1,lF qT p0.1.2.2.2,lF qI p0.2.1,lM kvI (rL qI) p0.2.2.1,lF rB p0.2.2.2] 0)),(1,.i p1)],[(1,.bx 124 [lI x28.1,lI x28.2.1,lI x28.2.2]),(0,ROW rE286 286 st23.2)],2⟩) ?_ [] R
    refine bS hm fun x37 ex37 hm=> .drP 9 [(2,[]),(2,[oT]),(2,[oT,oT]),(2,tT 3),(2,[]),(2,[oF,oF,oF,oF,oT]),(2,tT 6),(2,tT 7),(2,tT 8)] [_,_,_,_,_,_,_,_,_] ⟨O.mv Z R R,O.nc .Q Z R R,O.faQ y3L Z R R,O.ld y4g Z R .Q R R,O.faP y2j Z R R,O.ld nag3 Z R (.B R) R R,O.ix sl144 Z R R ex37 R,O.ld nag4 Z R (.E lv4) R R,O.not Z R R,trivial⟩ fun hp38=>?_
    rcases ifS hm with ⟨hc39,hm⟩ | ⟨hc39,hm⟩
    ·skip
     exact .drF hp38 [(2,tT 9),(2,tT 10),(2,tT 11),(2,tT 12),(2,tT 13),(2,tT 10),(2,tA 10 (fA 4 (tT 1))),(2,tT 16),(2,tT 17),(2,tT 18),(2,tT 19),(2,tT 20),(2,tT 21),(2,tT 22),(2,tT 23),(2,tT 20),(2,tA 20 (fA 4 (tT 1))),(2,tT 26),(2,tT 27),(2,tT 28)] [_,_,_,_,_,_,_,_,_,_,_,_,_,_,_,_,_,_,_,_] ⟨[(47,.b true),(7,.q 1 0),(15,.i st23.1),(14,.i (p0.1.2.2.2.length:Int)),(13,.f qT p0.1.2.2.2),(5,.h 0),(0,.o (lQ 289 [lF qI p0.1.1,lI p0.1.2.1,lF qI p0.1.2.2.1,lF qT p0.1.2.2.2,lF qI p0.2.1,lM kvI (rL qI) p0.2.2.1,lF rB p0.2.2.2] 0)),(1,.i p1)],[(1,.bx 124 [lI x28.1,lI x28.2.1,lI x28.2.2]),(0,ROW rE286 286 st23.2)],2⟩ ⟨O.kn (O.mv Z R R) hc39,O.skip R R R R,O.skip R R R R,O.skip R R R R,O.skip R R R R,O.skip R R R R,O.skip R R R R,O.skip R R R R,O.skip R R R R,O.pkT Z R R R R,O.mv Z R R,O.skip R R R R,O.skip R R R R,O.skip R R R R,O.skip R R R R,O.skip R R R R,O.skip R R R R,O.skip R R R R,O.skip R R R R,O.pkT Z R R R R,trivial⟩ (by kernel_rfl) R ((Jj30 _ hm).sub [(0,1),(1,0)] R)
    ·skip
     refine bS hm fun x40 ex40 hm=> .drX hp38 19 [(2,tT 9),(2,tT 10),(2,tT 11),(2,tT 12),(2,tT 13),(2,tT 10),(2,tA 10 (fA 4 (tT 1))),(2,tT 16),(2,tT 17),(2,tT 18)] [_,_,_,_,_,_,_,_,_,_] ⟨O.kn (O.mv Z R R) hc39,O.mv (Gu.mk R R) R R,O.nc .Q (Gu.mk R R) R R,O.faQ y3L (Gu.mk R R) R R,O.ld y4g (Gu.mk R R) R .Q R R,O.faP y3g (Gu.mk R R) R R,O.ld nag3 (Gu.mk R R) R (.B R) R R,O.ix sl144 (Gu.mk R R) R R ex40 R,O.ld nag4 (Gu.mk R R) R (.E lv4) R R,O.pkF Z R R R R,trivial⟩ (by kernel_rfl) fun hp41=>?_
     rcases ifS hm with ⟨hc42,hm⟩ | ⟨hc42,hm⟩
     ·skip
      exact .drF hp41 [(2,tT 19),(2,tT 20),(2,tT 21),(2,tT 22),(2,tT 23),(2,tT 20),(2,tA 20 (fA 4 (tT 1))),(2,tT 26),(2,tT 27),(2,tT 28)] [_,_,_,_,_,_,_,_,_,_] ⟨[(47,.b true),(7,.q 1 0),(15,.i st23.1),(14,.i (p0.1.2.2.2.length:Int)),(13,.f qT p0.1.2.2.2),(5,.h 0),(0,.o (lQ 289 [lF qI p0.1.1,lI p0.1.2.1,lF qI p0.1.2.2.1,lF qT p0.1.2.2.2,lF qI p0.2.1,lM kvI (rL qI) p0.2.2.1,lF rB p0.2.2.2] 0)),(1,.i p1)],[(1,.bx 124 [lI x28.1,lI x28.2.1,lI x28.2.2]),(0,ROW rE286 286 st23.2)],2⟩ ⟨O.kn (O.mv Z R R) hc42,O.skip R R R R,O.skip R R R R,O.skip R R R R,O.skip R R R R,O.skip R R R R,O.skip R R R R,O.skip R R R R,O.skip R R R R,O.pkT Z R R R R,trivial⟩ (by kernel_rfl) R ((Jj30 _ hm).sub [(0,1),(1,0)] R)
     ·skip
      exact bS hm fun r43 er43 hm=> .drF hp41 [(2,tT 19),(2,tT 20),(2,tT 21),(2,tT 22),(2,tT 23),(2,tT 20),(2,tA 20 (fA 4 (tT 1))),(2,tT 26),(2,tT 27),(2,tT 28)] [_,_,_,_,_,_,_,_,_,_] ⟨[(47,.b (!r43)),(7,.q 1 0),(15,.i st23.1),(14,.i (p0.1.2.2.2.length:Int)),(13,.f qT p0.1.2.2.2),(5,.h 0),(0,.o (lQ 289 [lF qI p0.1.1,lI p0.1.2.1,lF qI p0.1.2.2.1,lF qT p0.1.2.2.2,lF qI p0.2.1,lM kvI (rL qI) p0.2.2.1,lF rB p0.2.2.2] 0)),(1,.i p1)],[(1,.bx 124 [lI x28.1,lI x28.2.1,lI x28.2.2]),(0,ROW rE286 286 st23.2)],2⟩ ⟨O.kn (O.mv Z R R) hc42,O.mv (Gu.mk R R) R R,O.nc .Q (Gu.mk R R) R R,O.faQ ycL (Gu.mk R R) R R,O.ld nag32 (Gu.mk R R) R .Q R R,O.faP y3Z (Gu.mk R R) R R,O.ld nag3 (Gu.mk R R) R (.B R) R R,O.ca0 (y2p er43) cf104 R R (Gu.mk R R) R R R,O.not (Gu.mk R R) R R,O.pkF Z R R R R,trivial⟩ (by kernel_rfl) R ((Jj30 _ hm).sub [(0,1),(1,0)] R)
 ·refine .cF R hc ?_
  exact .exit (.seqX (.seqX ((K25 _ (ho23 _ (oi hm).symm)).sub [] R)))
def yI (st98:Int×List Int×List Int) (l102:List Int) (l103:List Int):Option ((Int×List Int×List Int) ⊕ (List Int×List Int)):=
 some (.inl (W (st98.1 + 1),l102,l103))
def yJ (p0:AutT×List Int×(List (Int×List Int))×List Bool) (st74:Int×List Int×List Int) (x77:Int) (st98:Int×List Int×List Int):Option ((Int×List Int×List Int) ⊕ (List Int×List Int)):=
 if decide (st98.1 < (((kget p0.2.2.1 x77).getD []).length:Int)) then
  (idx ((kget p0.2.2.1 x77).getD []) st98.1).bind fun x105=>
  (idx p0.2.2.2 x105).bind fun x106=>
  (if x106 then
   (idx st98.2.2 x105).bind fun x115=>
   some (decide (x115 < 0))
  else
   some false).bind fun b107=>
  if b107 then
   (idx st98.2.1 st74.1).bind fun x110=>
   (idx st98.2.2 x110).bind fun x111=>
   (idx st98.2.2 x105).bind fun x112=>
   (upd st98.2.2 x105 (W (x111 + 1))).bind fun x113=>
   (app st98.2.1 ([x105]:List Int)).bind fun x114=>
   yI st98 x114 x113
  else
   yI st98 st98.2.1 st98.2.2
 else
  some (.inr st98.2)
def yK (p0:AutT×List Int×(List (Int×List Int))×List Bool) (st74:Int×List Int×List Int):Option ((Int×List Int×List Int) ⊕ (List Int)):=
 if decide (st74.1 < (st74.2.1.length:Int)) then
  (idx st74.2.1 st74.1).bind fun x77=>
  (iter (yJ p0 st74 x77) (0,st74.2)).bind fun o98=>
  some (.inl (W (st74.1 + 1),o98))
 else
  some (.inr st74.2.2)
def yL (st25:Int×List Int×List Int) (l116:List Int) (l117:List Int):Option ((Int×List Int×List Int) ⊕ (List Int×List Int)):=
 some (.inl (W (st25.1 + 1),l116,l117))
def yM (p0:AutT×List Int×(List (Int×List Int))×List Bool) (st25:Int×List Int×List Int):Option ((Int×List Int×List Int) ⊕ (List Int×List Int)):=
 if decide (st25.1 < (p0.1.2.2.1.length:Int)) then
  (idx p0.1.2.2.1 st25.1).bind fun x119=>
  (idx p0.2.2.2 x119).bind fun x120=>
  if x120 then
   (idx st25.2.2 x119).bind fun x121=>
   (upd st25.2.2 x119 0).bind fun x122=>
   (app st25.2.1 ([x119]:List Int)).bind fun x123=>
   yL st25 x123 x122
  else
   yL st25 st25.2.1 st25.2.2
 else
  some (.inr st25.2)
def yN (x1:List Int) (st8:Int×List Int):Option ((Int×List Int) ⊕ (List Int)):=
 if decide (st8.1 < (x1.length:Int)) then
  (idx st8.2 st8.1).bind fun x124=>
  (upd st8.2 st8.1 (-1)).bind fun x125=>
  some (.inl (W (st8.1 + 1),x125))
 else
  some (.inr st8.2)
def yW (p0:AutT×List Int×(List (Int×List Int))×List Bool):Option (List Int):=
 (mkL p0.1.2.1 (0:Int)).bind fun x1=>
 (iter (yN x1) (0,x1)).bind fun o8=>
 (iter (yM p0) (0,([]:List Int),o8)).bind fun o25=>
 (iter (yK p0) (0,o25)).bind fun o74=>
 some o74
theorem y3I {p0:AutT×List Int×(List (Int×List Int))×List Bool} {r:List Int} (hm:yW p0=some r):
  Fw Tryz.prog 201 ⟨0,[]⟩ [.o (lQ 289 [lF qI p0.1.1,lI p0.1.2.1,lF qI p0.1.2.2.1,lF qT p0.1.2.2.2,lF qI p0.2.1,lM kvI (rL qI) p0.2.2.1,lF rB p0.2.2.2] 0)] [] (.h 0) [ROW qI 3 r]:=by
 unfold yW at hm
 refine Fw.mk' Tryz.func201 R Tryz.ntmps201 R R (fun C=>?_) R R
 refine .seq (.reg (.sa R (.nil (.seqN (.seq (.reg (.mv R (.op (O.nc .Q Z R R) R (.op (O.faQ y4Z Z R R) R (.op (O.faQ y1T Z R R) R (.op (O.ld nag3 Z R .Q R R) R (bS hm fun x1 ex1 hm=> .op (O.mk (z:=(0:Int)) 0 Tryz.underlying32 zr3 R R Z R R ex1 R) R (.sa R (.nil (.seqN (.seq (.seq (.reg (.mv R (.op (O.lenH sl32 Z R R R) R (.mv R (.nil (.seqN (.block (bS hm fun o8 eo8 hm=>?_)))))))))))))))))))))))))
 refine .cut1 (z:= .exit 0) o8 (fun (o8:List Int)=>⟨[(3,.h 0),(0,.o (lQ 289 [lF qI p0.1.1,lI p0.1.2.1,lF qI p0.1.2.2.1,lF qT p0.1.2.2.2,lF qI p0.2.1,lM kvI (rL qI) p0.2.2.1,lF rB p0.2.2.2] 0))],[(0,ROW qI 3 o8)],1⟩) ?_ fun K10=>?_
 ·skip
  refine .blkE (.seqN (.seq (.reg (.sa R (.nil (.seqN (.seq (.seq (.reg (.mv R (.op (O.nc .Q Z R R) R (.op (O.faQ y4Z Z R R) R (.op (O.faQ y3l Z R R) R (.op (O.ld nag32 Z R .Q R R) R (.op (O.len sl32 Z R R) R (.mv R (.nil (.seqN (.block (bS hm fun o25 eo25 hm=>?_))))))))))))))))))))
  refine .cut1 (z:= .exit 2) o25 (fun (o25:List Int×List Int)=>⟨[(5,.h 0),(3,.h 1),(0,.o (lQ 289 [lF qI p0.1.1,lI p0.1.2.1,lF qI p0.1.2.2.1,lF qT p0.1.2.2.2,lF qI p0.2.1,lM kvI (rL qI) p0.2.2.1,lF rB p0.2.2.2] 0))],[(0,ROW qI 3 o25.1),(1,ROW qI 3 o25.2)],2⟩) ?_ fun K28=>?_
  ·skip
   refine .blkE (.seqN (.seq (.seq (.reg (.sa R (.nil (.seqN (.block (bS hm fun o74 eo74 hm=>?_)))))))))
   refine .cut1 (z:= .exit 4) o74 (fun (o74:List Int)=>⟨[(3,.h 0)],[(0,ROW qI 3 o74)],1⟩) ?_ fun K76=>?_
   ·skip
    refine .blkE (.seqN (.seq (.reg (.mv R (.sa R (.nil (.seqN (.ret ?_))))))))
    obtain rfl:=oi hm
    exact WX.rt [0] (.inl R) Tryz.results201 (.tmp R .nil) R (fun _ _ _ h=>h) ⟨⟨_,R,fun _ _ _ _ h=>h⟩,trivial⟩
   refine .iter (fun (st74:Int×List Int×List Int)=>⟨[(8,.i st74.1),(5,.h 0),(3,.h 1),(0,.o (lQ 289 [lF qI p0.1.1,lI p0.1.2.1,lF qI p0.1.2.2.1,lF qT p0.1.2.2.2,lF qI p0.2.1,lM kvI (rL qI) p0.2.2.1,lF rB p0.2.2.2] 0))],[(0,ROW qI 3 st74.2.1),(1,ROW qI 3 st74.2.2)],2⟩) eo74 [] R ?_
   intro st74 res74 hm ih74 ho74
   unfold yK at hm
   refine .seq (.seq (.reg (.mv R (.mv R (.op (O.lenH sl32 Z R R R) R (.bi R (.nil (.seqN ?_))))))))
   rcases ifS hm with ⟨hc,hm⟩ | ⟨hc,hm⟩
   ·refine .cT R hc ?_
    refine .skip (.seqN (.seq (.block (.seq ?_))))
    refine .sub (τ:=⟨[(8,.i st74.1),(5,.h 0),(3,.h 1),(0,.o (lQ 289 [lF qI p0.1.1,lI p0.1.2.1,lF qI p0.1.2.2.1,lF qT p0.1.2.2.2,lF qI p0.2.1,lM kvI (rL qI) p0.2.2.1,lF rB p0.2.2.2] 0))],[(0,ROW qI 3 st74.2.1),(1,ROW qI 3 st74.2.2)],2⟩) ?_ [] R
    refine bS hm fun x77 ex77 hm=>?_
    refine .drw [(2,[]),(2,[oT]),(2,[oT,oT]),(2,tT 3),(2,[]),(2,[]),(2,[oF,oF,oF,oF,oT,oT]),(2,fA 4 (tT 3)),(2,tT 8),(2,tT 9),(2,[])] [_,_,_,_,_,_,_,_,_,_,_] ⟨[(67,.i 0),(66,.i (((kget p0.2.2.1 x77).getD []).length:Int)),(65,.f qI ((kget p0.2.2.1 x77).getD [])),(8,.i st74.1),(5,.h 0),(3,.h 1),(0,.o (lQ 289 [lF qI p0.1.1,lI p0.1.2.1,lF qI p0.1.2.2.1,lF qT p0.1.2.2.2,lF qI p0.2.1,lM kvI (rL qI) p0.2.2.1,lF rB p0.2.2.2] 0))],[(0,ROW qI 3 st74.2.1),(1,ROW qI 3 st74.2.2)],2⟩ ⟨O.mv Z R R,O.nc .Q Z R R,O.faQ y9j Z R R,O.ld ya4 Z R .Q R R,O.mv Z R R,O.mv Z R R,O.ir sl32 Z R R R ex77 R,O.ld nag3 Z R (.R R ex77 lv3) R R,O.mlS (k:=x77) ydb Z R (.o R) R,O.len sl32 Z R R,O.mv Z R R,trivial⟩ (by kernel_rfl) R ?_
    refine .seqN (.block (bS hm fun o98 eo98 hm=>?_))
    refine .cut1 (z:= .exit 6) o98 (fun (o98:List Int×List Int)=>⟨[(8,.i st74.1),(5,.h 0),(3,.h 1),(0,.o (lQ 289 [lF qI p0.1.1,lI p0.1.2.1,lF qI p0.1.2.2.1,lF qT p0.1.2.2.2,lF qI p0.2.1,lM kvI (rL qI) p0.2.2.1,lF rB p0.2.2.2] 0))],[(0,ROW qI 3 o98.1),(1,ROW qI 3 o98.2)],2⟩) ?_ fun K101=>?_
    ·skip
     exact .blkE (.blkN (.seqN (.reg (.mv R (.bi R (.sa R (.nil ((ih74 _ (oi hm).symm).sub [] R))))))))
    refine .iter (fun (st98:Int×List Int×List Int)=>⟨[(67,.i st98.1),(66,.i (((kget p0.2.2.1 x77).getD []).length:Int)),(65,.f qI ((kget p0.2.2.1 x77).getD [])),(8,.i st74.1),(5,.h 0),(3,.h 1),(0,.o (lQ 289 [lF qI p0.1.1,lI p0.1.2.1,lF qI p0.1.2.2.1,lF qT p0.1.2.2.2,lF qI p0.2.1,lM kvI (rL qI) p0.2.2.1,lF rB p0.2.2.2] 0))],[(0,ROW qI 3 st98.2.1),(1,ROW qI 3 st98.2.2)],2⟩) eo98 [] R ?_
    intro st98 res98 hm ih98 ho98
    unfold yJ at hm
    refine .seq (.reg (.bi R (.nil (.seqN (.seq ?_)))))
    rcases ifS hm with ⟨hc,hm⟩ | ⟨hc,hm⟩
    ·refine .cT R hc ?_
     refine .skip (.seqN ?_)
     refine .join2 (fun (l102:List Int) (l103:List Int)=>yI st98 l102 l103=some res98) (fun l102 l103=>⟨[(5,.h 0),(67,.i st98.1),(66,.i (((kget p0.2.2.1 x77).getD []).length:Int)),(65,.f qI ((kget p0.2.2.1 x77).getD [])),(8,.i st74.1),(3,.h 1),(0,.o (lQ 289 [lF qI p0.1.1,lI p0.1.2.1,lF qI p0.1.2.2.1,lF qT p0.1.2.2.2,lF qI p0.2.1,lM kvI (rL qI) p0.2.2.1,lF rB p0.2.2.2] 0))],[(0,ROW qI 3 l102),(1,ROW qI 3 l103)],2⟩) ?_ ?_
     ·intro l102 l103 hm
      unfold yI at hm
      exact .reg (.bi R (.mv R (.nil ((ih98 _ (oi hm).symm).sub [] R))))
     ·intro Jj104
      refine .block (.seq (.reg (bS hm fun x105 ex105 hm=> .op (O.ix sl32 Z R R ex105 R) R (.op (O.ld nag3 Z R (.E lv3) R R) R (.sa R (.nil (.seqN (.seq (.reg (.mv R (.op (O.nc .Q Z R R) R (.op (O.faQ y3L Z R R) R (.op (O.ld y4g Z R .Q R R) R (.mv R (bS hm fun x106 ex106 hm=> .op (O.ix sl144 Z R R ex106 R) R (.op (O.ld nag4 Z R (.E lv4) R R) R (.mv R (bS hm fun b107 eb107 hm=>?_))))))))))))))))))
      refine .cut 6 (fun (v108:Bool)=>b107=v108) (fun v108=>⟨[(84,.b v108),(10,.i x105),(67,.i st98.1),(66,.i (((kget p0.2.2.1 x77).getD []).length:Int)),(65,.f qI ((kget p0.2.2.1 x77).getD [])),(8,.i st74.1),(5,.h 0),(3,.h 1),(0,.o (lQ 289 [lF qI p0.1.1,lI p0.1.2.1,lF qI p0.1.2.2.1,lF qT p0.1.2.2.2,lF qI p0.2.1,lM kvI (rL qI) p0.2.2.1,lF rB p0.2.2.2] 0))],[(0,ROW qI 3 st98.2.1),(1,ROW qI 3 st98.2.2)],2⟩) ?_ ?_
      ·rintro _ rfl
       refine .nil (.seqN ?_)
       rcases ifS hm with ⟨hc,hm⟩ | ⟨hc,hm⟩
       ·refine .cT R hc ?_
        exact .seq (.reg (.mv R (.mv R (.mv R (.mv R (.mv R (bS hm fun x110 ex110 hm=> .op (O.ir sl32 Z R R R ex110 R) R (.op (O.ld nag3 Z R (.R R ex110 lv3) R R) R (bS hm fun x111 ex111 hm=> .op (O.ir sl32 Z R R R ex111 R) R (.op (O.ld nag3 Z R (.R R ex111 lv3) R R) R (.bi R (bS hm fun x112 ex112 hm=> .op (O.ir sl32 Z R R R ex112 R) R (bS hm fun x113 ex113 hm=> .op (O.su (z:=W (x111 + 1)) nag3.sz Z R R ex112 ex113 R R R lv3 R .k) R (.nil (.seqN (.reg (.mv R (.mv R (.op (O.bsF (r:=qI) (zs:=([x105]:List Int)) bs32 R R Z R R R (.c .k .n) R R R) R (bS hm fun x114 ex114 hm=> .op (O.ap 2 Tryz.underlying32 el3 R R Z R R (.fr R) ex114 R) R (.sa R (.nil (.blkN ((Jj104 _ _ hm).sub [(0,2)] R))))))))))))))))))))))))
       ·refine .cF R hc ?_
        exact .skip (.blkN ((Jj104 _ _ hm).sub [] R))
      ·intro J109
       rcases ifS eb107 with ⟨hc,hm⟩ | ⟨hc,hm⟩
       ·refine .know (d:=78) R hc ?_
        exact .op (O.mv (Gu.mk R R) R R) R (.op (O.mv (Gu.mk R R) R R) R (bS hm fun x115 ex115 hm=> .op (O.ir sl32 (Gu.mk R R) R R R ex115 R) R (.op (O.ld nag3 (Gu.mk R R) R (.R R ex115 lv3) R R) R (.op (O.bi (Gu.mk R R) R R R R) R (.op (O.pkT Z R R R R) R ((J109 (decide (x115 < 0)) (oi hm).symm).sub [] R))))))
       ·refine .know (d:=78) R hc ?_
        exact .sk R (.sk R (.sk R (.sk R (.sk R (.op (O.pkF Z R R R R) R ((J109 false (oi hm).symm).sub [] R))))))
    ·refine .cF R hc ?_
     exact .exit (.seqX (.seqX ((K101 _ (ho98 _ (oi hm).symm)).sub [] R)))
   ·refine .cF R hc ?_
    exact .exit (.seqX (.seqX ((K76 _ (ho74 _ (oi hm).symm)).sub [(0,1)] R)))
  refine .nlg qI 3 5 0 R R (.iter (fun (st25:Int×List Int×List Int)=>⟨[(32,.i st25.1),(31,.i (p0.1.2.2.1.length:Int)),(30,.f qI p0.1.2.2.1),(5,.h 0),(3,.h 1),(0,.o (lQ 289 [lF qI p0.1.1,lI p0.1.2.1,lF qI p0.1.2.2.1,lF qT p0.1.2.2.2,lF qI p0.2.1,lM kvI (rL qI) p0.2.2.1,lF rB p0.2.2.2] 0))],[(0,ROW qI 3 st25.2.1),(1,ROW qI 3 st25.2.2)],2⟩) eo25 [(0,1),(1,0)] R ?_)
  intro st25 res25 hm ih25 ho25
  unfold yM at hm
  refine .seq (.reg (.bi R (.nil (.seqN (.seq ?_)))))
  rcases ifS hm with ⟨hc,hm⟩ | ⟨hc,hm⟩
  ·refine .cT R hc ?_
   refine .skip (.seqN ?_)
   refine .join2 (fun (l116:List Int) (l117:List Int)=>yL st25 l116 l117=some res25) (fun l116 l117=>⟨[(5,.h 0),(32,.i st25.1),(31,.i (p0.1.2.2.1.length:Int)),(30,.f qI p0.1.2.2.1),(3,.h 1),(0,.o (lQ 289 [lF qI p0.1.1,lI p0.1.2.1,lF qI p0.1.2.2.1,lF qT p0.1.2.2.2,lF qI p0.2.1,lM kvI (rL qI) p0.2.2.1,lF rB p0.2.2.2] 0))],[(0,ROW qI 3 l116),(1,ROW qI 3 l117)],2⟩) ?_ ?_
   ·intro l116 l117 hm
    unfold yL at hm
    exact .reg (.bi R (.mv R (.nil ((ih25 _ (oi hm).symm).sub [] R))))
   ·intro Jj118
    refine .block (.seq (.reg (bS hm fun x119 ex119 hm=> .op (O.ix sl32 Z R R ex119 R) R (.op (O.ld nag3 Z R (.E lv3) R R) R (.sa R (.nil (.seqN (.seq (.reg (.mv R (.op (O.nc .Q Z R R) R (.op (O.faQ y3L Z R R) R (.op (O.ld y4g Z R .Q R R) R (.mv R (bS hm fun x120 ex120 hm=> .op (O.ix sl144 Z R R ex120 R) R (.op (O.ld nag4 Z R (.E lv4) R R) R (.nil (.seqN ?_))))))))))))))))))
    rcases ifS hm with ⟨hc,hm⟩ | ⟨hc,hm⟩
    ·refine .cT R hc ?_
     exact .seq (.reg (.mv R (.mv R (bS hm fun x121 ex121 hm=> .op (O.ir sl32 Z R R R ex121 R) R (bS hm fun x122 ex122 hm=> .op (O.su (z:=0) nag3.sz Z R R ex121 ex122 R R R lv3 R .k) R (.nil (.seqN (.reg (.mv R (.mv R (.op (O.bsF (r:=qI) (zs:=([x119]:List Int)) bs32 R R Z R R R (.c .k .n) R R R) R (bS hm fun x123 ex123 hm=> .op (O.ap 2 Tryz.underlying32 el3 R R Z R R (.fr R) ex123 R) R (.sa R (.nil (.blkN ((Jj118 _ _ hm).sub [(0,2)] R))))))))))))))))
    ·refine .cF R hc ?_
     exact .skip (.blkN ((Jj118 _ _ hm).sub [] R))
  ·refine .cF R hc ?_
   exact .exit (.seqX (.seqX ((K28 _ (ho25 _ (oi hm).symm)).sub [] R)))
 refine .iter (fun (st8:Int×List Int)=>⟨[(19,.i st8.1),(18,.i (x1.length:Int)),(3,.h 0),(0,.o (lQ 289 [lF qI p0.1.1,lI p0.1.2.1,lF qI p0.1.2.2.1,lF qT p0.1.2.2.2,lF qI p0.2.1,lM kvI (rL qI) p0.2.2.1,lF rB p0.2.2.2] 0))],[(0,ROW qI 3 st8.2)],1⟩) eo8 [] R ?_
 intro st8 res8 hm ih8 ho8
 unfold yN at hm
 refine .seq (.reg (.bi R (.nil (.seqN (.seq ?_)))))
 rcases ifS hm with ⟨hc,hm⟩ | ⟨hc,hm⟩
 ·refine .cT R hc ?_
  exact .skip (.seqN (.seq (.block (.seq (.reg (.mv R (.sa R (.nil (.seqN (.reg (.mv R (.mv R (bS hm fun x124 ex124 hm=> .op (O.ir sl32 Z R R R ex124 R) R (bS hm fun x125 ex125 hm=> .op (O.su (z:=(-1)) nag3.sz Z R R ex124 ex125 R R R lv3 R .k) R (.nil (.blkN (.seqN (.reg (.bi R (.mv R (.nil ((ih8 _ (oi hm).symm).sub [] R))))))))))))))))))))))
 ·refine .cF R hc ?_
  exact .exit (.seqX (.seqX ((K10 _ (ho8 _ (oi hm).symm)).sub [] R)))
def yS (st13:Int×(List (Int×Int×Int×Int))) (l16:List (Int×Int×Int×Int)):Option ((Int×(List (Int×Int×Int×Int))) ⊕ (List (Int×Int×Int×Int))):=
 some (.inl (W (st13.1 + 1),l16))
def y1l (p0:AutT×List Int×(List (Int×List Int))×List Bool) (p1:Int) (r1:List Int) (st13:Int×(List (Int×Int×Int×Int))):Option ((Int×(List (Int×Int×Int×Int))) ⊕ (List (Int×Int×Int×Int))):=
 if decide (st13.1 < (r1.length:Int)) then
  (idx r1 st13.1).bind fun x18=>
  (idx p0.2.2.2 st13.1).bind fun x19=>
  if(x19 && (decide (x18 < 0))) then
   (app st13.2 ([(st13.1,p1,3,(-1))]:List (Int×Int×Int×Int))).bind fun x22=>
   yS st13 x22
  else
   yS st13 st13.2
 else
  some (.inr st13.2)
def y1I (p0:AutT×List Int×(List (Int×List Int))×List Bool) (p1:Int):Option (List (Int×Int×Int×Int)):=
 (yW p0).bind fun r1=>
 (iter (y1l p0 p1 r1) (0,([]:List (Int×Int×Int×Int)))).bind fun o13=>
 some o13
theorem y5p {p0:AutT×List Int×(List (Int×List Int))×List Bool} {p1:Int} {r:(List (Int×Int×Int×Int))} (hm:y1I p0 p1=some r):
  Fw Tryz.prog 232 ⟨0,[]⟩ [.o (lQ 289 [lF qI p0.1.1,lI p0.1.2.1,lF qI p0.1.2.2.1,lF qT p0.1.2.2.2,lF qI p0.2.1,lM kvI (rL qI) p0.2.2.1,lF rB p0.2.2.2] 0),.i p1] [] (.h 0) [ROW rE286 286 r]:=by
 unfold y1I at hm
 refine Fw.mk' Tryz.func232 R Tryz.ntmps232 R R (fun C=>?_) R R
 refine .seq (.reg (.sa R (.nil (.seqN (.seq (.reg (.sa R (.nil (.seqN (.seq (.seq (.reg (.mv R (bS hm fun r1 er1 hm=> .op (O.ca (r':= .h 0) [0] [(0,ROW qI 3 r1)] (some 1) (y3I er1) cf201 R R Z R R R R ⟨⟨_,R,fun _ _ _ _ h=>h⟩,trivial⟩ (fun _ _ _ h=>h) R) R (.op (O.lenH sl32 Z R R R) R (.mv R (.nil (.seqN (.block (bS hm fun o13 eo13 hm=>?_))))))))))))))))))))
 refine .cut1 (z:= .exit 0) o13 (fun (o13:(List (Int×Int×Int×Int)))=>⟨[(5,.h 0)],[(0,ROW rE286 286 o13)],1⟩) ?_ fun K15=>?_
 ·skip
  refine .blkE (.seqN (.seq (.reg (.mv R (.sa R (.nil (.seqN (.ret ?_))))))))
  obtain rfl:=oi hm
  exact WX.rt [0] (.inl R) Tryz.results232 (.tmp R .nil) R (fun _ _ _ h=>h) ⟨⟨_,R,fun _ _ _ _ h=>h⟩,trivial⟩
 refine .nlg rE286 286 5 0 R R (.iter (fun (st13:Int×(List (Int×Int×Int×Int)))=>⟨[(11,.i st13.1),(10,.i (r1.length:Int)),(9,.h 0),(5,.h 1),(0,.o (lQ 289 [lF qI p0.1.1,lI p0.1.2.1,lF qI p0.1.2.2.1,lF qT p0.1.2.2.2,lF qI p0.2.1,lM kvI (rL qI) p0.2.2.1,lF rB p0.2.2.2] 0)),(1,.i p1)],[(0,ROW qI 3 r1),(1,ROW rE286 286 st13.2)],2⟩) eo13 [] R ?_)
 intro st13 res13 hm ih13 ho13
 unfold y1l at hm
 refine .seq (.reg (.bi R (.nil (.seqN (.seq ?_)))))
 rcases ifS hm with ⟨hc,hm⟩ | ⟨hc,hm⟩
 ·refine .cT R hc ?_
  refine .skip (.seqN ?_)
  refine .join1 (fun (l16:List (Int×Int×Int×Int))=>yS st13 l16=some res13) (fun l16=>⟨[(5,.h 0),(11,.i st13.1),(10,.i (r1.length:Int)),(9,.h 1),(0,.o (lQ 289 [lF qI p0.1.1,lI p0.1.2.1,lF qI p0.1.2.2.1,lF qT p0.1.2.2.2,lF qI p0.2.1,lM kvI (rL qI) p0.2.2.1,lF rB p0.2.2.2] 0)),(1,.i p1)],[(0,ROW rE286 286 l16),(1,ROW qI 3 r1)],2⟩) ?_ ?_
  ·intro l16 hm
   unfold yS at hm
   exact .reg (.bi R (.mv R (.nil ((ih13 _ (oi hm).symm).sub [(0,1),(1,0)] R))))
  ·intro Jj17
   refine .block (.seq (.reg (.mv R (bS hm fun x18 ex18 hm=> .op (O.ir sl32 Z R R R ex18 R) R (.op (O.ld nag3 Z R (.R R ex18 lv3) R R) R (.sa R (.sa R (.nil (.seqN (.seq (.reg (.mv R (.op (O.nc .Q Z R R) R (.op (O.faQ y3L Z R R) R (.op (O.ld y4g Z R .Q R R) R (.mv R (bS hm fun x19 ex19 hm=> .op (O.ix sl144 Z R R ex19 R) R (.op (O.ld nag4 Z R (.E lv4) R R) R (.mv R ?_)))))))))))))))))))
   refine .cut 3 (fun (v20:Bool)=>(x19 && (decide (x18 < 0)))=v20) (fun v20=>⟨[(26,.b v20),(6,.i st13.1),(11,.i st13.1),(10,.i (r1.length:Int)),(9,.h 0),(5,.h 1),(0,.o (lQ 289 [lF qI p0.1.1,lI p0.1.2.1,lF qI p0.1.2.2.1,lF qT p0.1.2.2.2,lF qI p0.2.1,lM kvI (rL qI) p0.2.2.1,lF rB p0.2.2.2] 0)),(1,.i p1)],[(0,ROW qI 3 r1),(1,ROW rE286 286 st13.2)],2⟩) ?_ ?_
   ·rintro _ rfl
    refine .nil (.seqN ?_)
    rcases ifS hm with ⟨hc,hm⟩ | ⟨hc,hm⟩
    ·refine .cT R hc ?_
     exact .reg (.mv R (.mv R (.mv R (.op (O.bu (l:=[lI st13.1,lI p1,lI 3,lI (-1)]) pl286 R Z R R R) R (.op (O.bsF (r:=rE286) (zs:=([(st13.1,p1,3,(-1))]:List (Int×Int×Int×Int))) bs127 R R Z R R R (.c (.p .k (.p .k (.p .k .k))) .n) R R R) R (bS hm fun x22 ex22 hm=> .op (O.ap 2 Tryz.underlying127 el286 R R Z R R (.fr R) ex22 R) R (.sa R (.nil (.blkN ((Jj17 _ hm).sub [(0,2),(1,0)] R))))))))))
    ·refine .cF R hc ?_
     exact .skip (.blkN ((Jj17 _ hm).sub [(0,1),(1,0)] R))
   ·intro J21
    rcases Bool.eq_false_or_eq_true x19 with hc | hc
    ·refine .know (d:=23) R hc ?_
     exact .op (O.mv (Gu.mk R R) R R) R (.op (O.bi (Gu.mk R R) R R R R) R (.op (O.pkT Z R R R R) R ((J21 (decide (x18 < 0)) (andT hc).symm).sub [] R)))
    ·refine .know (d:=23) R hc ?_
     exact .sk R (.sk R (.op (O.pkF Z R R R R) R ((J21 false (andF hc).symm).sub [] R)))
 ·refine .cF R hc ?_
  exact .exit (.seqX (.seqX ((K15 _ (ho13 _ (oi hm).symm)).sub [(0,1)] R)))
def y2h (p0:AutT×List Int×(List (Int×List Int))×List Bool) (p1:Int) (p2:Bool):Option (List (Int×Int×Int×Int)):=
 (y2g p0 p1).bind fun r1=>
 if((decide ((r1.length:Int) > 0)) || (!p2)) then
  some r1
 else
  (y1I p0 p1).bind fun r4=>
  some r4
theorem y5L {p0:AutT×List Int×(List (Int×List Int))×List Bool} {p1:Int} {p2:Bool} {r:(List (Int×Int×Int×Int))} (hm:y2h p0 p1 p2=some r):
  Fw Tryz.prog 198 ⟨0,[]⟩ [.o (lQ 289 [lF qI p0.1.1,lI p0.1.2.1,lF qI p0.1.2.2.1,lF qT p0.1.2.2.2,lF qI p0.2.1,lM kvI (rL qI) p0.2.2.1,lF rB p0.2.2.2] 0),.i p1,.b p2] [] (.h 0) [ROW rE286 286 r]:=by
 unfold y2h at hm
 refine Fw.mk' Tryz.func198 R Tryz.ntmps198 R R (fun C=>?_) R R
 refine .seq (.reg (.sa R (.nil (.seqN (.seq (.seq (.reg (.mv R (.mv R (bS hm fun r1 er1 hm=> .op (O.ca (r':= .h 0) [0] [(0,ROW rE286 286 r1)] (some 1) (y5K er1) cf231 R R Z R R R R ⟨⟨_,R,fun _ _ _ _ h=>h⟩,trivial⟩ (fun _ _ _ h=>h) R) R (.sa R (.nil (.seqN (.seq (.reg (.mv R (.op (O.lenH sl127 Z R R R) R (.bi R (.mv R ?_)))))))))))))))))))
 refine .cut 3 (fun (v2:Bool)=>((decide ((r1.length:Int) > 0)) || (!p2))=v2) (fun v2=>⟨[(17,.b v2),(7,.h 0),(0,.o (lQ 289 [lF qI p0.1.1,lI p0.1.2.1,lF qI p0.1.2.2.1,lF qT p0.1.2.2.2,lF qI p0.2.1,lM kvI (rL qI) p0.2.2.1,lF rB p0.2.2.2] 0)),(1,.i p1)],[(0,ROW rE286 286 r1)],1⟩) ?_ ?_
 ·rintro _ rfl
  refine .nil (.seqN ?_)
  rcases ifS hm with ⟨hc,hm⟩ | ⟨hc,hm⟩
  ·refine .cT R hc ?_
   refine .seq (.reg (.mv R (.sa R (.nil (.seqN (.ret (.seqR ?_)))))))
   obtain rfl:=oi hm
   exact WX.rt [0] (.inl R) Tryz.results198 (.tmp R .nil) R (fun _ _ _ h=>h) ⟨⟨_,R,fun _ _ _ _ h=>h⟩,trivial⟩
  ·refine .cF R hc ?_
   refine .skip (.seqN (.seq (.reg (.mv R (.mv R (bS hm fun r4 er4 hm=> .op (O.ca (r':= .h 1) [1] [(0,ROW rE286 286 r4)] (some 2) (y5p er4) cf232 R R Z R R R R ⟨⟨_,R,fun _ _ _ _ h=>h⟩,trivial⟩ (fun _ _ _ h=>h) R) R (.sa R (.nil (.seqN (.ret ?_))))))))))
   obtain rfl:=oi hm
   exact WX.rt [1] (.inl R) Tryz.results198 (.tmp R .nil) R (fun _ _ _ h=>h) ⟨⟨_,R,fun _ _ _ _ h=>h⟩,trivial⟩
 ·intro J3
  rcases Bool.eq_false_or_eq_true (decide ((r1.length:Int) > 0)) with hc | hc
  ·refine .know (d:=14) R hc ?_
   exact .sk R (.sk R (.op (O.pkT Z R R R R) R ((J3 true (orT hc).symm).sub [] R)))
  ·refine .know (d:=14) R hc ?_
   exact .op (O.mv (Gu.mk R R) R R) R (.op (O.not (Gu.mk R R) R R) R (.op (O.pkF Z R R R R) R ((J3 (!p2) (orF hc).symm).sub [] R)))
def yy (st68:Int×List Int×(List (Int×Int))×List Int×EdgL) (l73:List Int) (l74:List (Int×Int)) (l75:List Int) (l76:List (Int×Int×Int)):Option ((Int×List Int×(List (Int×Int))×List Int×EdgL) ⊕ (List Int×List Int×EdgL)):=
 some (.inl (W (st68.1 + 1),l73,l74,l75,l76))
def yz (st68:Int×List Int×(List (Int×Int))×List Int×EdgL) (x103:Int×Int×Int) (st95:Int×List Int×(List (Int×Int))×EdgL) (l104:List Int) (n105:Int) (l106:List (Int×Int)):Option ((Int×List Int×(List (Int×Int))×EdgL) ⊕ (List Int×(List (Int×Int))×EdgL)):=
 (app st95.2.2.2 ([(st68.1,x103.2.1,n105)]:List (Int×Int×Int))).bind fun x108=>
 some (.inl (W (st95.1 + 1),l104,l106,x108))
def yA (st68:Int×List Int×(List (Int×Int))×List Int×EdgL) (x79:List (Int×Int×Int)) (st95:Int×List Int×(List (Int×Int))×EdgL):Option ((Int×List Int×(List (Int×Int))×EdgL) ⊕ (List Int×(List (Int×Int))×EdgL)):=
 if decide (st95.1 < (x79.length:Int)) then
  (idx x79 st95.1).bind fun x103=>
  if(!((kget st95.2.2.1 x103.2.2).isSome)) then
   (app st95.2.1 ([x103.2.2]:List Int)).bind fun x109=>
   yz st68 x103 st95 x109 (st95.2.1.length:Int) (kput st95.2.2.1 x103.2.2 (st95.2.1.length:Int))
  else
   yz st68 x103 st95 st95.2.1 ((kget st95.2.2.1 x103.2.2).getD 0) st95.2.2.1
 else
  some (.inr st95.2)
def yB (p0:AutT×List Int×(List (Int×List Int))×List Bool) (o18:(List EdgL)) (st68:Int×List Int×(List (Int×Int))×List Int×EdgL):Option ((Int×List Int×(List (Int×Int))×List Int×EdgL) ⊕ (List Int×List Int×EdgL)):=
 if decide (st68.1 < (st68.2.1.length:Int)) then
  (idx st68.2.1 st68.1).bind fun x78=>
  (idx o18 x78).bind fun x79=>
  (iter (yA st68 x79) (0,st68.2.1,st68.2.2.1,st68.2.2.2.2)).bind fun o95=>
  (idx o95.1 st68.1).bind fun x100=>
  (yx p0.1.2.2.1 x100).bind fun r101=>
  if r101 then
   (app st68.2.2.2.1 ([st68.1]:List Int)).bind fun x102=>
   yy st68 o95.1 o95.2.1 x102 o95.2.2
  else
   yy st68 o95.1 o95.2.1 st68.2.2.2.1 o95.2.2
 else
  some (.inr (st68.2.1,st68.2.2.2))
def yC (st18:Int×(List EdgL)) (l110:List EdgL):Option ((Int×(List EdgL)) ⊕ (List EdgL)):=
 some (.inl (W (st18.1 + 1),l110))
def yD (p0:AutT×List Int×(List (Int×List Int))×List Bool) (st18:Int×(List EdgL)):Option ((Int×(List EdgL)) ⊕ (List EdgL)):=
 if decide (st18.1 < (p0.1.2.2.2.length:Int)) then
  (idx p0.1.2.2.2 st18.1).bind fun x112=>
  (idx p0.2.2.2 x112.2.2).bind fun x113=>
  if x113 then
   (idx st18.2 x112.1).bind fun x114=>
   (app x114 ([x112]:List (Int×Int×Int))).bind fun x115=>
   (idx st18.2 x112.1).bind fun x116=>
   (upd st18.2 x112.1 x115).bind fun x117=>
   yC st18 x117
  else
   yC st18 st18.2
 else
  some (.inr st18.2)
def y1m (p0:AutT×List Int×(List (Int×List Int))×List Bool):Option (AutT×List Int):=
 (yQ p0.1.1).bind fun r1=>
 (if (p0.1.2.1 == 0) then
  some true
 else
  (idx p0.2.2.2 0).bind fun x118=>
  some (!x118)).bind fun b2=>
 if b2 then
  some ((r1,0,([]:List Int),([]:List (Int×Int×Int))),([]:List Int))
 else
  (mkL p0.1.2.1 ([]:List (Int×Int×Int))).bind fun x5=>
  (iter (yD p0) (0,x5)).bind fun o18=>
  (iter (yB p0 o18) (0,([0]:List Int),(kput ([]:List (Int×Int)) 0 0),([]:List Int),([]:List (Int×Int×Int)))).bind fun o68=>
  some ((r1,(o68.1.length:Int),o68.2),o68.1)
theorem y4X {p0:AutT×List Int×(List (Int×List Int))×List Bool} {r:AutT×List Int} (hm:y1m p0=some r):
  Fw Tryz.prog 202 ⟨0,[]⟩ [.o (lQ 289 [lF qI p0.1.1,lI p0.1.2.1,lF qI p0.1.2.2.1,lF qT p0.1.2.2.2,lF qI p0.2.1,lM kvI (rL qI) p0.2.2.1,lF rB p0.2.2.2] 0)] [] (.tp [.a [lH 0,lI r.1.2.1,lH 1,lH 2],.h 3]) [ROW qI 3 r.1.1,ROW qI 3 r.1.2.2.1,ROW qT 124 r.1.2.2.2,ROW qI 3 r.2]:=by
 unfold y1m at hm
 refine Fw.mk' Tryz.func202 R Tryz.ntmps202 R R (fun C=>?_) R R
 refine .seq (.reg (.op (O.al 0 R zz35 R Z R) R (.sa R (.nil (.seqN (.seq (.reg (.mv R (.op (O.nc .Q Z R R) R (.op (O.faQ y4Z Z R R) R (.op (O.faQ y1S Z R R) R (.op (O.ld nag32 Z R .Q R R) R (bS hm fun r1 er1 hm=> .op (O.ca (r':= .h 1) [1] [(0,ROW qI 3 r1)] (some 2) (y2k er1) cf103 R R Z R R R R ⟨⟨_,R,fun _ _ _ _ h=>h⟩,trivial⟩ (fun _ _ _ h=>h) R) R (.op (O.bu (l:=[lH 1,lI 0,lN,lN]) pl35 R Z R R R) R (.op (O.al 2 R zz35 R Z R) R (.op (O.st ag35.sz Z R R R R R) R (.nil (.seqN (.seq (.seq (.reg (.mv R (.op (O.nc .Q Z R R) R (.op (O.faQ y4Z Z R R) R (.op (O.faQ y1T Z R R) R (.op (O.ld nag3 Z R .Q R R) R (.bi R (.mv R (bS hm fun b2 eb2 hm=>?_)))))))))))))))))))))))))))))
 refine .cut 8 (fun (v3:Bool)=>b2=v3) (fun v3=>⟨[(36,.b v3),(4,.q 2 0),(2,.q 0 0),(0,.o (lQ 289 [lF qI p0.1.1,lI p0.1.2.1,lF qI p0.1.2.2.1,lF qT p0.1.2.2.2,lF qI p0.2.1,lM kvI (rL qI) p0.2.2.1,lF rB p0.2.2.2] 0))],[(2,.bx 35 [lH 1,lI 0,lN,lN]),(1,ROW qI 3 r1),(0,.bx 35 [lN,lI 0,lN,lN])],3⟩) ?_ ?_
 ·rintro _ rfl
  refine .nil (.seqN ?_)
  rcases ifS hm with ⟨hc,hm⟩ | ⟨hc,hm⟩
  ·refine .cT R hc ?_
   refine .seq (.reg (.op (O.lg (l':=[lH 1,lI 0,lN,lN]) ag35 Z R (.B R) R R R) R (.op (O.st ag35.sz Z R R R R R) R (.sa R (.nil (.seqN (.ret (.seqR (.nlb qI 3 0 2 R R (.nlb qT 124 0 3 R R (.nlg qI 3 3 0 R R ?_)))))))))))
   obtain rfl:=oi hm
   exact WX.rt [1,3,4,5] (.inl R) Tryz.results202 (.cell R R ag35 R (.tmp R .nil)) R (fun _ _ _ h=>h) ⟨⟨_,R,fun _ _ _ _ h=>h⟩,⟨_,R,fun _ _ _ _ h=>h⟩,⟨_,R,fun _ _ _ _ h=>h⟩,⟨_,R,fun _ _ _ _ h=>h⟩,trivial⟩
  ·refine .cF R hc ?_
   refine .skip (.seqN (.seq (.reg (.mv R (.op (O.nc .Q Z R R) R (.op (O.faQ y4Z Z R R) R (.op (O.faQ y1T Z R R) R (.op (O.ld nag3 Z R .Q R R) R (bS hm fun x5 ex5 hm=> .op (O.mkT y4a 124 3 Tryz.underlying314 zv33 R R Z R R ex5 R) R (.sa R (.nil (.seqN (.seq (.seq (.reg (.mv R (.op (O.nc .Q Z R R) R (.op (O.faQ y4Z Z R R) R (.op (O.faQ y1h Z R R) R (.op (O.ld nag33 Z R .Q R R) R (.op (O.len sl33 Z R R) R (.mv R (.nil (.seqN (.block (bS hm fun o18 eo18 hm=>?_))))))))))))))))))))))))))
   refine .cut1 (z:= .exit 0) o18 (fun (o18:(List EdgL))=>⟨[(5,.h 0),(4,.q 1 0),(2,.q 3 0),(0,.o (lQ 289 [lF qI p0.1.1,lI p0.1.2.1,lF qI p0.1.2.2.1,lF qT p0.1.2.2.2,lF qI p0.2.1,lM kvI (rL qI) p0.2.2.1,lF rB p0.2.2.2] 0))],[(0,TAB y4a 33 124 none o18),(1,.bx 35 [lH 2,lI 0,lN,lN]),(2,ROW qI 3 r1),(3,.bx 35 [lN,lI 0,lN,lN])],4⟩) ?_ fun K20=>?_
   ·skip
    refine .blkE (.seqN (.seq (.reg (.op (O.mk2 (kv:=kvI) (r:=qI) 4 R Z R) R (.op (O.ins (k:=0) (v:=0) md229 (fun _ _=>eqI) Z R R (.o R) R .k) R (.mv R (.sa R (.nil (.seqN (.seq (.reg (.op (O.bsO (r:=qI) (zs:=([0]:List Int)) 5 R bs32 R R Z R R R (.c .k .n) R R R) R (.sa R (.nil (.seqN (.seq (.seq (.reg (.sa R (.nil (.seqN (.block (bS hm fun o68 eo68 hm=>?_)))))))))))))))))))))))
    refine .cut1 (z:= .exit 2) o68 (fun (o68:List Int×List Int×EdgL)=>⟨[(9,.h 0),(4,.q 1 0),(2,.q 5 0)],[(0,ROW qI 3 o68.1),(1,.bx 35 [lH 2,lI 0,lH 3,lH 4]),(2,ROW qI 3 r1),(3,ROW qI 3 o68.2.1),(4,ROW qT 124 o68.2.2),(5,.bx 35 [lN,lI 0,lN,lN])],6⟩) ?_ fun K72=>?_
    ·skip
     refine .blkE (.seqN (.seq (.reg (.mv R (.op (O.lenH sl32 Z R R R) R (.op (O.faP y1T Z R R) R (.op (O.st nag3.sz Z R R R R R) R (.nil (.seqN (.seq (.reg (.op (O.lg (l':=[lH 2,lI (o68.1.length:Int),lH 3,lH 4]) ag35 Z R (.B R) R R R) R (.mv R (.op (O.st ag35.sz Z R R R R R) R (.sa R (.nil (.seqN (.ret ?_))))))))))))))))))
     obtain rfl:=oi hm
     exact WX.rt [2,3,4,0] (.inl R) Tryz.results202 (.cell R R ag35 R (.tmp R .nil)) R (fun _ _ _ h=>h) ⟨⟨_,R,fun _ _ _ _ h=>h⟩,⟨_,R,fun _ _ _ _ h=>h⟩,⟨_,R,fun _ _ _ _ h=>h⟩,⟨_,R,fun _ _ _ _ h=>h⟩,trivial⟩
    refine .fz 0 [5] [] R R fTb R R (.nlb qI 3 1 2 R R (.nlb qT 124 1 3 R R (.iter (fun (st68:Int×List Int×(List (Int×Int))×List Int×EdgL)=>⟨[(10,.i st68.1),(9,.h 0),(8,.h 1),(5,.f (rL qT) o18),(4,.q 2 0),(2,.q 6 0),(0,.o (lQ 289 [lF qI p0.1.1,lI p0.1.2.1,lF qI p0.1.2.2.1,lF qT p0.1.2.2.2,lF qI p0.2.1,lM kvI (rL qI) p0.2.2.1,lF rB p0.2.2.2] 0))],[(0,ROW qI 3 st68.2.1),(1,MAP kvI qI 229 st68.2.2.1),(2,.bx 35 [lH 3,lI 0,lH 4,lH 5]),(3,ROW qI 3 r1),(4,ROW qI 3 st68.2.2.2.1),(5,ROW qT 124 st68.2.2.2.2),(6,.bx 35 [lN,lI 0,lN,lN])],7⟩) eo68 [(0,5),(1,4),(2,1),(3,2),(4,6),(5,7),(6,3)] R ?_)))
    intro st68 res68 hm ih68 ho68
    unfold yB at hm
    refine .seq (.seq (.reg (.mv R (.mv R (.op (O.lenH sl32 Z R R R) R (.bi R (.nil (.seqN ?_))))))))
    rcases ifS hm with ⟨hc,hm⟩ | ⟨hc,hm⟩
    ·refine .cT R hc ?_
     refine .skip (.seqN ?_)
     refine .join4 (fun (l73:List Int) (l74:List (Int×Int)) (l75:List Int) (l76:List (Int×Int×Int))=>yy st68 l73 l74 l75 l76=some res68) (fun l73 l74 l75 l76=>⟨[(10,.i st68.1),(9,.h 0),(8,.h 1),(5,.f (rL qT) o18),(4,.q 2 0),(2,.q 6 0),(0,.o (lQ 289 [lF qI p0.1.1,lI p0.1.2.1,lF qI p0.1.2.2.1,lF qT p0.1.2.2.2,lF qI p0.2.1,lM kvI (rL qI) p0.2.2.1,lF rB p0.2.2.2] 0))],[(0,ROW qI 3 l73),(1,MAP kvI qI 229 l74),(2,.bx 35 [lH 3,lI 0,lH 4,lH 5]),(3,ROW qI 3 r1),(4,ROW qI 3 l75),(5,ROW qT 124 l76),(6,.bx 35 [lN,lI 0,lN,lN])],7⟩) ?_ ?_
     ·intro l73 l74 l75 l76 hm
      unfold yy at hm
      exact .reg (.mv R (.bi R (.sa R (.nil ((ih68 _ (oi hm).symm).sub [] R)))))
     ·intro Jj77
      refine .block (.seq (.seq (.reg (.mv R (.mv R (.mv R (bS hm fun x78 ex78 hm=> .op (O.ir sl32 Z R R R ex78 R) R (.op (O.ld nag3 Z R (.R R ex78 lv3) R R) R (bS hm fun x79 ex79 hm=> .op (O.ix sl314 Z R R ex79 R) R (.op (O.ld nag33 Z R (.E lv33) R R) R (.op (O.len sl33 Z R R) R (.mv R (.nil (.seqN (.block (bS hm fun o95 eo95 hm=>?_))))))))))))))))
      refine .cut1 (z:= .exit 4) o95 (fun (o95:List Int×(List (Int×Int))×EdgL)=>⟨[(10,.i st68.1),(9,.h 0),(8,.h 1),(5,.f (rL qT) o18),(4,.q 2 0),(2,.q 6 0),(0,.o (lQ 289 [lF qI p0.1.1,lI p0.1.2.1,lF qI p0.1.2.2.1,lF qT p0.1.2.2.2,lF qI p0.2.1,lM kvI (rL qI) p0.2.2.1,lF rB p0.2.2.2] 0))],[(0,ROW qI 3 o95.1),(1,MAP kvI qI 229 o95.2.1),(2,.bx 35 [lH 3,lI 0,lH 4,lH 5]),(3,ROW qI 3 r1),(4,ROW qI 3 st68.2.2.2.1),(5,ROW qT 124 o95.2.2),(6,.bx 35 [lN,lI 0,lN,lN])],7⟩) ?_ fun K99=>?_
      ·skip
       refine .blkE (.seqN (.seq ?_))
       refine .sub (τ:=⟨[(10,.i st68.1),(9,.h 0),(8,.h 1),(5,.f (rL qT) o18),(4,.q 2 0),(2,.q 6 0),(0,.o (lQ 289 [lF qI p0.1.1,lI p0.1.2.1,lF qI p0.1.2.2.1,lF qT p0.1.2.2.2,lF qI p0.2.1,lM kvI (rL qI) p0.2.2.1,lF rB p0.2.2.2] 0))],[(0,ROW qI 3 o95.1),(1,MAP kvI qI 229 o95.2.1),(2,.bx 35 [lH 3,lI 0,lH 4,lH 5]),(3,ROW qI 3 r1),(4,ROW qI 3 st68.2.2.2.1),(5,ROW qT 124 o95.2.2),(6,.bx 35 [lN,lI 0,lN,lN])],7⟩) ?_ [] R
       refine bS hm fun x100 ex100 hm=>bS hm fun r101 er101 hm=>?_
       refine .drw [(7,[]),(7,[oT]),(7,[oT,oT]),(7,tT 3),(7,tT 4),(7,[]),(7,[]),(7,[oF,oF,oF,oF,oF,oT,oT]),(7,fA 5 (tT 3)),(7,tT 9)] [_,_,_,_,_,_,_,_,_,_] ⟨[(136,.b r101),(10,.i st68.1),(9,.h 0),(8,.h 1),(5,.f (rL qT) o18),(4,.q 2 0),(2,.q 6 0),(0,.o (lQ 289 [lF qI p0.1.1,lI p0.1.2.1,lF qI p0.1.2.2.1,lF qT p0.1.2.2.2,lF qI p0.2.1,lM kvI (rL qI) p0.2.2.1,lF rB p0.2.2.2] 0))],[(0,ROW qI 3 o95.1),(1,MAP kvI qI 229 o95.2.1),(2,.bx 35 [lH 3,lI 0,lH 4,lH 5]),(3,ROW qI 3 r1),(4,ROW qI 3 st68.2.2.2.1),(5,ROW qT 124 o95.2.2),(6,.bx 35 [lN,lI 0,lN,lN])],7⟩ ⟨O.mv Z R R,O.nc .Q Z R R,O.faQ y4Z Z R R,O.faQ y3l Z R R,O.ld nag32 Z R .Q R R,O.mv Z R R,O.mv Z R R,O.ir sl32 Z R R R ex100 R,O.ld nag3 Z R (.R R ex100 lv3) R R,O.ca0 (y2p er101) cf104 R R Z R R R,trivial⟩ (by kernel_rfl) R ?_
       refine .seqN ?_
       rcases ifS hm with ⟨hc,hm⟩ | ⟨hc,hm⟩
       ·refine .cT R hc ?_
        exact .reg (.op (O.faP y3l Z R R) R (.op (O.ld nag32 Z R (.B R) R R) R (.mv R (.op (O.bsF (r:=qI) (zs:=([st68.1]:List Int)) bs32 R R Z R R R (.c .k .n) R R R) R (bS hm fun x102 ex102 hm=> .op (O.ap 7 Tryz.underlying32 el3 R R Z R R (.fr R) ex102 R) R (.op (O.faP y3l Z R R) R (.op (O.st nag32.sz Z R R R R R) R (.nil (.blkN ((Jj77 _ _ _ _ hm).sub [(4,7)] R))))))))))
       ·refine .cF R hc ?_
        exact .skip (.blkN ((Jj77 _ _ _ _ hm).sub [] R))
      refine .iter (fun (st95:Int×List Int×(List (Int×Int))×EdgL)=>⟨[(92,.i st95.1),(91,.i (x79.length:Int)),(90,.f qT x79),(10,.i st68.1),(9,.h 0),(8,.h 1),(5,.f (rL qT) o18),(4,.q 2 0),(2,.q 6 0),(0,.o (lQ 289 [lF qI p0.1.1,lI p0.1.2.1,lF qI p0.1.2.2.1,lF qT p0.1.2.2.2,lF qI p0.2.1,lM kvI (rL qI) p0.2.2.1,lF rB p0.2.2.2] 0))],[(0,ROW qI 3 st95.2.1),(1,MAP kvI qI 229 st95.2.2.1),(2,.bx 35 [lH 3,lI 0,lH 4,lH 5]),(3,ROW qI 3 r1),(4,ROW qI 3 st68.2.2.2.1),(5,ROW qT 124 st95.2.2.2),(6,.bx 35 [lN,lI 0,lN,lN])],7⟩) eo95 [] R ?_
      intro st95 res95 hm ih95 ho95
      unfold yA at hm
      refine .seq (.reg (.bi R (.nil (.seqN (.seq ?_)))))
      rcases ifS hm with ⟨hc,hm⟩ | ⟨hc,hm⟩
      ·refine .cT R hc ?_
       refine .skip (.seqN (.seq (.block (.seq (.reg (bS hm fun x103 ex103 hm=> .op (O.ix sl33 Z R R ex103 R) R (.op (O.lg (l':=[lI x103.1,lI x103.2.1,lI x103.2.2]) ag124 Z R (.E lv124) R R R) R (.op (O.al 7 R zz124 R Z R) R (.op (O.st ag124.sz Z R R R R R) R (.nil (.seqN (.seq (.reg (.mv R (.op (O.faP y3g Z R R) R (.op (O.ld nag3 Z R (.B R) R R) R (.op (O.mi2 (k:=x103.2.2) md229 Z (.ow R R) (.o R) R) R (.mv R (.op (O.ex Z R R R) R (.op (O.ex Z R R R) R (.sa R (.sa R (.nil (.seqN ?_))))))))))))))))))))))))
       refine .join3 (fun (l104:List Int) (n105:Int) (l106:List (Int×Int))=>yz st68 x103 st95 l104 n105 l106=some res95) (fun l104 n105 l106=>⟨[(9,.h 0),(13,.i n105),(12,.q 1 0),(92,.i st95.1),(91,.i (x79.length:Int)),(90,.f qT x79),(10,.i st68.1),(8,.h 2),(5,.f (rL qT) o18),(4,.q 3 0),(2,.q 7 0),(0,.o (lQ 289 [lF qI p0.1.1,lI p0.1.2.1,lF qI p0.1.2.2.1,lF qT p0.1.2.2.2,lF qI p0.2.1,lM kvI (rL qI) p0.2.2.1,lF rB p0.2.2.2] 0))],[(0,ROW qI 3 l104),(1,.bx 124 [lI x103.1,lI x103.2.1,lI x103.2.2]),(2,MAP kvI qI 229 l106),(3,.bx 35 [lH 4,lI 0,lH 5,lH 6]),(4,ROW qI 3 r1),(5,ROW qI 3 st68.2.2.2.1),(6,ROW qT 124 st95.2.2.2),(7,.bx 35 [lN,lI 0,lN,lN])],8⟩) ?_ ?_
       ·intro l104 n105 l106 hm
        unfold yz at hm
        exact .reg (.op (O.faP y1h Z R R) R (.op (O.ld nag33 Z R (.B R) R R) R (.mv R (.op (O.faP y3Z Z R R) R (.op (O.ld nag3 Z R (.B R) R R) R (.mv R (.op (O.bu (l:=[lI st68.1,lI x103.2.1,lI n105]) pl124 R Z R R R) R (.op (O.bsF (r:=qT) (zs:=([(st68.1,x103.2.1,n105)]:List (Int×Int×Int))) bs33 R R Z R R R (.c (.p .k (.p .k .k)) .n) R R R) R (bS hm fun x108 ex108 hm=> .op (O.ap 8 Tryz.underlying33 el124 R R Z R R (.fr R) ex108 R) R (.op (O.faP y1h Z R R) R (.op (O.st nag33.sz Z R R R R R) R (.nil (.blkN (.seqN (.reg (.bi R (.mv R (.nil ((ih95 _ (oi hm).symm).sub [(1,2),(2,3),(3,4),(4,5),(5,8),(6,7)] R)))))))))))))))))))
       ·intro Jj107
        refine .seq (.reg (.mv R (.op (O.not Z R R) R (.nil (.seqN ?_)))))
        rcases ifS hm with ⟨hc,hm⟩ | ⟨hc,hm⟩
        ·refine .cT R hc ?_
         exact .seq (.reg (.mv R (.op (O.lenH sl32 Z R R R) R (.sa R (.nil (.seqN (.seq (.reg (.mv R (.op (O.faP y3g Z R R) R (.op (O.ld nag3 Z R (.B R) R R) R (.mv R (.op (O.mu (k:=x103.2.2) (v:=(st95.2.1.length:Int)) md229 (fun _ _=>eqI) Z R R (.o R) R .k) R (.nil (.seqN (.reg (.mv R (.op (O.faP y3g Z R R) R (.op (O.ld nag3 Z R (.B R) R R) R (.op (O.bsF (r:=qI) (zs:=([x103.2.2]:List Int)) bs32 R R Z R R R (.c .k .n) R R R) R (bS hm fun x109 ex109 hm=> .op (O.ap 8 Tryz.underlying32 el3 R R Z R R (.fr R) ex109 R) R (.sa R (.nil ((Jj107 _ _ _ hm).sub [(0,8),(1,7),(2,1),(3,2),(4,3),(5,4),(6,5),(7,6)] R))))))))))))))))))))))))
        ·refine .cF R hc ?_
         exact .skip ((Jj107 _ _ _ hm).sub [(1,7),(2,1),(3,2),(4,3),(5,4),(6,5),(7,6)] R)
      ·refine .cF R hc ?_
       exact .exit (.seqX (.seqX ((K99 _ (ho95 _ (oi hm).symm)).sub [] R)))
    ·refine .cF R hc ?_
     exact .exit (.seqX (.seqX ((K72 _ (ho68 _ (oi hm).symm)).sub [(1,2),(2,3),(3,4),(4,5),(5,6)] R)))
   refine .iter (fun (st18:Int×(List EdgL))=>⟨[(50,.i st18.1),(49,.i (p0.1.2.2.2.length:Int)),(48,.f qT p0.1.2.2.2),(5,.h 0),(4,.q 1 0),(2,.q 3 0),(0,.o (lQ 289 [lF qI p0.1.1,lI p0.1.2.1,lF qI p0.1.2.2.1,lF qT p0.1.2.2.2,lF qI p0.2.1,lM kvI (rL qI) p0.2.2.1,lF rB p0.2.2.2] 0))],[(0,TAB y4a 33 124 none st18.2),(1,.bx 35 [lH 2,lI 0,lN,lN]),(2,ROW qI 3 r1),(3,.bx 35 [lN,lI 0,lN,lN])],4⟩) eo18 [(0,3),(1,2),(2,1),(3,0)] R ?_
   intro st18 res18 hm ih18 ho18
   unfold yD at hm
   refine .seq (.reg (.bi R (.nil (.seqN (.seq ?_)))))
   rcases ifS hm with ⟨hc,hm⟩ | ⟨hc,hm⟩
   ·refine .cT R hc ?_
    refine .skip (.seqN ?_)
    refine .join1 (fun (l110:List EdgL)=>yC st18 l110=some res18) (fun l110=>⟨[(50,.i st18.1),(49,.i (p0.1.2.2.2.length:Int)),(48,.f qT p0.1.2.2.2),(5,.h 0),(4,.q 1 0),(2,.q 3 0),(0,.o (lQ 289 [lF qI p0.1.1,lI p0.1.2.1,lF qI p0.1.2.2.1,lF qT p0.1.2.2.2,lF qI p0.2.1,lM kvI (rL qI) p0.2.2.1,lF rB p0.2.2.2] 0))],[(0,TAB y4a 33 124 none l110),(1,.bx 35 [lH 2,lI 0,lN,lN]),(2,ROW qI 3 r1),(3,.bx 35 [lN,lI 0,lN,lN])],4⟩) ?_ ?_
    ·intro l110 hm
     unfold yC at hm
     exact .reg (.bi R (.mv R (.nil ((ih18 _ (oi hm).symm).sub [] R))))
    ·intro Jj111
     refine .block (.seq (.reg (bS hm fun x112 ex112 hm=> .op (O.ix sl33 Z R R ex112 R) R (.op (O.lg (l':=[lI x112.1,lI x112.2.1,lI x112.2.2]) ag124 Z R (.E lv124) R R R) R (.op (O.al 4 R zz124 R Z R) R (.op (O.st ag124.sz Z R R R R R) R (.nil (.seqN (.seq ?_)))))))))
     refine .sub (τ:=⟨[(7,.q 4 0),(50,.i st18.1),(49,.i (p0.1.2.2.2.length:Int)),(48,.f qT p0.1.2.2.2),(5,.h 0),(4,.q 1 0),(2,.q 3 0),(0,.o (lQ 289 [lF qI p0.1.1,lI p0.1.2.1,lF qI p0.1.2.2.1,lF qT p0.1.2.2.2,lF qI p0.2.1,lM kvI (rL qI) p0.2.2.1,lF rB p0.2.2.2] 0))],[(4,.bx 124 [lI x112.1,lI x112.2.1,lI x112.2.2]),(0,TAB y4a 33 124 none st18.2),(1,.bx 35 [lH 2,lI 0,lN,lN]),(2,ROW qI 3 r1),(3,.bx 35 [lN,lI 0,lN,lN])],5⟩) ?_ [] R
     refine bS hm fun x113 ex113 hm=>?_
     refine .drw [(5,[]),(5,[oT]),(5,[oT,oT]),(5,tT 3),(5,[]),(5,[oF,oF,oF,oF,oT]),(5,tT 6),(5,tT 7)] [_,_,_,_,_,_,_,_] ⟨[(61,.b x113),(7,.q 4 0),(50,.i st18.1),(49,.i (p0.1.2.2.2.length:Int)),(48,.f qT p0.1.2.2.2),(5,.h 0),(4,.q 1 0),(2,.q 3 0),(0,.o (lQ 289 [lF qI p0.1.1,lI p0.1.2.1,lF qI p0.1.2.2.1,lF qT p0.1.2.2.2,lF qI p0.2.1,lM kvI (rL qI) p0.2.2.1,lF rB p0.2.2.2] 0))],[(4,.bx 124 [lI x112.1,lI x112.2.1,lI x112.2.2]),(0,TAB y4a 33 124 none st18.2),(1,.bx 35 [lH 2,lI 0,lN,lN]),(2,ROW qI 3 r1),(3,.bx 35 [lN,lI 0,lN,lN])],5⟩ ⟨O.mv Z R R,O.nc .Q Z R R,O.faQ y3L Z R R,O.ld y4g Z R .Q R R,O.faP y3g Z R R,O.ld nag3 Z R (.B R) R R,O.ix sl144 Z R R ex113 R,O.ld nag4 Z R (.E lv4) R R,trivial⟩ (by kernel_rfl) R ?_
     refine .seqN ?_
     rcases ifS hm with ⟨hc,hm⟩ | ⟨hc,hm⟩
     ·refine .cT R hc ?_
      refine .sub (τ:=⟨[(7,.q 4 0),(50,.i st18.1),(49,.i (p0.1.2.2.2.length:Int)),(48,.f qT p0.1.2.2.2),(5,.h 0),(4,.q 1 0),(2,.q 3 0),(0,.o (lQ 289 [lF qI p0.1.1,lI p0.1.2.1,lF qI p0.1.2.2.1,lF qT p0.1.2.2.2,lF qI p0.2.1,lM kvI (rL qI) p0.2.2.1,lF rB p0.2.2.2] 0))],[(4,.bx 124 [lI x112.1,lI x112.2.1,lI x112.2.2]),(0,TAB y4a 33 124 none st18.2),(1,.bx 35 [lH 2,lI 0,lN,lN]),(2,ROW qI 3 r1),(3,.bx 35 [lN,lI 0,lN,lN])],5⟩) ?_ [] R
      refine bS hm fun x114 ex114 hm=>bS hm fun x115 ex115 hm=>bS hm fun x116 ex116 hm=>bS hm fun x117 ex117 hm=>?_
      refine .drz 7 [(7,0),(7,5),(10,6)] [(5,[],[0],[]),(5,[],[0],[]),(5,[oF,oT],[0],[]),(5,[],[],[]),(5,[],[],[]),(5,[oF,oF,oF,oF,oT],[],[]),(5,[oF,oF,oF,oT,oT,oT],[],[]),(5,[oF,oF,oF,oT,oT,oT,oT],[],[]),(5,[],[0],[]),(5,[oF,oF,oF,oF,oF,oF,oF,oF,oT],[0],[]),(6,[oF,oF,oF,oT,oT,oT,oT,oT,oT,oT],[],[]),(7,[oT,oT,oT,oT,oT,oT,oT,oT,oT,oT,oT],[],[(7,5)]),(7,[oT,oT,oT,oT,oT,oT,oT,oT,oT,oT,oT,oT],[],[(7,5)])] [_,_,_,_,_,_,_,_,_,_,_,_,_] ⟨[(50,.i st18.1),(49,.i (p0.1.2.2.2.length:Int)),(48,.f qT p0.1.2.2.2),(5,.h 0),(4,.q 1 0),(2,.q 3 0),(0,.o (lQ 289 [lF qI p0.1.1,lI p0.1.2.1,lF qI p0.1.2.2.1,lF qT p0.1.2.2.2,lF qI p0.2.1,lM kvI (rL qI) p0.2.2.1,lF rB p0.2.2.2] 0))],[(0,TAB y4a 33 124 none x117),(1,.bx 35 [lH 2,lI 0,lN,lN]),(2,ROW qI 3 r1),(3,.bx 35 [lN,lI 0,lN,lN])],7⟩ ⟨O.mv Z R R,O.faP y2j Z R R,O.ld nag3 Z R (.B R) R R,O.mv Z R R,O.faP y2j Z R R,O.ld nag3 Z R (.B R) R R,O.irT sl314 Z R R R ex114 R,O.ldT 5 nag33 R Z R R ex114 R,O.lg (l':=[lI x112.1,lI x112.2.1,lI x112.2.2]) ag124 Z R (.B R) R R R,O.bsF (r:=qT) (zs:=([x112]:List (Int×Int×Int))) bs33 R R Z R R R (.c (.p .k (.p .k .k)) .n) R R R,O.ap 6 Tryz.underlying33 el124 R R Z R R (.fr R) ex115 R,O.irT sl314 Z R R R ex116 R,O.stT nag33.sz Z R R ex117 R R R (fun _ e=>by cases e;rfl),trivial⟩ (by kernel_rfl) R ?_
      exact .blkN ((Jj111 _ hm).sub [] R)
     ·refine .cF R hc ?_
      exact .skip (.blkN ((Jj111 _ hm).sub [] R))
   ·refine .cF R hc ?_
    exact .exit (.seqX (.seqX ((K20 _ (ho18 _ (oi hm).symm)).sub [] R)))
 ·intro J4
  rcases ifS eb2 with ⟨hc,hm⟩ | ⟨hc,hm⟩
  ·refine .know (d:=28) R hc ?_
   exact .sk R (.sk R (.sk R (.sk R (.sk R (.sk R (.sk R (.op (O.pkT Z R R R R) R ((J4 true (oi hm).symm).sub [] R))))))))
  ·refine .know (d:=28) R hc ?_
   exact .op (O.mv (Gu.mk R R) R R) R (.op (O.nc .Q (Gu.mk R R) R R) R (.op (O.faQ y3L (Gu.mk R R) R R) R (.op (O.ld y4g (Gu.mk R R) R .Q R R) R (bS hm fun x118 ex118 hm=> .op (O.ix sl144 (Gu.mk R R) R R ex118 R) R (.op (O.ld nag4 (Gu.mk R R) R (.E lv4) R R) R (.op (O.not (Gu.mk R R) R R) R (.op (O.pkF Z R R R R) R ((J4 (!x118) (oi hm).symm).sub [] R))))))))
end
end Go.Proofs.YtecmobjeeonmaaaGreatDoor
namespace Go.Proofs.YtecmobjeeonmaaaGreatDoor
open Go Go.RowKit Go.Sort Go.Lib
theorem y8n {β:Type} {f:β→List Value} {k:Nat} (hk:∀x,(f x).length=k) (k0:0 < k):∀(l:List β) (t:Nat),(l.flatMap f)[t]? =(l[t / k]?).bind fun x=>(f x)[t % k]?
 | [],t=>by simp
 | x :: l,t=>by
  rw [List.flatMap_cons]
  by_cases h:t < k
  ·rw [List.getElem?_append_left (by rw [hk];exact h),Nat.div_eq_of_lt h,Nat.mod_eq_of_lt h]
   rfl
  ·obtain ⟨u,rfl⟩:∃u,t=u + k:=⟨t - k,by omega⟩
   rw [List.getElem?_append_right (by rw [hk];omega),hk,Nat.add_sub_cancel,y8n hk k0 l u,Nat.add_div_right u k0,Nat.add_mod_right]
   rfl
theorem ya5 {β:Type} {f:β→List Value} {k:Nat} (hk:∀x,(f x).length=k):∀l:List β,(l.flatMap f).length=l.length * k
 | []=>by simp
 | x :: l=>by rw [List.flatMap_cons,List.length_append,hk,ya5 hk l,List.length_cons,Nat.succ_mul,Nat.add_comm]
theorem Cells.enc {α:Type} {r:Rep α} {enc:α→List Value} (hr:∀s cs x,r.rd s cs x↔cs=enc x) {s:Sig}:∀{cs:List Value} {xs:List α},Cells r s cs xs↔cs=xs.flatMap enc
 | cs,[]=>by simp [Cells]
 | cs,x :: xs=>by
  rw [List.flatMap_cons]
  constructor
  ·rintro ⟨c,d,rfl,h1,h2⟩
   rw [(hr _ _ _).1 h1,(Cells.enc hr).1 h2]
  ·intro h
   exact⟨_,_,h,(hr _ _ _).2 rfl,(Cells.enc hr).2 rfl⟩
theorem yaT {w:World} {b off n:Nat} {d:Array Value} {os:Array Obj} {cur:Array Value} {T:TypeId} (h:w.heap[b]? =some (.cells cur T (0,0))):(grow (putRow id (Sort.ahead w n) b off d) os).heap[b]? =some (.cells (putCells id off d cur) T (0,0)):=by
 have hb:b < w.heap.size:=(Array.getElem?_eq_some_iff.1 h).1
 show((w.heap.modify b (onCells (putCells id off d))) ++ os)[b]? =_
 rw [Array.getElem?_append_left (by simpa using hb),Array.getElem?_modify,if_pos rfl,h]
 rfl
theorem yaU {w:World} {b b' off n:Nat} {d:Array Value} {os:Array Obj} (hb:b' < w.heap.size) (hne:b'≠b):(grow (putRow id (Sort.ahead w n) b off d) os).heap[b']? =w.heap[b']? :=by
 show((w.heap.modify b (onCells (putCells id off d))) ++ os)[b']? =_
 rw [Array.getElem?_append_left (by simpa using hb),Array.getElem?_modify,if_neg (Ne.symm hne)]
theorem RowT.sortK {α:Type} {r:Rep α} {enc:α→List Value} (hr:∀s cs x,r.rd s cs x↔cs=enc x) (hk:∀x,(enc x).length=r.sz) (k0:0 < r.sz) {s:Sig} {t:Nat} {T:TypeId} {a:Option Addr} {cap:Nat} {xs:List α} (h:RowT r s t T a cap xs) [Inhabited (_root_.Fin xs.length)] (h0:0 < xs.length) (ht:0 < t):
  ∃b off,a=some ⟨b,off,none⟩∧b < s.w.heap.size∧s.tag b=t∧HoldsK (fun i:_root_.Fin xs.length=>enc (xs.get i)) r.sz s.w b off (List.finRange xs.length).toArray∧∀(d:Array (_root_.Fin xs.length)) (n:Nat) (os:Array Obj),d.size=xs.length→
   ∃s',sortWorldK (fun i=>enc (xs.get i)) r.sz s.w b off n d os=s'.w∧Mv (One t) s s'∧RowT r s' t T (some ⟨b,off,none⟩) cap (d.toList.map xs.get):=by
 obtain⟨cs,⟨hl,hrow⟩,hc⟩:=h
 rcases hrow with ⟨e,hn⟩ | ⟨b,off,cap',cur,e,ho,k1,k2,k3,k4⟩
 ·omega
 simp only [Value.slice.injEq,true_and] at e
 obtain⟨rfl,rfl⟩:=e
 have hcs:=(Cells.enc hr).1 hc
 have hkF:∀i:_root_.Fin xs.length,(enc (xs.get i)).length=r.sz:=fun i=>hk _
 have hb:b < s.w.heap.size:=(Array.getElem?_eq_some_iff.1 ho.heap).1
 have hdz:∀(d:Array (_root_.Fin xs.length)) (j:Nat),d.size=xs.length→j < xs.length * r.sz→∃(q:Nat) (hq:q < d.size) (x:Value),q=j / r.sz∧(enc (xs.get d[q]))[j % r.sz]? =some x∧(flatK (fun i:_root_.Fin xs.length=>enc (xs.get i)) r.sz d)[j]! =x:=fun d j hd hj=>by
  have hq:j / r.sz < d.size:=by rw [hd];exact Nat.div_lt_of_lt_mul (by rw [Nat.mul_comm];exact hj)
  have hm:j % r.sz < (enc (xs.get d[j / r.sz])).length:=by rw [hk];exact Nat.mod_lt _ k0
  refine⟨_,hq,_,rfl,yGe hm,?_⟩
  rw [get_flatK _ _ _ _ (by rw [hd];exact hj),getElem!_pos d _ hq,getElem!_pos (enc (xs.get d[j / r.sz])) _ hm]
 refine⟨b,off,rfl,hb,ho.htag,fun j hj=>?_,fun d n os hd=>?_⟩
 ·have hj':j < xs.length * r.sz:=by simpa using hj
  obtain⟨q,hq,x,rfl,h1,h2⟩:=hdz (List.finRange xs.length).toArray j (by simp) hj'
  have hcell:cur[off + j]? =some x:=by
   have e2:cs[j]? =cur.toList[off + j]? :=by rw [←k4,List.getElem?_take,if_pos hj',List.getElem?_drop]
   rw [hcs,y8n hk k0] at e2
   have hx:xs[j / r.sz]? =some (xs.get ((List.finRange xs.length).toArray[j / r.sz])):=by
    rw [yGe (by simpa using hq)]
    simp
   rw [hx,yOb,h1] at e2
   rw [←Array.getElem?_toList]
   exact e2.symm
  refine⟨?_,?_⟩
  ·unfold World.cell?
   rw [ho.heap]
   show cur[off + j]? =_
   rw [hcell,h2]
   rfl
  ·unfold World.frozen?
   rw [ho.heap]
   show(decide (0≤off + j) && decide (off + j < 0))=false
   simp
 ·have hm:Mv (One t) s ⟨sortWorldK (fun i=>enc (xs.get i)) r.sz s.w b off n d os,fun b=>if b < s.w.heap.size then s.tag b else 0⟩:=⟨rfl,rfl,rfl,(by show _≤((s.w.heap.modify b _) ++ os).size;simp),fun b' hb' hn=>⟨yaU hb' fun e=>hn (by rw [e];exact ho.htag),if_pos hb'⟩⟩
  refine⟨_,rfl,hm,(d.toList.map xs.get).flatMap enc,⟨by rw [ya5 hk],.inr ⟨b,off,cap,putCells id off (flatK (fun i:_root_.Fin xs.length=>enc (xs.get i)) r.sz d) cur,rfl,⟨yaT ho.heap,?_,Nat.zero_le _⟩,?_,k2,?_,?_⟩⟩,(Cells.enc hr).2 rfl⟩
  ·show (if b < s.w.heap.size then s.tag b else 0)=t
   rw [if_pos hb];exact ho.htag
  ·rw [List.length_map,Array.length_toList,hd];exact k1
  ·rw [putCells,Array.size_mapIdx];exact k3
  ·apply List.ext_getElem?
   intro j
   have hmul:xs.length * r.sz≤cap * r.sz:=Nat.mul_le_mul_right _ k1
   rw [List.getElem?_take,List.getElem?_drop,List.length_map,Array.length_toList,hd,y8n hk k0,List.getElem?_map]
   by_cases hj:j < xs.length * r.sz
   ·obtain ⟨q,hq,x,rfl,h1,h2⟩:=hdz d j hd hj
    rw [if_pos hj,Array.getElem?_toList,putCells,Array.getElem?_mapIdx,Array.getElem?_eq_getElem (by omega),Option.map_some,if_pos ⟨by omega,by rw [size_flatK,hd];omega⟩,Nat.add_sub_cancel_left,h2,Array.getElem?_toList,Array.getElem?_eq_getElem hq,Option.map_some,yOb,h1]
    rfl
   ·rw [if_neg hj]
    have hdj:¬j / r.sz < d.size:=fun hlt=>hj (by
     have:=(Nat.div_lt_iff_lt_mul k0).1 hlt
     rw [hd] at this
     exact this)
    rw [Array.getElem?_toList,Array.getElem?_eq_none (by omega)]
    rfl
end Go.Proofs.YtecmobjeeonmaaaGreatDoor
namespace Go.Proofs
open Go.Shelf
def Tryz.sortR_ren :Go.Shelf.Ren:=⟨fun | 6=>199 | 15=>234 | 14=>233 | 28=>254 | 29=>255 | 20=>246 | 21=>247 | 22=>248 | 23=>249 | 24=>250 | 25=>251 | 26=>252 | 27=>253 | 46=>273 | 47=>274 | 48=>275 | 49=>276 | 50=>277 | 57=>299 | n=>n,fun | 22=>127 | 24=>286 | 25=>291 | 3=>3 | 39=>295 | 0=>0 | 53=>334 | 55=>336 | 4=>4 | 46=>328 | 45=>327 | 50=>170 | 5=>5 | 9=>9 | 66=>351 | 70=>355 | 76=>378 | 77=>58 | n=>n,fun | n=>n⟩
theorem Tryz.sortR :Go.Proofs.SlLaysF0.n6 Tryz.prog Tryz.sortR_ren:={
 mixed:=by kernel_rfl
 f6:=⟨Tryz.f199.name,by decide,Tryz.func199.trans (congrArg some (by kernel_rfl))⟩
 f14:=⟨Tryz.f233.name,by decide,Tryz.func233.trans (congrArg some (by kernel_rfl))⟩
 f15:=Tryz.func234.trans (congrArg some (by kernel_rfl))
 f20:=⟨Tryz.f246.name,by decide,Tryz.func246.trans (congrArg some (by kernel_rfl))⟩
 f21:=⟨Tryz.f247.name,by decide,Tryz.func247.trans (congrArg some (by kernel_rfl))⟩
 f22:=⟨Tryz.f248.name,by decide,Tryz.func248.trans (congrArg some (by kernel_rfl))⟩
 f23:=⟨Tryz.f249.name,by decide,Tryz.func249.trans (congrArg some (by kernel_rfl))⟩
 f24:=⟨Tryz.f250.name,by decide,Tryz.func250.trans (congrArg some (by kernel_rfl))⟩
 f25:=⟨Tryz.f251.name,by decide,Tryz.func251.trans (congrArg some (by kernel_rfl))⟩
 f26:=⟨Tryz.f252.name,by decide,Tryz.func252.trans (congrArg some (by kernel_rfl))⟩
 f27:=⟨Tryz.f253.name,by decide,Tryz.func253.trans (congrArg some (by kernel_rfl))⟩
 f28:=Tryz.func254.trans (congrArg some (by kernel_rfl))
 f29:=Tryz.func255.trans (congrArg some (by kernel_rfl))
 f46:=⟨Tryz.f273.name,by decide,Tryz.func273.trans (congrArg some (by kernel_rfl))⟩
 f47:=Tryz.func274.trans (congrArg some (by kernel_rfl))
 f48:=Tryz.func275.trans (congrArg some (by kernel_rfl))
 f49:=⟨Tryz.f276.name,by decide,Tryz.func276.trans (congrArg some (by kernel_rfl))⟩
 f50:=⟨Tryz.f277.name,by decide,Tryz.func277.trans (congrArg some (by kernel_rfl))⟩
 f57:=⟨Tryz.f299.name,by decide,Tryz.func299.trans (congrArg some (by kernel_rfl))⟩
 t0:=Tryz.underlying0
 a0:=Tryz.isAgg0
 z0:=Tryz.sizeOf0
 v0:=Tryz.zeroValue0
 t3:=Tryz.underlying3
 a3:=Tryz.isAgg3
 z3:=Tryz.sizeOf3
 v3:=Tryz.zeroValue3
 t4:=Tryz.underlying4
 a4:=Tryz.isAgg4
 z4:=Tryz.sizeOf4
 v4:=Tryz.zeroValue4
 t5:=Tryz.underlying5
 a5:=Tryz.isAgg5
 z5:=Tryz.sizeOf5
 v5:=Tryz.zeroValue5
 t9:=Tryz.underlying9
 a9:=Tryz.isAgg9
 z9:=Tryz.sizeOf9
 v9:=Tryz.zeroValue9
 t22:=Tryz.underlying127
 a22:=Tryz.isAgg127
 z22:=Tryz.sizeOf127
 v22:=Tryz.zeroValue127
 t25:=Tryz.underlying291
 a25:=Tryz.isAgg291
 z25:=Tryz.sizeOf291
 v25:=Tryz.zeroValue291
 t39:=Tryz.underlying295
 a39:=Tryz.isAgg295
 z39:=Tryz.sizeOf295
 v39:=Tryz.zeroValue295
 t45:=Tryz.underlying327
 a45:=Tryz.isAgg327
 z45:=Tryz.sizeOf327
 v45:=Tryz.zeroValue327
 t46:=Tryz.underlying328
 a46:=Tryz.isAgg328
 z46:=Tryz.sizeOf328
 v46:=Tryz.zeroValue328
 t50:=Tryz.underlying170
 a50:=Tryz.isAgg170
 z50:=Tryz.sizeOf170
 v50:=Tryz.zeroValue170
 t53:=Tryz.underlying334
 a53:=Tryz.isAgg334
 z53:=Tryz.sizeOf334
 v53:=Tryz.zeroValue334
 t55:=Tryz.underlying336
 a55:=Tryz.isAgg336
 z55:=Tryz.sizeOf336
 v55:=Tryz.zeroValue336
 t66:=Tryz.underlying351
 a66:=Tryz.isAgg351
 z66:=Tryz.sizeOf351
 v66:=Tryz.zeroValue351
 t70:=Tryz.underlying355
 a70:=Tryz.isAgg355
 z70:=Tryz.sizeOf355
 v70:=Tryz.zeroValue355
 t76:=Tryz.underlying378
 a76:=Tryz.isAgg378
 z76:=Tryz.sizeOf378
 v76:=Tryz.zeroValue378
 t77:=Tryz.underlying58
 a77:=Tryz.isAgg58
 z77:=Tryz.sizeOf58
 v77:=Tryz.zeroValue58 }
end Go.Proofs
namespace Go.Proofs.YtecmobjeeonmaaaGreatDoor
open Go Go.RowKit Go.Sort Go.Lib
def encR (x:Int×Int×Int×Int):List Value:=[.int .i64 x.1,.int .i64 x.2.1,.int .i64 x.2.2.1,.int .i64 x.2.2.2]
theorem ycN (s:Sig) (cs:List Value) (x:Int×Int×Int×Int):(rP qI (rP qI (rP qI qI))).rd s cs x↔cs=encR x:=by
 constructor
 ·rintro ⟨_,_,rfl,rfl,_,_,rfl,rfl,_,_,rfl,rfl,rfl⟩
  rfl
 ·rintro rfl
  exact⟨_,_,rfl,rfl,_,_,rfl,rfl,_,_,rfl,rfl,rfl⟩
noncomputable def y1p (p0:List (Int×Int×Int×Int)):Option (List (Int×Int×Int×Int)):=
 if h:(∀x∈p0,0≤x.1∧x.1 < 4294967296)∧p0.length≤4294967296∧0 < p0.length then
  haveI:Inhabited (_root_.Fin p0.length):=⟨⟨0,h.2.2⟩⟩
  some ((pdq (ltOf fun i j:_root_.Fin p0.length=>(p0.get i).1 - (p0.get j).1) (List.finRange p0.length).toArray 0 p0.length (Lib.bitLen p0.length) true true).toList.map p0.get)
 else if p0= [] then some [] else none
set_option maxHeartbeats 2000000 in
theorem yag (x y:Int×Int×Int×Int) (w:World) (hx:0≤x.1∧x.1 < 4294967296) (hy:0≤y.1∧y.1 < 4294967296):
  Calls Tryz.prog 200 #[.agg (encR x).toArray,.agg (encR y).toArray] w fun e w'=>e= .returned (.int .i64 (x.1 - y.1))∧∃q os',w'=grow (w.drewN q) os':=by
 obtain⟨x1,x2,x3,x4⟩:=x
 obtain⟨y1,y2,y3,y4⟩:=y
 simp only at hx hy ⊢
 show Calls Tryz.prog _ #[.agg #[.int .i64 x1,.int .i64 x2,.int .i64 x3,.int .i64 x4],.agg #[.int .i64 y1,.int .i64 y2,.int .i64 y3,.int .i64 y4]] w _
 go_enter Tryz.func200,Tryz.ntmps200
 go_wp2_with fail
 go_ret
 exact⟨rfl,0,_,by rw [alloc_eq_grow,alloc_eq_grow,grow_grow];rfl⟩
theorem y5E {s:Sig} {p0:List (Int×Int×Int×Int)} {t0:Nat} {a1:Option Addr} {c1:Nat} {r:List (Int×Int×Int×Int)} (zt0:0 < t0) (h1:RowT (rP qI (rP qI (rP qI qI))) s t0 286 a1 c1 p0) (hm:y1p p0=some r):
  Calls Tryz.prog 199 #[.slice a1 p0.length c1,.func (.func 200) #[] #[]] s.w (RetS (One t0) s fun v s'=>v= .tuple #[]∧r.length=p0.length∧RowT (rP qI (rP qI (rP qI qI))) s' t0 286 a1 c1 r):=by
 unfold y1p at hm
 split at hm
 ·rename_i h
  obtain⟨hb,hl,h0⟩:=h
  letI:Inhabited (_root_.Fin p0.length):=⟨⟨0,h0⟩⟩
  obtain⟨b,off,rfl,hblk,htag,hH,hput⟩:=h1.sortK ycN (fun _=>rfl) (by decide) h0 zt0
  have hin:∀i:_root_.Fin p0.length,0≤(p0.get i).1∧(p0.get i).1 < 4294967296:=fun i=>hb _ (List.get_mem _ _)
  have hO:SWO (ltOf fun i j:_root_.Fin p0.length=>(p0.get i).1 - (p0.get j).1):=⟨fun i=>by unfold ltOf;simp,fun i j k g1 g2=>by unfold ltOf at *;simp at *;omega,fun i j k g1 g2=>by unfold ltOf at *;simp at *;omega⟩
  have eg:∀args w,(callFunc 200 args).run Tryz.prog w= .ok (.enter 200 args) w:=enters_of Tryz.func200 (by kernel_rfl) rfl
  have hsz:(List.finRange p0.length).toArray.size=p0.length:=by simp
  have hcmp:CmpLays Tryz.prog 200 #[] (fun i:_root_.Fin p0.length=>encR (p0.get i)) 4 (fun i j=>(p0.get i).1 - (p0.get j).1) b off (List.finRange p0.length).toArray.size s.w:=fun m os dk hdk i j=>yag _ _ _ (hin i) (hin j)
  have hS:=AnyQ.slices_SortFunc_eq Tryz.sortR 4 Tryz.isAgg286 Tryz.sizeOf286 (fun i:_root_.Fin p0.length=>encR (p0.get i)) (fun _=>rfl) (fun x v hv=>by simp [encR] at hv;rcases hv with rfl | rfl | rfl | rfl <;> rfl) (fun i j=>(p0.get i).1 - (p0.get j).1) hO 200 #[] b off c1 (List.finRange p0.length).toArray s.w eg hcmp hH hblk (by rw [hsz];omega)
  rw [hsz] at hS
  have hS:Calls Tryz.prog 199 #[.slice (some ⟨b,off,none⟩) p0.length c1,.func (.func 200) #[] #[]] s.w _:=hS
  refine hS.mono ?_
  rintro e w' ⟨rfl,n,os,rfl⟩
  have hz:=(pdq_sorts (ltOf fun i j:_root_.Fin p0.length=>(p0.get i).1 - (p0.get j).1) hO (List.finRange p0.length).toArray 0 p0.length (Lib.bitLen p0.length) true true (Nat.zero_le _) (Nat.le_of_eq hsz.symm) (Or.inl rfl)).1.1
  rw [hsz] at hz
  obtain⟨s',hw',hm',hr⟩:=hput _ n os hz
  cases hm
  exact⟨_,s',hw',rfl,hm',rfl,by rw [List.length_map,Array.length_toList,hz],hr⟩
 ·split at hm
  ·rename_i h0
   cases hm
   subst h0
   refine(AnyF.slices_SortFunc_none (P:=Tryz.prog) (ρ:=Tryz.sortR_ren) Tryz.sortR a1 c1 (.func (.func 200) #[] #[]) s.w).mono ?_
   rintro e w' ⟨rfl,rfl⟩
   exact⟨_,s,rfl,rfl,Mv.refl _ _,rfl,rfl,h1⟩
  ·cases hm
theorem y5F {p0:List (Int×Int×Int×Int)} {r:List (Int×Int×Int×Int)} (hm:y1p p0=some r):Fw Tryz.prog 199 ⟨1,[0]⟩ [.h 0,.o (lV (.func (.func 200) #[] #[]))] [ROW (rP qI (rP qI (rP qI qI))) 286 p0] (.tp []) [ROW (rP qI (rP qI (rP qI qI))) 286 r]:=
 ⟨fun ts β s vs ht _ _ hp ⟨v,us,h,⟨v2,us2,h2,hu,e3⟩,e2⟩ ho=>by
  have hu:us2= []:=hu
  subst hu;subst e3;subst e2
  obtain⟨rfl,_⟩:=h2
  obtain⟨t,rfl⟩:∃t,ts= [t]:=by
   match ts,ht with
   | [t],_=>exact⟨t,rfl⟩
  obtain⟨a,c,e,h2⟩:=ho 0 _ rfl
  have hv:v= .slice a p0.length c:=h.1.trans e
  subst hv
  exact Calls.mono (y5E (hp t (.head _)) h2 hm) fun en w' ⟨v,s',e1,e2,m,hv,hl,hr⟩=>⟨v,s',e1,e2,m.weak fun t' ht'=>⟨0,.head _,by rw [show t'=t from ht'];rfl⟩,β,fun _ _=>rfl,⟨[],rfl,hv⟩,fun i o ho=>by
   match i,ho with
   | 0,ho=>cases ho;exact⟨a,c,by rw [e,hl],hr⟩⟩⟩
end Go.Proofs.YtecmobjeeonmaaaGreatDoor
set_option maxRecDepth 100000
set_option maxHeartbeats 8000000
namespace Go.Proofs.YtecmobjeeonmaaaGreatDoor
open Go Go.RowKit
noncomputable section
def y2a (st57:Int×List Int×List Int) (l62:List Int) (l63:List Int):Option ((Int×List Int×List Int) ⊕ (List Int×List Int)):=
 some (.inl (W (st57.1 + 1),l62,l63))
def y2b (o37:(List (Int×Int×Int×Int))×Int×List Bool) (r43:List Int) (st57:Int×List Int×List Int):Option ((Int×List Int×List Int) ⊕ (List Int×List Int)):=
 if decide (st57.1 < (r43.length:Int)) then
  (idx r43 st57.1).bind fun x65=>
  (idx o37.2.2 st57.1).bind fun x66=>
  if x66 then
   (app st57.2.1 ([st57.1]:List Int)).bind fun x67=>
   (app st57.2.2 ([x65]:List Int)).bind fun x68=>
   y2a st57 x67 x68
  else
   y2a st57 st57.2.1 st57.2.2
 else
  some (.inr st57.2)
def y2c (r69:(List (Int×Int×Int×Int))) (st77:Int×List Bool):Option ((Int×List Bool) ⊕ (List Bool)):=
 if decide (st77.1 < (r69.length:Int)) then
  (idx r69 st77.1).bind fun x81=>
  (idx st77.2 x81.1).bind fun x82=>
  (upd st77.2 x81.1 false).bind fun x83=>
  some (.inl (W (st77.1 + 1),x83))
 else
  some (.inr st77.2)
def y2M (p3:Bool) (r1:(AutT×List Int×(List (Int×List Int))×List Bool)) (st37:Int×(List (Int×Int×Int×Int))×Int×List Bool):Option ((Int×(List (Int×Int×Int×Int))×Int×List Bool) ⊕ ((List (Int×Int×Int×Int))×Int×List Bool)):=
 (y2h (r1.1,r1.2.1,r1.2.2.1,st37.2.2.2) st37.1 p3).bind fun r69=>
 if((r69.length:Int) == 0) then
  some (.inr st37.2)
 else
  (iter (y2c r69) (0,st37.2.2.2)).bind fun o77=>
  (app st37.2.1 r69).bind fun x80=>
  some (.inl (W (st37.1 + 1),x80,st37.1,o77))
def y2N (p1:List Int) (st10:Int×(List (Int×Int×Int×Int))×Int):Option ((Int×(List (Int×Int×Int×Int))×Int) ⊕ ((List (Int×Int×Int×Int))×Int)):=
 if decide (st10.1 < (p1.length:Int)) then
  (idx p1 st10.1).bind fun x84=>
  (app st10.2.1 ([(x84,1,1,(-1))]:List (Int×Int×Int×Int))).bind fun x85=>
  some (.inl (W (st10.1 + 1),x85,1))
 else
  some (.inr st10.2)
def y3o (p0:AutT) (p1:List Int) (p2:List Int) (p3:Bool):Option ((List Int×List Int×(List (Int×Int×Int×Int)))×Int×AutT×List Int):=
 (y3w p0 p1 p2).bind fun r1=>
 (iter (y2N p1) (0,([]:List (Int×Int×Int×Int)),0)).bind fun o10=>
 (iter (y2M p3 r1) (2,o10.1,o10.2,r1.2.2.2)).bind fun o37=>
 (y1p o37.1).bind fun r42=>
 (yW (r1.1,r1.2.1,r1.2.2.1,o37.2.2)).bind fun r43=>
 (iter (y2b o37 r43) (0,([]:List Int),([]:List Int))).bind fun o57=>
 (y1m (r1.1,r1.2.1,r1.2.2.1,o37.2.2)).bind fun r61=>
 some ((o57.1,o57.2,r42),o37.2.1,r61)
theorem y7l {p0:AutT} {p1:List Int} {p2:List Int} {p3:Bool} {r:((List Int×List Int×(List (Int×Int×Int×Int)))×Int×AutT×List Int)} (hm:y3o p0 p1 p2 p3=some r):
  Fw Tryz.prog 147 ⟨0,[]⟩ [.a [lF qI p0.1,lI p0.2.1,lF qI p0.2.2.1,lF qT p0.2.2.2],.f qI p1,.f qI p2,.b p3] [] (.g [lH 0,lH 1,lH 2,lI r.2.1,lH 3,lI r.2.2.1.2.1,lH 4,lH 5,lH 6]) [ROW qI 3 r.1.1,ROW qI 3 r.1.2.1,ROW rE286 286 r.1.2.2,ROW qI 3 r.2.2.1.1,ROW qI 3 r.2.2.1.2.2.1,ROW qT 124 r.2.2.1.2.2.2,ROW qI 3 r.2.2.2]:=by
 unfold y3o at hm
 refine Fw.mk' Tryz.func147 R Tryz.ntmps147 R R (fun C=>?_) R R
 refine .seq (.reg (.op (O.box 0 R Z R R R) R (.op (O.al 1 R zz131 R Z R) R (.nil (.seqN (.seq (.reg (.op (O.lg (l':=[lF qI p0.1,lI p0.2.1,lF qI p0.2.2.1,lF qT p0.2.2.2]) ag35 Z R (.B R) R R R) R (.mv R (.mv R (bS hm fun r1 er1 hm=> .op (O.ca (r':= .q 2 0) [2,3] [(1,ROW rB 4 r1.2.2.2),(0,.bx 289 [lF qI r1.1.1,lI r1.1.2.1,lF qI r1.1.2.2.1,lF qT r1.1.2.2.2,lF qI r1.2.1,lM kvI (rL qI) r1.2.2.1,lH 3])] (some 4) (y7u er1) cf197 R R Z R R R R ⟨⟨_,R,fun _ _ _ _ h=>h⟩,⟨_,R,fun _ _ _ _ h=>h⟩,trivial⟩ (fun _ _ _ h=>h) R) R (.sa R (.nil (.seqN (.seq (.reg (.op (O.al 4 R zz131 R Z R) R (.nil (.seqN (.seq (.seq (.reg (.mv R (.op (O.len sl32 Z R R) R (.mv R (.nil (.seqN (.block (bS hm fun o10 eo10 hm=>?_)))))))))))))))))))))))))))))
 refine .cut1 (z:= .exit 0) o10 (fun (o10:(List (Int×Int×Int×Int))×Int)=>⟨[(10,.q 0 0),(9,.q 2 0),(8,.q 4 0),(3,.b p3)],[(0,.bx 131 [lN,lN,lH 1,lI o10.2,lN,lI 0,lN,lN,lN]),(1,ROW rE286 286 o10.1),(2,.bx 289 [lF qI r1.1.1,lI r1.1.2.1,lF qI r1.1.2.2.1,lF qT r1.1.2.2.2,lF qI r1.2.1,lM kvI (rL qI) r1.2.2.1,lH 3]),(3,ROW rB 4 r1.2.2.2),(4,.bx 131 [lN,lN,lN,lI 0,lN,lI 0,lN,lN,lN])],5⟩) ?_ fun K13=>?_
 ·skip
  refine .blkE (.seqN (.seq (.seq (.reg (.sa R (.nil (.seqN (.block (bS hm fun o37 eo37 hm=>?_)))))))))
  refine .cut1 (z:= .exit 2) o37 (fun (o37:(List (Int×Int×Int×Int))×Int×List Bool)=>⟨[(10,.q 0 0),(9,.q 2 0),(8,.q 4 0)],[(0,.bx 131 [lN,lN,lH 1,lI o37.2.1,lN,lI 0,lN,lN,lN]),(1,ROW rE286 286 o37.1),(2,.bx 289 [lF qI r1.1.1,lI r1.1.2.1,lF qI r1.1.2.2.1,lF qT r1.1.2.2.2,lF qI r1.2.1,lM kvI (rL qI) r1.2.2.1,lH 3]),(3,ROW rB 4 o37.2.2),(4,.bx 131 [lN,lN,lN,lI 0,lN,lI 0,lN,lN,lN])],5⟩) ?_ fun K41=>?_
  ·skip
   refine .blkE (.seqN (.seq (.reg (.op (O.faP y4D Z R R) R (.op (O.faP y6Q Z R R) R (.op (O.ld y7D Z R (.B R) R R) R (bS hm fun r42 er42 hm=> .op (O.ca (r':= .tp []) [1] [(0,ROW rE286 286 r42)] none (y5F er42) cf199 R R Z R R R R ⟨⟨_,R,fun _ _ _ _ h=>h⟩,trivial⟩ (fun _ _ _ h=>h) R) R (.nil (.seqN (.seq (.seq (.reg (.mv R (bS hm fun r43 er43 hm=> .op (O.caY (r':= .h 5) [5] [(0,ROW qI 3 r43)] (some 6) (y3I er43) cf201 R R Z R R ⟨⟨R,(.q R ⟨.rf,.rf,.rf,.rf,.rf,.rf,.hr R,trivial⟩),trivial⟩,trivial⟩ R ⟨.row flr3,trivial⟩ (fun _ _ _ _ h=>h) ⟨⟨_,R,fun _ _ _ _ h=>h⟩,trivial⟩ (fun _ _ _ h=>h) R) R (.op (O.lenH sl32 Z R R R) R (.mv R (.nil (.seqN (.block (bS hm fun o57 eo57 hm=>?_))))))))))))))))))))
   refine .cut1 (z:= .exit 6) o57 (fun (o57:List Int×List Int)=>⟨[(10,.q 0 0),(9,.q 4 0),(8,.q 6 0)],[(0,.bx 131 [lH 1,lH 2,lH 3,lI o37.2.1,lN,lI 0,lN,lN,lN]),(1,ROW qI 3 o57.1),(2,ROW qI 3 o57.2),(3,ROW rE286 286 r42),(4,.bx 289 [lF qI r1.1.1,lI r1.1.2.1,lF qI r1.1.2.2.1,lF qT r1.1.2.2.2,lF qI r1.2.1,lM kvI (rL qI) r1.2.2.1,lH 5]),(5,ROW rB 4 o37.2.2),(6,.bx 131 [lN,lN,lN,lI 0,lN,lI 0,lN,lN,lN])],7⟩) ?_ fun K60=>?_
   ·skip
    refine .blkE (.seqN (.seq (.reg (.mv R (bS hm fun r61 er61 hm=> .op (O.caY (r':= .tp [.a [lH 7,lI r61.1.2.1,lH 8,lH 9],.h 10]) [7,8,9,10] [(0,ROW qI 3 r61.1.1),(1,ROW qI 3 r61.1.2.2.1),(2,ROW qT 124 r61.1.2.2.2),(3,ROW qI 3 r61.2)] (some 11) (y4X er61) cf202 R R Z R R ⟨⟨R,(.q R ⟨.rf,.rf,.rf,.rf,.rf,.rf,.hr R,trivial⟩),trivial⟩,trivial⟩ R ⟨.row flr3,.row flr3,.row y4a,.row flr3,trivial⟩ (fun _ _ _ _ h=>h) ⟨⟨_,R,fun _ _ _ _ h=>h⟩,⟨_,R,fun _ _ _ _ h=>h⟩,⟨_,R,fun _ _ _ _ h=>h⟩,⟨_,R,fun _ _ _ _ h=>h⟩,trivial⟩ (fun _ _ _ h=>h) R) R (.mv R (.op (O.ex Z R R R) R (.op (O.ex Z R R R) R (.op (O.faP yaH Z R R) R (.op (O.st ag35.sz Z R R R R R) R (.op (O.faP ycM Z R R) R (.op (O.st nag32.sz Z R R R R R) R (.nil (.seqN (.seq (.reg (.op (O.lg (l':=[lH 1,lH 2,lH 3,lI o37.2.1,lH 7,lI r61.1.2.1,lH 8,lH 9,lH 10]) ag131 Z R (.B R) R R R) R (.op (O.st ag131.sz Z R R R R R) R (.nil (.seqN (.ret ?_)))))))))))))))))))))
    obtain rfl:=oi hm
    exact WX.rt [1,2,3,7,8,9,10] (.inl R) Tryz.results147 (.cell R R ag131 R .nil) R (fun _ _ _ h=>h) ⟨⟨_,R,fun _ _ _ _ h=>h⟩,⟨_,R,fun _ _ _ _ h=>h⟩,⟨_,R,fun _ _ _ _ h=>h⟩,⟨_,R,fun _ _ _ _ h=>h⟩,⟨_,R,fun _ _ _ _ h=>h⟩,⟨_,R,fun _ _ _ _ h=>h⟩,⟨_,R,fun _ _ _ _ h=>h⟩,trivial⟩
   refine .nlb qI 3 0 0 R R (.nlb qI 3 0 1 R R (.iter (fun (st57:Int×List Int×List Int)=>⟨[(79,.i st57.1),(78,.i (r43.length:Int)),(77,.h 0),(10,.q 1 0),(9,.q 5 0),(8,.q 7 0)],[(0,ROW qI 3 r43),(1,.bx 131 [lH 2,lH 3,lH 4,lI o37.2.1,lN,lI 0,lN,lN,lN]),(2,ROW qI 3 st57.2.1),(3,ROW qI 3 st57.2.2),(4,ROW rE286 286 r42),(5,.bx 289 [lF qI r1.1.1,lI r1.1.2.1,lF qI r1.1.2.2.1,lF qT r1.1.2.2.2,lF qI r1.2.1,lM kvI (rL qI) r1.2.2.1,lH 6]),(6,ROW rB 4 o37.2.2),(7,.bx 131 [lN,lN,lN,lI 0,lN,lI 0,lN,lN,lN])],8⟩) eo57 [(0,5),(1,0),(2,6),(3,7),(4,1),(5,2),(6,3),(7,4)] R ?_))
   intro st57 res57 hm ih57 ho57
   unfold y2b at hm
   refine .seq (.reg (.bi R (.nil (.seqN (.seq ?_)))))
   rcases ifS hm with ⟨hc,hm⟩ | ⟨hc,hm⟩
   ·refine .cT R hc ?_
    refine .skip (.seqN ?_)
    refine .join2 (fun (l62:List Int) (l63:List Int)=>y2a st57 l62 l63=some res57) (fun l62 l63=>⟨[(79,.i st57.1),(78,.i (r43.length:Int)),(77,.h 0),(10,.q 1 0),(9,.q 5 0),(8,.q 7 0)],[(0,ROW qI 3 r43),(1,.bx 131 [lH 2,lH 3,lH 4,lI o37.2.1,lN,lI 0,lN,lN,lN]),(2,ROW qI 3 l62),(3,ROW qI 3 l63),(4,ROW rE286 286 r42),(5,.bx 289 [lF qI r1.1.1,lI r1.1.2.1,lF qI r1.1.2.2.1,lF qT r1.1.2.2.2,lF qI r1.2.1,lM kvI (rL qI) r1.2.2.1,lH 6]),(6,ROW rB 4 o37.2.2),(7,.bx 131 [lN,lN,lN,lI 0,lN,lI 0,lN,lN,lN])],8⟩) ?_ ?_
    ·intro l62 l63 hm
     unfold y2a at hm
     exact .reg (.bi R (.mv R (.nil ((ih57 _ (oi hm).symm).sub [] R))))
    ·intro Jj64
     refine .block (.seq (.reg (.mv R (bS hm fun x65 ex65 hm=> .op (O.ir sl32 Z R R R ex65 R) R (.op (O.ld nag3 Z R (.R R ex65 lv3) R R) R (.sa R (.sa R (.nil (.seqN (.seq (.reg (.mv R (.op (O.nc .B Z R R) R (.op (O.faP y3L Z R R) R (.op (O.ld y4g Z R (.B R) R R) R (.mv R (bS hm fun x66 ex66 hm=> .op (O.ir sl144 Z R R R ex66 R) R (.op (O.ld nag4 Z R (.R R ex66 lv4) R R) R (.nil (.seqN ?_))))))))))))))))))))
     rcases ifS hm with ⟨hc,hm⟩ | ⟨hc,hm⟩
     ·refine .cT R hc ?_
      exact .seq (.reg (.op (O.faP y4D Z R R) R (.op (O.faP yaE Z R R) R (.op (O.ld nag32 Z R (.B R) R R) R (.mv R (.op (O.bsF (r:=qI) (zs:=([st57.1]:List Int)) bs32 R R Z R R R (.c .k .n) R R R) R (bS hm fun x67 ex67 hm=> .op (O.ap 8 Tryz.underlying32 el3 R R Z R R (.fr R) ex67 R) R (.op (O.faP y4D Z R R) R (.op (O.faP yaE Z R R) R (.op (O.st nag32.sz Z R R R R R) R (.nil (.seqN (.reg (.op (O.faP y4D Z R R) R (.op (O.faP yaF Z R R) R (.op (O.ld nag32 Z R (.B R) R R) R (.mv R (.op (O.bsF (r:=qI) (zs:=([x65]:List Int)) bs32 R R Z R R R (.c .k .n) R R R) R (bS hm fun x68 ex68 hm=> .op (O.ap 9 Tryz.underlying32 el3 R R Z R R (.fr R) ex68 R) R (.op (O.faP y4D Z R R) R (.op (O.faP yaF Z R R) R (.op (O.st nag32.sz Z R R R R R) R (.nil (.blkN ((Jj64 _ _ hm).sub [(2,8),(3,9)] R)))))))))))))))))))))))))
     ·refine .cF R hc ?_
      exact .skip (.blkN ((Jj64 _ _ hm).sub [] R))
   ·refine .cF R hc ?_
    exact .exit (.seqX (.seqX ((K60 _ (ho57 _ (oi hm).symm)).sub [(0,1),(1,2),(2,3),(3,4),(4,5),(5,6),(6,7)] R)))
  refine .iter (fun (st37:Int×(List (Int×Int×Int×Int))×Int×List Bool)=>⟨[(13,.i st37.1),(10,.q 0 0),(9,.q 2 0),(8,.q 4 0),(3,.b p3)],[(0,.bx 131 [lN,lN,lH 1,lI st37.2.2.1,lN,lI 0,lN,lN,lN]),(1,ROW rE286 286 st37.2.1),(2,.bx 289 [lF qI r1.1.1,lI r1.1.2.1,lF qI r1.1.2.2.1,lF qT r1.1.2.2.2,lF qI r1.2.1,lM kvI (rL qI) r1.2.2.1,lH 3]),(3,ROW rB 4 st37.2.2.2),(4,.bx 131 [lN,lN,lN,lI 0,lN,lI 0,lN,lN,lN])],5⟩) eo37 [] R ?_
  intro st37 res37 hm ih37 ho37
  unfold y2M at hm
  refine .seq (.block (.seq (.reg (.mv R (.mv R (.mv R (bS hm fun r69 er69 hm=> .op (O.caY (r':= .h 5) [5] [(0,ROW rE286 286 r69)] (some 6) (y5L er69) cf198 R R Z R R ⟨⟨R,(.q R ⟨.rf,.rf,.rf,.rf,.rf,.rf,.hr R,trivial⟩),trivial⟩,⟨R,LnL.rf⟩,⟨R,LnL.rf⟩,trivial⟩ R ⟨.row ybu,trivial⟩ (fun _ _ _ _ h=>h) ⟨⟨_,R,fun _ _ _ _ h=>h⟩,trivial⟩ (fun _ _ _ h=>h) R) R (.sa R (.nil (.seqN (.seq (.seq (.reg (.mv R (.op (O.lenH sl127 Z R R R) R (.bi R (.nil (.seqN ?_))))))))))))))))))
  rcases ifS hm with ⟨hc,hm⟩ | ⟨hc,hm⟩
  ·refine .cT R hc ?_
   exact .exit (.seqX (.blkX R (.seqX (.seqX ((K41 _ (ho37 _ (oi hm).symm)).sub [] R)))))
  ·refine .cF R hc ?_
   refine .skip (.seqN (.seq (.seq (.reg (.mv R (.op (O.lenH sl127 Z R R R) R (.mv R (.nil (.seqN (.block (bS hm fun o77 eo77 hm=>?_)))))))))))
   refine .cut1 (z:= .exit 4) o77 (fun (o77:List Bool)=>⟨[(14,.h 0),(13,.i st37.1),(10,.q 1 0),(9,.q 3 0),(8,.q 5 0),(3,.b p3)],[(0,ROW rE286 286 r69),(1,.bx 131 [lN,lN,lH 2,lI st37.2.2.1,lN,lI 0,lN,lN,lN]),(2,ROW rE286 286 st37.2.1),(3,.bx 289 [lF qI r1.1.1,lI r1.1.2.1,lF qI r1.1.2.2.1,lF qT r1.1.2.2.2,lF qI r1.2.1,lM kvI (rL qI) r1.2.2.1,lH 4]),(4,ROW rB 4 o77),(5,.bx 131 [lN,lN,lN,lI 0,lN,lI 0,lN,lN,lN])],6⟩) ?_ fun K79=>?_
   ·skip
    exact .blkE (.seqN (.seq (.reg (.op (O.faP y4D Z R R) R (.op (O.faP y6Q Z R R) R (.op (O.ld y7D Z R (.B R) R R) R (.mv R (bS hm fun x80 ex80 hm=> .op (O.ap 6 Tryz.underlying127 el286 R R Z R R (.ow R R) ex80 R) R (.op (O.faP y4D Z R R) R (.op (O.faP y6Q Z R R) R (.op (O.st y7D.sz Z R R R R R) R (.nil (.seqN (.reg (.mv R (.op (O.faP yaG Z R R) R (.op (O.st nag3.sz Z R R R R R) R (.nil (.blkN (.seqN (.reg (.mv R (.bi R (.sa R (.nil ((ih37 _ (oi hm).symm).sub [(0,1),(1,6),(2,3),(3,4),(4,5)] R))))))))))))))))))))))))))
   refine .iter (fun (st77:Int×List Bool)=>⟨[(51,.i st77.1),(50,.i (r69.length:Int)),(49,.h 0),(14,.h 0),(13,.i st37.1),(10,.q 1 0),(9,.q 3 0),(8,.q 5 0),(3,.b p3)],[(0,ROW rE286 286 r69),(1,.bx 131 [lN,lN,lH 2,lI st37.2.2.1,lN,lI 0,lN,lN,lN]),(2,ROW rE286 286 st37.2.1),(3,.bx 289 [lF qI r1.1.1,lI r1.1.2.1,lF qI r1.1.2.2.1,lF qT r1.1.2.2.2,lF qI r1.2.1,lM kvI (rL qI) r1.2.2.1,lH 4]),(4,ROW rB 4 st77.2),(5,.bx 131 [lN,lN,lN,lI 0,lN,lI 0,lN,lN,lN])],6⟩) eo77 [(0,5),(1,0),(2,1),(3,2),(4,3),(5,4)] R ?_
   intro st77 res77 hm ih77 ho77
   unfold y2c at hm
   refine .seq (.reg (.bi R (.nil (.seqN (.seq ?_)))))
   rcases ifS hm with ⟨hc,hm⟩ | ⟨hc,hm⟩
   ·refine .cT R hc ?_
    refine .skip (.seqN (.seq (.block (.seq (.reg (bS hm fun x81 ex81 hm=> .op (O.ir sl127 Z R R R ex81 R) R (.op (O.lg (l':=[lI x81.1,lI x81.2.1,lI x81.2.2.1,lI x81.2.2.2]) ag286 Z R (.R R ex81 lv286) R R R) R (.op (O.al 6 R zz286 R Z R) R (.op (O.st ag286.sz Z R R R R R) R (.nil (.seqN ?_)))))))))))
    refine .sub (τ:=⟨[(16,.q 6 0),(51,.i st77.1),(50,.i (r69.length:Int)),(49,.h 0),(14,.h 0),(13,.i st37.1),(10,.q 1 0),(9,.q 3 0),(8,.q 5 0),(3,.b p3)],[(6,.bx 286 [lI x81.1,lI x81.2.1,lI x81.2.2.1,lI x81.2.2.2]),(0,ROW rE286 286 r69),(1,.bx 131 [lN,lN,lH 2,lI st37.2.2.1,lN,lI 0,lN,lN,lN]),(2,ROW rE286 286 st37.2.1),(3,.bx 289 [lF qI r1.1.1,lI r1.1.2.1,lF qI r1.1.2.2.1,lF qT r1.1.2.2.2,lF qI r1.2.1,lM kvI (rL qI) r1.2.2.1,lH 4]),(4,ROW rB 4 st77.2),(5,.bx 131 [lN,lN,lN,lI 0,lN,lI 0,lN,lN,lN])],7⟩) ?_ [] R
    refine bS hm fun x82 ex82 hm=>bS hm fun x83 ex83 hm=>?_
    refine .drg 7 [(7,[]),(7,[oT]),(7,[oT,oT]),(7,tT 3),(7,[]),(7,[oF,oF,oF,oF,oT]),(7,tT 6),(7,tT 7)] [_,_,_,_,_,_,_,_] ⟨[(51,.i st77.1),(50,.i (r69.length:Int)),(49,.h 0),(14,.h 0),(13,.i st37.1),(10,.q 1 0),(9,.q 3 0),(8,.q 5 0),(3,.b p3)],[(0,ROW rE286 286 r69),(1,.bx 131 [lN,lN,lH 2,lI st37.2.2.1,lN,lI 0,lN,lN,lN]),(2,ROW rE286 286 st37.2.1),(3,.bx 289 [lF qI r1.1.1,lI r1.1.2.1,lF qI r1.1.2.2.1,lF qT r1.1.2.2.2,lF qI r1.2.1,lM kvI (rL qI) r1.2.2.1,lH 4]),(4,ROW rB 4 x83),(5,.bx 131 [lN,lN,lN,lI 0,lN,lI 0,lN,lN,lN])],7⟩ ⟨O.mv Z R R,O.nc .B Z R R,O.faP y3L Z R R,O.ld y4g Z R (.B R) R R,O.faP yaD Z R R,O.ld nag3 Z R (.B R) R R,O.ir sl144 Z R R R ex82 R,O.su (z:=false) nag4.sz Z R R ex82 ex83 R R R lv4 R .b,trivial⟩ (by kernel_rfl) R ?_
    exact .blkN (.seqN (.reg (.bi R (.mv R (.nil ((ih77 _ (oi hm).symm).sub [] R))))))
   ·refine .cF R hc ?_
    exact .exit (.seqX (.seqX ((K79 _ (ho77 _ (oi hm).symm)).sub [] R)))
 refine .nlb rE286 286 4 2 R R (.iter (fun (st10:Int×(List (Int×Int×Int×Int))×Int)=>⟨[(25,.i st10.1),(24,.i (p1.length:Int)),(23,.f qI p1),(10,.q 0 0),(9,.q 2 0),(8,.q 4 0),(3,.b p3)],[(0,.bx 131 [lN,lN,lH 1,lI st10.2.2,lN,lI 0,lN,lN,lN]),(1,ROW rE286 286 st10.2.1),(2,.bx 289 [lF qI r1.1.1,lI r1.1.2.1,lF qI r1.1.2.2.1,lF qT r1.1.2.2.2,lF qI r1.2.1,lM kvI (rL qI) r1.2.2.1,lH 3]),(3,ROW rB 4 r1.2.2.2),(4,.bx 131 [lN,lN,lN,lI 0,lN,lI 0,lN,lN,lN])],5⟩) eo10 [(0,4),(1,5),(4,1)] R ?_)
 intro st10 res10 hm ih10 ho10
 unfold y2N at hm
 refine .seq (.reg (.bi R (.nil (.seqN (.seq ?_)))))
 rcases ifS hm with ⟨hc,hm⟩ | ⟨hc,hm⟩
 ·refine .cT R hc ?_
  exact .skip (.seqN (.seq (.block (.seq (.reg (bS hm fun x84 ex84 hm=> .op (O.ix sl32 Z R R ex84 R) R (.op (O.ld nag3 Z R (.E lv3) R R) R (.sa R (.nil (.seqN (.seq (.reg (.op (O.faP y4D Z R R) R (.op (O.faP y6Q Z R R) R (.op (O.ld y7D Z R (.B R) R R) R (.mv R (.op (O.bu (l:=[lI x84,lI 1,lI 1,lI (-1)]) pl286 R Z R R R) R (.op (O.bsF (r:=rE286) (zs:=([(x84,1,1,(-1))]:List (Int×Int×Int×Int))) bs127 R R Z R R R (.c (.p .k (.p .k (.p .k .k))) .n) R R R) R (bS hm fun x85 ex85 hm=> .op (O.ap 5 Tryz.underlying127 el286 R R Z R R (.fr R) ex85 R) R (.op (O.faP y4D Z R R) R (.op (O.faP y6Q Z R R) R (.op (O.st y7D.sz Z R R R R R) R (.nil (.seqN (.reg (.op (O.faP yaG Z R R) R (.op (O.st nag3.sz Z R R R R R) R (.nil (.blkN (.seqN (.reg (.bi R (.mv R (.nil ((ih10 _ (oi hm).symm).sub [(1,5)] R)))))))))))))))))))))))))))))))))))
 ·refine .cF R hc ?_
  exact .exit (.seqX (.seqX ((K13 _ (ho10 _ (oi hm).symm)).sub [] R)))
def y1Q (p0:AutT) (p1:List Int) (p2:List Int):Option (((List Int×List Int×(List (Int×Int×Int×Int)))×Int×AutT×List Int)×Int):=
 (y3v p0 p1 p2).bind fun r1=>
 if(r1 != 0) then
  some (((([]:List Int),([]:List Int),([]:List (Int×Int×Int×Int))),0,(([]:List Int),0,([]:List Int),([]:List (Int×Int×Int))),([]:List Int)),r1)
 else
  (y3o p0 p1 p2 true).bind fun r2=>
  some (r2,0)
theorem y6l {p0:AutT} {p1:List Int} {p2:List Int} {r:((List Int×List Int×(List (Int×Int×Int×Int)))×Int×AutT×List Int)×Int} (hm:y1Q p0 p1 p2=some r):
  Fw Tryz.prog 74 ⟨0,[]⟩ [.a [lF qI p0.1,lI p0.2.1,lF qI p0.2.2.1,lF qT p0.2.2.2],.f qI p1,.f qI p2] [] (.tp [.a [lH 0,lH 1,lH 2,lI r.1.2.1,lH 3,lI r.1.2.2.1.2.1,lH 4,lH 5,lH 6],.i r.2]) [ROW qI 3 r.1.1.1,ROW qI 3 r.1.1.2.1,ROW rE286 286 r.1.1.2.2,ROW qI 3 r.1.2.2.1.1,ROW qI 3 r.1.2.2.1.2.2.1,ROW qT 124 r.1.2.2.1.2.2.2,ROW qI 3 r.1.2.2.2]:=by
 unfold y1Q at hm
 refine Fw.mk' Tryz.func74 R Tryz.ntmps74 R R (fun C=>?_) R R
 refine .seq (.reg (.op (O.box 0 R Z R R R) R (.op (O.al 1 R zz131 R Z R) R (.sa R (.nil (.seqN (.seq (.seq (.reg (.op (O.lg (l':=[lF qI p0.1,lI p0.2.1,lF qI p0.2.2.1,lF qT p0.2.2.2]) ag35 Z R (.B R) R R R) R (.mv R (.mv R (bS hm fun r1 er1 hm=> .op (O.ca0 (y7t er1) cf146 R R Z R R R) R (.sa R (.nil (.seqN (.seq (.reg (.mv R (.bi R (.nil (.seqN ?_))))))))))))))))))))))
 rcases ifS hm with ⟨hc,hm⟩ | ⟨hc,hm⟩
 ·refine .cT R hc ?_
  refine .seq (.reg (.op (O.bu (l:=[lN,lN,lN,lI 0,lN,lI 0,lN,lN,lN]) pl131 R Z R R R) R (.mv R (.op (O.st ag131.sz Z R R R R R) R (.sa R (.nil (.seqN (.ret (.seqR (.nlb qI 3 1 0 R R (.nlb qI 3 1 1 R R (.nlb rE286 286 1 2 R R (.nlb qI 3 1 4 R R (.nlb qI 3 1 6 R R (.nlb qT 124 1 7 R R (.nlb qI 3 1 8 R R ?_))))))))))))))))
  obtain rfl:=oi hm
  exact WX.rt [2,3,4,5,6,7,8] (.inl R) Tryz.results74 (.cell R R ag131 R (.tmp R .nil)) R (fun _ _ _ h=>h) ⟨⟨_,R,fun _ _ _ _ h=>h⟩,⟨_,R,fun _ _ _ _ h=>h⟩,⟨_,R,fun _ _ _ _ h=>h⟩,⟨_,R,fun _ _ _ _ h=>h⟩,⟨_,R,fun _ _ _ _ h=>h⟩,⟨_,R,fun _ _ _ _ h=>h⟩,⟨_,R,fun _ _ _ _ h=>h⟩,trivial⟩
 ·refine .cF R hc ?_
  refine .skip (.seqN (.seq (.reg (.op (O.lg (l':=[lF qI p0.1,lI p0.2.1,lF qI p0.2.2.1,lF qT p0.2.2.2]) ag35 Z R (.B R) R R R) R (.mv R (.mv R (bS hm fun r2 er2 hm=> .op (O.ca (r':= .g [lH 2,lH 3,lH 4,lI r2.2.1,lH 5,lI r2.2.2.1.2.1,lH 6,lH 7,lH 8]) [2,3,4,5,6,7,8] [(0,ROW qI 3 r2.1.1),(1,ROW qI 3 r2.1.2.1),(2,ROW rE286 286 r2.1.2.2),(3,ROW qI 3 r2.2.2.1.1),(4,ROW qI 3 r2.2.2.1.2.2.1),(5,ROW qT 124 r2.2.2.1.2.2.2),(6,ROW qI 3 r2.2.2.2)] (some 9) (y7l er2) cf147 R R Z R R R R ⟨⟨_,R,fun _ _ _ _ h=>h⟩,⟨_,R,fun _ _ _ _ h=>h⟩,⟨_,R,fun _ _ _ _ h=>h⟩,⟨_,R,fun _ _ _ _ h=>h⟩,⟨_,R,fun _ _ _ _ h=>h⟩,⟨_,R,fun _ _ _ _ h=>h⟩,⟨_,R,fun _ _ _ _ h=>h⟩,trivial⟩ (fun _ _ _ h=>h) R) R (.op (O.st ag131.sz Z R R R R R) R (.sa R (.nil (.seqN (.ret ?_))))))))))))
  obtain rfl:=oi hm
  exact WX.rt [2,3,4,5,6,7,8] (.inl R) Tryz.results74 (.cell R R ag131 R (.tmp R .nil)) R (fun _ _ _ h=>h) ⟨⟨_,R,fun _ _ _ _ h=>h⟩,⟨_,R,fun _ _ _ _ h=>h⟩,⟨_,R,fun _ _ _ _ h=>h⟩,⟨_,R,fun _ _ _ _ h=>h⟩,⟨_,R,fun _ _ _ _ h=>h⟩,⟨_,R,fun _ _ _ _ h=>h⟩,⟨_,R,fun _ _ _ _ h=>h⟩,trivial⟩
def y1f (st32:Int×List Int) (st48:Int) (b52:Bool):Option (Int ⊕ (List Int)):=
 if b52 then
  (app st32.2 ([st32.1]:List Int)).bind fun x54=>
  some (.inr x54)
 else
  some (.inl (W (st48 + 1)))
def y1M (r1:AutT×AutT×List Int) (r2:AutT×List (List Int)×Int) (st32:Int×List Int) (st48:Int):Option (Int ⊕ (List Int)):=
 if decide (st48 < (r1.2.2.length:Int)) then
  (idx r1.2.2 st48).bind fun x51=>
  (idx r2.2.1 st32.1).bind fun x55=>
  (idx x55 0).bind fun x56=>
  (y1N r1.1 x56 x51).bind fun r57=>
  if decide (r57≥0) then
   (y1N r2.1 st32.1 x51).bind fun r60=>
   y1f st32 st48 (decide (r60 < 0))
  else
   y1f st32 st48 false
 else
  some (.inr st32.2)
def y1g (r1:AutT×AutT×List Int) (r2:AutT×List (List Int)×Int) (st32:Int×List Int):Option ((Int×List Int) ⊕ (List Int)):=
 if decide (st32.1 < (r2.2.1.length:Int)) then
  (iter (y1M r1 r2 st32) 0).bind fun o48=>
  some (.inl (W (st32.1 + 1),o48))
 else
  some (.inr st32.2)
def y3b (p0:(Int×y1O)×(Int×y1O)×Int) (p1:Bool):Option (AutT×AutT×List Int):=
 (y2Y p0).bind fun r1=>
 if(!p1) then
  some r1
 else
  (yq ([r1.1,r1.2.1]:List AutT)).bind fun r2=>
  (iter (y1g r1 r2) (0,([]:List Int))).bind fun o32=>
  (y1Q r2.1 o32 r1.2.2).bind fun r35=>
  some (r1.1,r35.1.2.2.1,r1.2.2)
theorem y6B {p0:(Int×y1O)×(Int×y1O)×Int} {p1:Bool} {r:(AutT×AutT×List Int)} (hm:y3b p0 p1=some r):
  Fw Tryz.prog 16 ⟨0,[]⟩ [.a (lx30 p0),.b p1] [] (.g [lF qI r.1.1,lI r.1.2.1,lF qI r.1.2.2.1,lF qT r.1.2.2.2,lH 0,lI r.2.1.2.1,lH 1,lH 2,lH 3]) [ROW qI 3 r.2.1.1,ROW qI 3 r.2.1.2.2.1,ROW qT 124 r.2.1.2.2.2,ROW qI 3 r.2.2]:=by
 unfold y3b at hm
 refine Fw.mk' Tryz.func16 R Tryz.ntmps16 R R (fun C=>?_) R R
 refine .seq (.reg (.op (O.box 0 R Z R R R) R (.op (O.al 1 R zz37 R Z R) R (.nil (.seqN (.seq (.reg (.op (O.lg (l':=(lx30 p0)) ag30 Z R (.B R) R R R) R (bS hm fun r1 er1 hm=> .op (O.ca (r':= .tp [.a [lH 2,lI r1.1.2.1,lH 3,lH 4],.a [lH 5,lI r1.2.1.2.1,lH 6,lH 7],.h 8]) [2,3,4,5,6,7,8] [(0,ROW qI 3 r1.1.1),(1,ROW qI 3 r1.1.2.2.1),(2,ROW qT 124 r1.1.2.2.2),(3,ROW qI 3 r1.2.1.1),(4,ROW qI 3 r1.2.1.2.2.1),(5,ROW qT 124 r1.2.1.2.2.2),(6,ROW qI 3 r1.2.2)] (some 9) (y6A er1) cf72 R R Z R R R R ⟨⟨_,R,fun _ _ _ _ h=>h⟩,⟨_,R,fun _ _ _ _ h=>h⟩,⟨_,R,fun _ _ _ _ h=>h⟩,⟨_,R,fun _ _ _ _ h=>h⟩,⟨_,R,fun _ _ _ _ h=>h⟩,⟨_,R,fun _ _ _ _ h=>h⟩,⟨_,R,fun _ _ _ _ h=>h⟩,trivial⟩ (fun _ _ _ h=>h) R) R (.mv R (.op (O.ex Z R R R) R (.op (O.ex Z R R R) R (.op (O.ex Z R R R) R (.op (O.al 9 R zz35 R Z R) R (.op (O.al 10 R zz35 R Z R) R (.op (O.st ag35.sz Z R R R R R) R (.op (O.st ag35.sz Z R R R R R) R (.sa R (.nil (.seqN (.seq (.reg (.op (O.lg (l':=[lH 2,lI r1.1.2.1,lH 3,lH 4]) ag35 Z R (.B R) R R R) R (.op (O.lg (l':=[lH 5,lI r1.2.1.2.1,lH 6,lH 7]) ag35 Z R (.B R) R R R) R (.mv R (.op (O.bu (l:=[lH 2,lI r1.1.2.1,lH 3,lH 4,lH 5,lI r1.2.1.2.1,lH 6,lH 7,lH 8]) pl37 R Z R R R) R (.op (O.al 11 R zz37 R Z R) R (.op (O.st ag37.sz Z R R R R R) R (.nil (.seqN (.seq (.seq (.reg (.mv R (.op (O.not Z R R) R (.nil (.seqN ?_)))))))))))))))))))))))))))))))))))))
 rcases ifS hm with ⟨hc,hm⟩ | ⟨hc,hm⟩
 ·refine .cT R hc ?_
  refine .seq (.reg (.op (O.lg (l':=[lH 2,lI r1.1.2.1,lH 3,lH 4,lH 5,lI r1.2.1.2.1,lH 6,lH 7,lH 8]) ag37 Z R (.B R) R R R) R (.op (O.st ag37.sz Z R R R R R) R (.nil (.seqN (.ret (.seqR (.fz 2 [] [1,9,11] R R fR R R (.fz 3 [] [1,9,11] R R fR R R (.fz 4 [] [1,9,11] R R fR R R ?_))))))))))
  obtain rfl:=oi hm
  exact WX.rt [5,6,7,8] (.inl R) Tryz.results16 (.cell R R ag37 R .nil) R (fun _ _ _ h=>h) ⟨⟨_,R,fun _ _ _ _ h=>h⟩,⟨_,R,fun _ _ _ _ h=>h⟩,⟨_,R,fun _ _ _ _ h=>h⟩,⟨_,R,fun _ _ _ _ h=>h⟩,trivial⟩
 ·refine .cF R hc ?_
  refine .skip (.seqN (.seq (.reg (.op (O.lg (l':=[lH 2,lI r1.1.2.1,lH 3,lH 4]) ag35 Z R (.B R) R R R) R (.op (O.lg (l':=[lH 5,lI r1.2.1.2.1,lH 6,lH 7]) ag35 Z R (.B R) R R R) R (.fz 2 [32] [9,11] R R fR R R (.fz 3 [32] [9,11] R R fR R R (.fz 4 [32] [9,11] R R fR R R (.fz 5 [33] [10,11] R R fR R R (.fz 6 [33] [10,11] R R fR R R (.fz 7 [33] [10,11] R R fR R R (.op (O.bsF (r:=rE35) (zs:=([r1.1,r1.2.1]:List AutT)) bs66 R R Z R R R (.c (.p .l (.p .k (.p .l .l))) (.c (.p .l (.p .k (.p .l .l))) .n)) R R R) R (bS hm fun r2 er2 hm=> .op (O.ca (r':= .tp [.a [lH 12,lI r2.1.2.1,lH 13,lH 14],.h 15,.i r2.2.2]) [12,13,14,15] [(0,ROW qI 3 r2.1.1),(1,ROW qI 3 r2.1.2.2.1),(2,ROW qT 124 r2.1.2.2.2),(3,ROW (rL qI) 32 r2.2.1)] (some 16) (y4G er2) cf32 R R Z R R R R ⟨⟨_,R,fun _ _ _ _ h=>h⟩,⟨_,R,fun _ _ _ _ h=>h⟩,⟨_,R,fun _ _ _ _ h=>h⟩,⟨_,R,fun _ _ _ _ h=>h⟩,trivial⟩ (fun _ _ _ h=>h) R) R (.mv R (.op (O.ex Z R R R) R (.op (O.ex Z R R R) R (.op (O.ex Z R R R) R (.op (O.al 16 R zz35 R Z R) R (.op (O.st ag35.sz Z R R R R R) R (.sa R (.sa R (.nil (.seqN (.seq (.reg (.sa R (.nil (.seqN (.seq (.seq (.reg (.sa R (.nil (.seqN (.block (bS hm fun o32 eo32 hm=>?_))))))))))))))))))))))))))))))))))))
  refine .cut1 (z:= .exit 0) o32 (fun (o32:List Int)=>⟨[(12,.h 0),(9,.q 1 0),(8,.q 5 0),(7,.h 6),(4,.q 7 0)],[(0,ROW qI 3 o32),(1,.bx 35 [lH 2,lI r2.1.2.1,lH 3,lH 4]),(2,ROW qI 3 r2.1.1),(3,ROW qI 3 r2.1.2.2.1),(4,ROW qT 124 r2.1.2.2.2),(5,.bx 37 [lF qI r1.1.1,lI r1.1.2.1,lF qI r1.1.2.2.1,lF qT r1.1.2.2.2,lF qI r1.2.1.1,lI r1.2.1.2.1,lF qI r1.2.1.2.2.1,lF qT r1.2.1.2.2.2,lH 6]),(6,ROW qI 3 r1.2.2),(7,.bx 37 [lN,lI 0,lN,lN,lN,lI 0,lN,lN,lN])],8⟩) ?_ fun K34=>?_
  ·skip
   refine .blkE (.seqN (.seq (.reg (.op (O.lg (l':=[lH 2,lI r2.1.2.1,lH 3,lH 4]) ag35 Z R (.B R) R R R) R (.mv R (.mv R (bS hm fun r35 er35 hm=> .op (O.caY (r':= .tp [.a [lH 8,lH 9,lH 10,lI r35.1.2.1,lH 11,lI r35.1.2.2.1.2.1,lH 12,lH 13,lH 14],.i r35.2]) [8,9,10,11,12,13,14] [(0,ROW qI 3 r35.1.1.1),(1,ROW qI 3 r35.1.1.2.1),(2,ROW rE286 286 r35.1.1.2.2),(3,ROW qI 3 r35.1.2.2.1.1),(4,ROW qI 3 r35.1.2.2.1.2.2.1),(5,ROW qT 124 r35.1.2.2.1.2.2.2),(6,ROW qI 3 r35.1.2.2.2)] (some 15) (y6l er35) cf74 R R Z R R ⟨⟨R,.hr R,.rf,.hr R,.hr R,trivial⟩,⟨R,.hr R,trivial⟩,⟨R,.hr R,trivial⟩,trivial⟩ R ⟨.row flr3,.row flr3,.row ybu,.row flr3,.row flr3,.row y4a,.row flr3,trivial⟩ (fun _ _ _ _ h=>h) ⟨⟨_,R,fun _ _ _ _ h=>h⟩,⟨_,R,fun _ _ _ _ h=>h⟩,⟨_,R,fun _ _ _ _ h=>h⟩,⟨_,R,fun _ _ _ _ h=>h⟩,⟨_,R,fun _ _ _ _ h=>h⟩,⟨_,R,fun _ _ _ _ h=>h⟩,⟨_,R,fun _ _ _ _ h=>h⟩,trivial⟩ (fun _ _ _ h=>h) R) R (.mv R (.op (O.ex Z R R R) R (.op (O.ex Z R R R) R (.op (O.al 15 R zz131 R Z R) R (.op (O.st ag131.sz Z R R R R R) R (.sa R (.nil (.seqN (.seq (.reg (.op (O.faP yaH Z R R) R (.op (O.lg (l':=[lH 11,lI r35.1.2.2.1.2.1,lH 12,lH 13]) ag35 Z R (.B R) R R R) R (.op (O.faP y5y Z R R) R (.op (O.st ag35.sz Z R R R R R) R (.nil (.seqN (.seq (.reg (.op (O.lg (l':=[lF qI r1.1.1,lI r1.1.2.1,lF qI r1.1.2.2.1,lF qT r1.1.2.2.2,lH 11,lI r35.1.2.2.1.2.1,lH 12,lH 13,lH 6]) ag37 Z R (.B R) R R R) R (.op (O.st ag37.sz Z R R R R R) R (.nil (.seqN (.ret ?_))))))))))))))))))))))))))))))
   obtain rfl:=oi hm
   exact WX.rt [11,12,13,6] (.inl R) Tryz.results16 (.cell R R ag37 R .nil) R (fun _ _ _ h=>h) ⟨⟨_,R,fun _ _ _ _ h=>h⟩,⟨_,R,fun _ _ _ _ h=>h⟩,⟨_,R,fun _ _ _ _ h=>h⟩,⟨_,R,fun _ _ _ _ h=>h⟩,trivial⟩
  refine .nlg qI 3 12 0 R R (.iter (fun (st32:Int×List Int)=>⟨[(13,.i st32.1),(12,.h 0),(10,.h 1),(9,.q 2 0),(8,.q 6 0),(7,.h 7),(5,.q 8 0),(4,.q 9 0)],[(0,ROW qI 3 st32.2),(1,ROW (rL qI) 32 r2.2.1),(2,.bx 35 [lH 3,lI r2.1.2.1,lH 4,lH 5]),(3,ROW qI 3 r2.1.1),(4,ROW qI 3 r2.1.2.2.1),(5,ROW qT 124 r2.1.2.2.2),(6,.bx 37 [lF qI r1.1.1,lI r1.1.2.1,lF qI r1.1.2.2.1,lF qT r1.1.2.2.2,lF qI r1.2.1.1,lI r1.2.1.2.1,lF qI r1.2.1.2.2.1,lF qT r1.2.1.2.2.2,lH 7]),(7,ROW qI 3 r1.2.2),(8,.bx 35 [lF qI r1.1.1,lI r1.1.2.1,lF qI r1.1.2.2.1,lF qT r1.1.2.2.2]),(9,.bx 37 [lN,lI 0,lN,lN,lN,lI 0,lN,lN,lN])],10⟩) eo32 [(0,17),(1,15),(2,16),(3,12),(4,13),(5,14),(6,11),(7,8),(8,9),(9,1)] R ?_)
  intro st32 res32 hm ih32 ho32
  unfold y1g at hm
  refine .seq (.seq (.reg (.mv R (.mv R (.op (O.lenH sl53 Z R R R) R (.bi R (.nil (.seqN ?_))))))))
  rcases ifS hm with ⟨hc,hm⟩ | ⟨hc,hm⟩
  ·refine .cT R hc ?_
   refine .skip (.seqN (.seq (.block (.seq (.reg (.mv R (.op (O.lenH sl32 Z R R R) R (.mv R (.nil (.seqN (.block (bS hm fun o48 eo48 hm=>?_))))))))))))
   refine .cut1 (z:= .exit 2) o48 (fun (o48:List Int)=>⟨[(12,.h 0),(13,.i st32.1),(10,.h 1),(9,.q 2 0),(8,.q 6 0),(7,.h 7),(5,.q 8 0),(4,.q 9 0)],[(0,ROW qI 3 o48),(1,ROW (rL qI) 32 r2.2.1),(2,.bx 35 [lH 3,lI r2.1.2.1,lH 4,lH 5]),(3,ROW qI 3 r2.1.1),(4,ROW qI 3 r2.1.2.2.1),(5,ROW qT 124 r2.1.2.2.2),(6,.bx 37 [lF qI r1.1.1,lI r1.1.2.1,lF qI r1.1.2.2.1,lF qT r1.1.2.2.2,lF qI r1.2.1.1,lI r1.2.1.2.1,lF qI r1.2.1.2.2.1,lF qT r1.2.1.2.2.2,lH 7]),(7,ROW qI 3 r1.2.2),(8,.bx 35 [lF qI r1.1.1,lI r1.1.2.1,lF qI r1.1.2.2.1,lF qT r1.1.2.2.2]),(9,.bx 37 [lN,lI 0,lN,lN,lN,lI 0,lN,lN,lN])],10⟩) ?_ fun K50=>?_
   ·skip
    exact .blkE (.blkN (.seqN (.reg (.mv R (.bi R (.sa R (.nil ((ih32 _ (oi hm).symm).sub [] R))))))))
   refine .iter (fun (st48:Int)=>⟨[(47,.i st48),(46,.i (r1.2.2.length:Int)),(45,.h 0),(13,.i st32.1),(12,.h 1),(10,.h 2),(9,.q 3 0),(8,.q 7 0),(7,.h 0),(5,.q 8 0),(4,.q 9 0)],[(0,ROW qI 3 r1.2.2),(1,ROW qI 3 st32.2),(2,ROW (rL qI) 32 r2.2.1),(3,.bx 35 [lH 4,lI r2.1.2.1,lH 5,lH 6]),(4,ROW qI 3 r2.1.1),(5,ROW qI 3 r2.1.2.2.1),(6,ROW qT 124 r2.1.2.2.2),(7,.bx 37 [lF qI r1.1.1,lI r1.1.2.1,lF qI r1.1.2.2.1,lF qT r1.1.2.2.2,lF qI r1.2.1.1,lI r1.2.1.2.1,lF qI r1.2.1.2.2.1,lF qT r1.2.1.2.2.2,lH 0]),(8,.bx 35 [lF qI r1.1.1,lI r1.1.2.1,lF qI r1.1.2.2.1,lF qT r1.1.2.2.2]),(9,.bx 37 [lN,lI 0,lN,lN,lN,lI 0,lN,lN,lN])],10⟩) eo48 [(0,7),(1,0),(2,1),(3,2),(4,3),(5,4),(6,5),(7,6)] R ?_
   intro st48 res48 hm ih48 ho48
   unfold y1M at hm
   refine .seq (.reg (.bi R (.nil (.seqN (.seq ?_)))))
   rcases ifS hm with ⟨hc,hm⟩ | ⟨hc,hm⟩
   ·refine .cT R hc ?_
    refine .skip (.seqN (.seq (.block (.seq (.reg (bS hm fun x51 ex51 hm=> .op (O.ir sl32 Z R R R ex51 R) R (.op (O.ld nag3 Z R (.R R ex51 lv3) R R) R (.sa R (.nil (.seqN ?_))))))))))
    refine .join1 (fun (b52:Bool)=>y1f st32 st48 b52=some res48) (fun b52=>⟨[(67,.b b52),(47,.i st48),(46,.i (r1.2.2.length:Int)),(45,.h 0),(13,.i st32.1),(12,.h 1),(10,.h 2),(9,.q 3 0),(8,.q 7 0),(7,.h 0),(5,.q 8 0),(4,.q 9 0)],[(0,ROW qI 3 r1.2.2),(1,ROW qI 3 st32.2),(2,ROW (rL qI) 32 r2.2.1),(3,.bx 35 [lH 4,lI r2.1.2.1,lH 5,lH 6]),(4,ROW qI 3 r2.1.1),(5,ROW qI 3 r2.1.2.2.1),(6,ROW qT 124 r2.1.2.2.2),(7,.bx 37 [lF qI r1.1.1,lI r1.1.2.1,lF qI r1.1.2.2.1,lF qT r1.1.2.2.2,lF qI r1.2.1.1,lI r1.2.1.2.1,lF qI r1.2.1.2.2.1,lF qT r1.2.1.2.2.2,lH 0]),(8,.bx 35 [lF qI r1.1.1,lI r1.1.2.1,lF qI r1.1.2.2.1,lF qT r1.1.2.2.2]),(9,.bx 37 [lN,lI 0,lN,lN,lN,lI 0,lN,lN,lN])],10⟩) ?_ ?_
    ·intro b52 hm
     unfold y1f at hm
     rcases ifS hm with ⟨hc,hm⟩ | ⟨hc,hm⟩
     ·refine .cT R hc ?_
      exact .seq (.reg (.mv R (.mv R (.op (O.bsF (r:=qI) (zs:=([st32.1]:List Int)) bs32 R R Z R R R (.c .k .n) R R R) R (bS hm fun x54 ex54 hm=> .op (O.ap 10 Tryz.underlying32 el3 R R Z R R (.fr R) ex54 R) R (.sa R (.nil (.seqN (.exit (.blkX R (.seqX (.seqX ((K50 _ (ho48 _ (oi hm).symm)).sub [(0,10),(1,2),(2,3),(3,4),(4,5),(5,6),(6,7),(7,0)] R)))))))))))))
     ·refine .cF R hc ?_
      exact .skip (.blkN (.seqN (.reg (.bi R (.mv R (.nil ((ih48 _ (oi hm).symm).sub [] R)))))))
    ·intro Jj53
     refine .sub (τ:=⟨[(15,.i x51),(47,.i st48),(46,.i (r1.2.2.length:Int)),(45,.h 0),(13,.i st32.1),(12,.h 1),(10,.h 2),(9,.q 3 0),(8,.q 7 0),(7,.h 0),(5,.q 8 0),(4,.q 9 0)],[(0,ROW qI 3 r1.2.2),(1,ROW qI 3 st32.2),(2,ROW (rL qI) 32 r2.2.1),(3,.bx 35 [lH 4,lI r2.1.2.1,lH 5,lH 6]),(4,ROW qI 3 r2.1.1),(5,ROW qI 3 r2.1.2.2.1),(6,ROW qT 124 r2.1.2.2.2),(7,.bx 37 [lF qI r1.1.1,lI r1.1.2.1,lF qI r1.1.2.2.1,lF qT r1.1.2.2.2,lF qI r1.2.1.1,lI r1.2.1.2.1,lF qI r1.2.1.2.2.1,lF qT r1.2.1.2.2.2,lH 0]),(8,.bx 35 [lF qI r1.1.1,lI r1.1.2.1,lF qI r1.1.2.2.1,lF qT r1.1.2.2.2]),(9,.bx 37 [lN,lI 0,lN,lN,lN,lI 0,lN,lN,lN])],10⟩) ?_ [] R
     refine bS hm fun x55 ex55 hm=>bS hm fun x56 ex56 hm=>bS hm fun r57 er57 hm=> .drP 10 [(10,[]),(10,[]),(10,[]),(10,[oF,oT,oT]),(10,fA 1 (tT 3)),(10,fA 1 (tT 4)),(10,fA 1 (tT 5)),(10,[]),(10,tT 8),(10,tT 9)] [_,_,_,_,_,_,_,_,_,_] ⟨O.lg (l':=[lF qI r1.1.1,lI r1.1.2.1,lF qI r1.1.2.2.1,lF qT r1.1.2.2.2]) ag35 Z R (.B R) R R R,O.mv Z R R,O.mv Z R R,O.ir sl53 Z R R R ex55 R,O.ld nag32 Z R (.R R ex55 lv32) R R,O.ix sl32 Z R R ex56 R,O.ld nag3 Z R (.E lv3) R R,O.mv Z R R,O.ca0 (y3V er57) cf73 R R Z R R R,O.bi Z R R R R,trivial⟩ fun hp58=>?_
     rcases ifS hm with ⟨hc59,hm⟩ | ⟨hc59,hm⟩
     ·skip
      exact bS hm fun r60 er60 hm=> .drF hp58 [(10,tT 10),(10,tT 11),(10,tT 11),(10,tT 11),(10,tT 14),(10,tT 15),(10,tT 16)] [_,_,_,_,_,_,_] ⟨[(67,.b (decide (r60 < 0))),(47,.i st48),(46,.i (r1.2.2.length:Int)),(45,.h 0),(13,.i st32.1),(12,.h 1),(10,.h 2),(9,.q 3 0),(8,.q 7 0),(7,.h 0),(5,.q 8 0),(4,.q 9 0)],[(0,ROW qI 3 r1.2.2),(1,ROW qI 3 st32.2),(2,ROW (rL qI) 32 r2.2.1),(3,.bx 35 [lH 4,lI r2.1.2.1,lH 5,lH 6]),(4,ROW qI 3 r2.1.1),(5,ROW qI 3 r2.1.2.2.1),(6,ROW qT 124 r2.1.2.2.2),(7,.bx 37 [lF qI r1.1.1,lI r1.1.2.1,lF qI r1.1.2.2.1,lF qT r1.1.2.2.2,lF qI r1.2.1.1,lI r1.2.1.2.1,lF qI r1.2.1.2.2.1,lF qT r1.2.1.2.2.2,lH 0]),(8,.bx 35 [lF qI r1.1.1,lI r1.1.2.1,lF qI r1.1.2.2.1,lF qT r1.1.2.2.2]),(9,.bx 37 [lN,lI 0,lN,lN,lN,lI 0,lN,lN,lN])],10⟩ ⟨O.kn (O.mv Z R R) hc59,O.lg (l':=[lH 4,lI r2.1.2.1,lH 5,lH 6]) ag35 (Gu.mk R R) R (.B R) R R R,O.mv (Gu.mk R R) R R,O.mv (Gu.mk R R) R R,O.caZ (y3V er60) cf73 R R (Gu.mk R R) R ⟨⟨R,.hr R,.rf,.hr R,.hr R,trivial⟩,⟨R,LnL.rf⟩,⟨R,LnL.rf⟩,trivial⟩ (fun _ _ _ _ _ h=>h) R,O.bi (Gu.mk R R) R R R R,O.pkT Z R R R R,trivial⟩ (by kernel_rfl) R ((Jj53 _ hm).sub [] R)
     ·skip
      exact .drF hp58 [(10,tT 10),(10,tT 11),(10,tT 11),(10,tT 11),(10,tT 14),(10,tT 15),(10,tT 16)] [_,_,_,_,_,_,_] ⟨[(67,.b false),(47,.i st48),(46,.i (r1.2.2.length:Int)),(45,.h 0),(13,.i st32.1),(12,.h 1),(10,.h 2),(9,.q 3 0),(8,.q 7 0),(7,.h 0),(5,.q 8 0),(4,.q 9 0)],[(0,ROW qI 3 r1.2.2),(1,ROW qI 3 st32.2),(2,ROW (rL qI) 32 r2.2.1),(3,.bx 35 [lH 4,lI r2.1.2.1,lH 5,lH 6]),(4,ROW qI 3 r2.1.1),(5,ROW qI 3 r2.1.2.2.1),(6,ROW qT 124 r2.1.2.2.2),(7,.bx 37 [lF qI r1.1.1,lI r1.1.2.1,lF qI r1.1.2.2.1,lF qT r1.1.2.2.2,lF qI r1.2.1.1,lI r1.2.1.2.1,lF qI r1.2.1.2.2.1,lF qT r1.2.1.2.2.2,lH 0]),(8,.bx 35 [lF qI r1.1.1,lI r1.1.2.1,lF qI r1.1.2.2.1,lF qT r1.1.2.2.2]),(9,.bx 37 [lN,lI 0,lN,lN,lN,lI 0,lN,lN,lN])],10⟩ ⟨O.kn (O.mv Z R R) hc59,O.skip R R R R,O.skip R R R R,O.skip R R R R,O.skip R R R R,O.skip R R R R,O.pkF Z R R R R,trivial⟩ (by kernel_rfl) R ((Jj53 _ hm).sub [] R)
   ·refine .cF R hc ?_
    exact .exit (.seqX (.seqX ((K50 _ (ho48 _ (oi hm).symm)).sub [(0,1),(1,2),(2,3),(3,4),(4,5),(5,6),(6,7),(7,0)] R)))
  ·refine .cF R hc ?_
   exact .exit (.seqX (.seqX ((K34 _ (ho32 _ (oi hm).symm)).sub [(1,2),(2,3),(3,4),(4,5),(5,6),(6,7),(7,9)] R)))
end
end Go.Proofs.YtecmobjeeonmaaaGreatDoor
