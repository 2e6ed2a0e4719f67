/- Parts of the proof, without what nothing here names. -/
import Derived.Test.YtecmobjeeonmaaaGreatDoorProg
import Derived.Test.YtecmobjeeonmaaaGreatDoorQv3
set_option maxRecDepth 100000
set_option maxHeartbeats 8000000
namespace Go.Proofs.YtecmobjeeonmaaaGreatDoor
open Go Go.RowKit
noncomputable section
def y2Y (st53:Int×List (List Int)×(List (Int×List Int))) (l56:List (List Int)) (l57:List (Int×List Int)):Option ((Int×List (List Int)×(List (Int×List Int))) ⊕ (List (List Int))):=
 some (.inl (W (st53.1 + 1),l56,l57))
def yI (st80:Int×(List (Int×List Int))) (l83:List (Int×List Int)):Option ((Int×(List (Int×List Int))) ⊕ (List (Int×List Int))):=
 some (.inl (W (st80.1 + 1),l83))
def yJ (p0:(AutT×(List KeyT))×(AutT×(List KeyT))×(AutT×(List KeyT))×List (List Int)×List Int×List Int) (st53:Int×List (List Int)×(List (Int×List Int))) (st80:Int×(List (Int×List Int))):Option ((Int×(List (Int×List Int))) ⊕ (List (Int×List Int))):=
 if decide (st80.1 < (p0.2.2.2.2.1.length:Int)) then
  (idx p0.2.2.2.2.1 st80.1).bind fun x85=>
  (idx st80.2 st53.1).bind fun x86=>
  (y1d p0.1 x86.1 x85).bind fun r87=>
  (if (r87 != (-1)) then
   (idx st80.2 st53.1).bind fun x95=>
   (yA x95.2 x85).bind fun r96=>
   some (!r96)
  else
   some false).bind fun b88=>
  if b88 then
   (idx st80.2 st53.1).bind fun x91=>
   (y1a x91.2).bind fun r92=>
   (app r92 ([x85]:List Int)).bind fun x93=>
   (app st80.2 ([(r87,x93)]:List (Int×List Int))).bind fun x94=>
   yI st80 x94
  else
   yI st80 st80.2
 else
  some (.inr st80.2)
def y2Z (p0:(AutT×(List KeyT))×(AutT×(List KeyT))×(AutT×(List KeyT))×List (List Int)×List Int×List Int) (p2:Int) (st53:Int×List (List Int)×(List (Int×List Int))) (l59:List (List Int)):Option ((Int×List (List Int)×(List (Int×List Int))) ⊕ (List (List Int))):=
 (idx st53.2.2 st53.1).bind fun x61=>
 if((x61.2.length:Int) == p2) then
  y2Y st53 l59 st53.2.2
 else
  (iter (yJ p0 st53) (0,st53.2.2)).bind fun o80=>
  y2Y st53 l59 o80
def y3X (p0:(AutT×(List KeyT))×(AutT×(List KeyT))×(AutT×(List KeyT))×List (List Int)×List Int×List Int) (p2:Int) (st53:Int×List (List Int)×(List (Int×List Int))):Option ((Int×List (List Int)×(List (Int×List Int))) ⊕ (List (List Int))):=
 if decide (st53.1 < (st53.2.2.length:Int)) then
  (idx st53.2.2 st53.1).bind fun x97=>
  if decide ((x97.2.length:Int) > 1) then
   (idx st53.2.2 st53.1).bind fun x98=>
   (app st53.2.1 ([x98.2]:List (List Int))).bind fun x99=>
   y2Z p0 p2 st53 x99
  else
   y2Z p0 p2 st53 st53.2.1
 else
  some (.inr st53.2.1)
def y3Y (p0:(AutT×(List KeyT))×(AutT×(List KeyT))×(AutT×(List KeyT))×List (List Int)×List Int×List Int) (p1:Int) (p2:Int):Option (List (List Int)):=
 (idx p0.2.2.2.1 p1).bind fun x1=>
 (idx x1 0).bind fun x2=>
 (iter (y3X p0 p2) (0,([]:List (List Int)),([(x2,([]:List Int))]:List (Int×List Int)))).bind fun o53=>
 some o53
theorem y6J {p0:(AutT×(List KeyT))×(AutT×(List KeyT))×(AutT×(List KeyT))×List (List Int)×List Int×List Int} {p1:Int} {p2:Int} {r:List (List Int)} (hm:y3Y p0 p1 p2=some r):
  Fw Tryz.prog 109 ⟨0,[]⟩ [.o (lQ 155 (lx155 p0) 0),.i p1,.i p2] [] (.h 0) [ROW (rL qI) 32 r]:=by
 unfold y3Y at hm
 refine Fw.mk' Tryz.func109 R Tryz.ntmps109 R R (fun C=>?_) R R
 refine .seq (.reg (.sa R (.nil (.seqN (.seq (.reg (.mv R (.op (O.nc .Q Z R R) R (.op (O.faQ y9V Z R R) R (.op (O.ld nag53 Z R .Q R R) R (.mv R (bS hm fun x1 ex1 hm=> .op (O.ix sl53 Z R R ex1 R) R (.op (O.ld nag32 Z R (.E lv32) R R) R (bS hm fun x2 ex2 hm=> .op (O.ix sl32 Z R R ex2 R) R (.op (O.ld nag3 Z R (.E lv3) R R) R (.op (O.bu (l:=[lI x2,lN]) pl257 R Z R R R) R (.op (O.bsO (r:=rE257) (zs:=([(x2,([]:List Int))]:List (Int×List Int))) 0 R bs258 R R Z R R R (.c (.p .k .n) .n) R R R) R (.sa R (.nil (.seqN (.seq (.reg (.sa R (.nil (.seqN (.seq (.seq (.reg (.sa R (.nil (.seqN (.block (bS hm fun o53 eo53 hm=>?_)))))))))))))))))))))))))))))))))
 refine .cut1 (z:= .exit 0) o53 (fun (o53:List (List Int))=>⟨[(8,.h 0)],[(0,ROW (rL qI) 32 o53)],1⟩) ?_ fun K55=>?_
 ·skip
  refine .blkE (.seqN (.seq (.reg (.mv R (.sa R (.nil (.seqN (.ret ?_))))))))
  obtain rfl:=oi hm
  exact WX.rt [0] (.inl R) Tryz.results109 (.tmp R .nil) R (fun _ _ _ h=>h) ⟨⟨_,R,fun _ _ _ _ h=>h⟩,trivial⟩
 refine .nlg (rL qI) 32 8 0 R R (.iter (fun (st53:Int×List (List Int)×(List (Int×List Int)))=>⟨[(9,.i st53.1),(8,.h 0),(7,.h 1),(0,.o (lQ 155 (lx155 p0) 0)),(2,.i p2)],[(0,ROW (rL qI) 32 st53.2.1),(1,ROW rE257 257 st53.2.2)],2⟩) eo53 [(0,1),(1,0)] R ?_)
 intro st53 res53 hm ih53 ho53
 unfold y3X at hm
 refine .seq (.seq (.reg (.mv R (.mv R (.op (O.lenH sl258 Z R R R) R (.bi R (.nil (.seqN ?_))))))))
 rcases ifS hm with ⟨hc,hm⟩ | ⟨hc,hm⟩
 ·refine .cT R hc ?_
  refine .skip (.seqN ?_)
  refine .join2 (fun (l56:List (List Int)) (l57:List (Int×List Int))=>y2Y st53 l56 l57=some res53) (fun l56 l57=>⟨[(8,.h 0),(9,.i st53.1),(7,.h 1),(0,.o (lQ 155 (lx155 p0) 0)),(2,.i p2)],[(0,ROW (rL qI) 32 l56),(1,ROW rE257 257 l57)],2⟩) ?_ ?_
  ·intro l56 l57 hm
   unfold y2Y at hm
   exact .reg (.mv R (.bi R (.sa R (.nil ((ih53 _ (oi hm).symm).sub [] R)))))
  ·intro Jj58
   refine .block ?_
   refine .join1 (fun (l59:List (List Int))=>y2Z p0 p2 st53 l59=some res53) (fun l59=>⟨[(8,.h 0),(9,.i st53.1),(7,.h 1),(0,.o (lQ 155 (lx155 p0) 0)),(2,.i p2)],[(0,ROW (rL qI) 32 l59),(1,ROW rE257 257 st53.2.2)],2⟩) ?_ ?_
   ·intro l59 hm
    unfold y2Z at hm
    refine .seq (.seq (.reg (.mv R (.mv R (bS hm fun x61 ex61 hm=> .op (O.ir sl258 Z R R R ex61 R) R (.op (O.faR y8F Z R R) R (.op (O.ld nag32 Z R (.R R ex61 lv257) R R) R (.op (O.len sl32 Z R R) R (.mv R (.bi R (.nil (.seqN ?_))))))))))))
    rcases ifS hm with ⟨hc,hm⟩ | ⟨hc,hm⟩
    ·refine .cT R hc ?_
     exact .exit (.seqX (.blkE ((Jj58 _ _ hm).sub [] R)))
    ·refine .cF R hc ?_
     refine .skip (.seqN (.seq (.reg (.mv R (.op (O.nc .Q Z R R) R (.op (O.faQ y9W Z R R) R (.op (O.ld nag32 Z R .Q R R) R (.op (O.len sl32 Z R R) R (.mv R (.nil (.seqN (.block (bS hm fun o80 eo80 hm=>?_)))))))))))))
     refine .cut1 (z:= .exit 2) o80 (fun (o80:(List (Int×List Int)))=>⟨[(8,.h 0),(9,.i st53.1),(7,.h 1),(0,.o (lQ 155 (lx155 p0) 0)),(2,.i p2)],[(0,ROW (rL qI) 32 l59),(1,ROW rE257 257 o80)],2⟩) ?_ fun K82=>?_
     ·skip
      exact .blkE (.blkN ((Jj58 _ _ hm).sub [] R))
     refine .iter (fun (st80:Int×(List (Int×List Int)))=>⟨[(58,.i st80.1),(57,.i (p0.2.2.2.2.1.length:Int)),(56,.f qI p0.2.2.2.2.1),(8,.h 0),(9,.i st53.1),(7,.h 1),(0,.o (lQ 155 (lx155 p0) 0)),(2,.i p2)],[(0,ROW (rL qI) 32 l59),(1,ROW rE257 257 st80.2)],2⟩) eo80 [] R ?_
     intro st80 res80 hm ih80 ho80
     unfold yJ at hm
     refine .seq (.reg (.bi R (.nil (.seqN (.seq ?_)))))
     rcases ifS hm with ⟨hc,hm⟩ | ⟨hc,hm⟩
     ·refine .cT R hc ?_
      refine .skip (.seqN ?_)
      refine .join1 (fun (l83:List (Int×List Int))=>yI st80 l83=some res80) (fun l83=>⟨[(7,.h 0),(58,.i st80.1),(57,.i (p0.2.2.2.2.1.length:Int)),(56,.f qI p0.2.2.2.2.1),(8,.h 1),(9,.i st53.1),(0,.o (lQ 155 (lx155 p0) 0)),(2,.i p2)],[(0,ROW rE257 257 l83),(1,ROW (rL qI) 32 l59)],2⟩) ?_ ?_
      ·intro l83 hm
       unfold yI at hm
       exact .reg (.bi R (.mv R (.nil ((ih80 _ (oi hm).symm).sub [(0,1),(1,0)] R))))
      ·intro Jj84
       refine .block (.seq (.reg (bS hm fun x85 ex85 hm=> .op (O.ix sl32 Z R R ex85 R) R (.op (O.ld nag3 Z R (.E lv3) R R) R (.sa R (.nil (.seqN (.seq ?_))))))))
       refine .sub (τ:=⟨[(11,.i x85),(58,.i st80.1),(57,.i (p0.2.2.2.2.1.length:Int)),(56,.f qI p0.2.2.2.2.1),(8,.h 0),(9,.i st53.1),(7,.h 1),(0,.o (lQ 155 (lx155 p0) 0)),(2,.i p2)],[(0,ROW (rL qI) 32 l59),(1,ROW rE257 257 st80.2)],2⟩) ?_ [] R
       refine bS hm fun x86 ex86 hm=>bS hm fun r87 er87 hm=>?_
       refine .drw [(2,[]),(2,[oT]),(2,[oT,oT]),(2,tT 3),(2,[]),(2,[]),(2,[oF,oF,oF,oF,oT,oT]),(2,fA 4 (tT 3)),(2,fA 4 (tT 4)),(2,[]),(2,tT 10),(2,tT 11)] [_,_,_,_,_,_,_,_,_,_,_,_] ⟨[(12,.i r87),(11,.i x85),(58,.i st80.1),(57,.i (p0.2.2.2.2.1.length:Int)),(56,.f qI p0.2.2.2.2.1),(8,.h 0),(9,.i st53.1),(7,.h 1),(0,.o (lQ 155 (lx155 p0) 0)),(2,.i p2)],[(0,ROW (rL qI) 32 l59),(1,ROW rE257 257 st80.2)],2⟩ ⟨O.mv Z R R,O.nc .Q Z R R,O.faQ yb9 Z R R,O.lg (l':=[lF qI p0.1.1.1,lI p0.1.1.2.1,lF qI p0.1.1.2.2.1,lF qT p0.1.1.2.2.2,lM kvP qI p0.1.2]) ag141 Z R .Q R R R,O.mv Z R R,O.mv Z R R,O.ir sl258 Z R R R ex86 R,O.faR yfu Z R R,O.ld nag3 Z R (.R R ex86 lv257) R R,O.mv Z R R,O.ca0 (y1U er87) cf150 R R Z R R R,O.as Z R R,trivial⟩ (by kernel_rfl) R ?_
       refine .seqN (.seq (.reg (.mv R (.bi R (.mv R (bS hm fun b88 eb88 hm=>?_))))))
       refine .cut 9 (fun (v89:Bool)=>b88=v89) (fun v89=>⟨[(84,.b v89),(12,.i r87),(11,.i x85),(58,.i st80.1),(57,.i (p0.2.2.2.2.1.length:Int)),(56,.f qI p0.2.2.2.2.1),(8,.h 0),(9,.i st53.1),(7,.h 1),(0,.o (lQ 155 (lx155 p0) 0)),(2,.i p2)],[(0,ROW (rL qI) 32 l59),(1,ROW rE257 257 st80.2)],2⟩) ?_ ?_
       ·rintro _ rfl
        refine .nil (.seqN ?_)
        rcases ifS hm with ⟨hc,hm⟩ | ⟨hc,hm⟩
        ·refine .cT R hc ?_
         exact .reg (.mv R (.mv R (.mv R (.mv R (bS hm fun x91 ex91 hm=> .op (O.ir sl258 Z R R R ex91 R) R (.op (O.faR y8F Z R R) R (.op (O.ld nag32 Z R (.R R ex91 lv257) R R) R (bS hm fun r92 er92 hm=> .op (O.ca (r':= .h 2) [2] [(0,ROW qI 3 r92)] (some 3) (y4p er92) cf103 R R Z R R R R ⟨⟨_,R,fun _ _ _ _ h=>h⟩,trivial⟩ (fun _ _ _ h=>h) R) R (.mv R (.op (O.bsF (r:=qI) (zs:=([x85]:List Int)) bs32 R R Z R R R (.c .k .n) R R R) R (bS hm fun x93 ex93 hm=> .op (O.ap 3 Tryz.underlying32 el3 R R Z R R (.fr R) ex93 R) R (.op (O.bu (l:=[lI r87,lH 3]) pl257 R Z R R R) R (.fz 3 [96] [] R R fR R R (.op (O.bsF (r:=rE257) (zs:=([(r87,x93)]:List (Int×List Int))) bs258 R R Z R R R (.c (.p .k .l) .n) R R R) R (bS hm fun x94 ex94 hm=> .op (O.ap 4 Tryz.underlying258 el257 R R Z R R (.fr R) ex94 R) R (.sa R (.nil (.blkN ((Jj84 _ hm).sub [(0,4),(1,0)] R)))))))))))))))))))
        ·refine .cF R hc ?_
         exact .skip (.blkN ((Jj84 _ hm).sub [(0,1),(1,0)] R))
       ·intro J90
        rcases ifS eb88 with ⟨hc,hm⟩ | ⟨hc,hm⟩
        ·refine .know (d:=75) R hc ?_
         exact .op (O.mv (Gu.mk R R) R R) R (.op (O.mv (Gu.mk R R) R R) R (bS hm fun x95 ex95 hm=> .op (O.ir sl258 (Gu.mk R R) R R R ex95 R) R (.op (O.faR y8F (Gu.mk R R) R R) R (.op (O.ld nag32 (Gu.mk R R) R (.R R ex95 lv257) R R) R (.op (O.mv (Gu.mk R R) R R) R (bS hm fun r96 er96 hm=> .op (O.ca0 (y2t er96) cf104 R R (Gu.mk R R) R R R) R (.op (O.not (Gu.mk R R) R R) R (.op (O.pkT Z R R R R) R ((J90 (!r96) (oi hm).symm).sub [] R)))))))))
        ·refine .know (d:=75) R hc ?_
         exact .sk R (.sk R (.sk R (.sk R (.sk R (.sk R (.sk R (.sk R (.op (O.pkF Z R R R R) R ((J90 false (oi hm).symm).sub [] R)))))))))
     ·refine .cF R hc ?_
      exact .exit (.seqX (.seqX ((K82 _ (ho80 _ (oi hm).symm)).sub [] R)))
   ·intro Jj60
    refine .seq (.reg (.mv R (.mv R (bS hm fun x97 ex97 hm=> .op (O.ir sl258 Z R R R ex97 R) R (.op (O.faR y8F Z R R) R (.op (O.ld nag32 Z R (.R R ex97 lv257) R R) R (.op (O.len sl32 Z R R) R (.bi R (.nil (.seqN ?_))))))))))
    rcases ifS hm with ⟨hc,hm⟩ | ⟨hc,hm⟩
    ·refine .cT R hc ?_
     exact .reg (.mv R (.mv R (.mv R (bS hm fun x98 ex98 hm=> .op (O.ir sl258 Z R R R ex98 R) R (.op (O.faR y8F Z R R) R (.op (O.ld nag32 Z R (.R R ex98 lv257) R R) R (.op (O.bsF (r:=(rL qI)) (zs:=([x98.2]:List (List Int))) bs53 R R Z R R R (.c .l .n) R R R) R (bS hm fun x99 ex99 hm=> .op (O.ap 2 Tryz.underlying53 el32 R R Z R R (.fr R) ex99 R) R (.sa R (.nil ((Jj60 _ hm).sub [(0,2)] R)))))))))))
    ·refine .cF R hc ?_
     exact .skip ((Jj60 _ hm).sub [] R)
 ·refine .cF R hc ?_
  exact .exit (.seqX (.seqX ((K55 _ (ho53 _ (oi hm).symm)).sub [] R)))
def y3a (st10:Int×Int) (n18:Int):Option ((Int×Int) ⊕ (Int ⊕ (Int×Int))):=
 some (.inl (W (st10.1 + 1),n18))
def y3Z (p0:(AutT×(List KeyT))×(AutT×(List KeyT))×(AutT×(List KeyT))×List (List Int)×List Int×List Int) (p2:List Int) (st10:Int×Int):Option ((Int×Int) ⊕ (Int ⊕ (Int×Int))):=
 if decide (st10.1 < (p2.length:Int)) then
  (idx p2 st10.1).bind fun x20=>
  (yk p0.2.1.1.1 x20).bind fun r21=>
  if(!r21) then
   y3a st10 st10.2
  else
   (y1d p0.2.1 st10.2 x20).bind fun r22=>
   if(r22 == (-1)) then
    some (.inr (.inr (st10)))
   else
    y3a st10 r22
 else
  some (.inr (.inl st10.2))
def y4a (p0:(AutT×(List KeyT))×(AutT×(List KeyT))×(AutT×(List KeyT))×List (List Int)×List Int×List Int) (p1:Int) (p2:List Int):Option (Int×Int):=
 (iter (y3Z p0 p2) (0,p1)).bind fun o10=>
 match o10 with
 | .inl u14=>
  some (u14,(p2.length:Int))
 | .inr (u16)=>
  some (u16.2,u16.1)
theorem y6K {p0:(AutT×(List KeyT))×(AutT×(List KeyT))×(AutT×(List KeyT))×List (List Int)×List Int×List Int} {p1:Int} {p2:List Int} {r:Int×Int} (hm:y4a p0 p1 p2=some r):
  Fw Tryz.prog 87 ⟨0,[]⟩ [.o (lQ 155 (lx155 p0) 0),.i p1,.f qI p2] [] (.tp [.i r.1,.i r.2]) []:=by
 unfold y4a at hm
 refine Fw.mk' Tryz.func87 R Tryz.ntmps87 R R (fun C=>?_) R R
 refine .seq (.reg (.sa R (.sa R (.nil (.seqN (.seq (.seq (.reg (.mv R (.op (O.len sl32 Z R R) R (.mv R (.nil (.seqN (.block (bS hm fun o10 eo10 hm=>?_)))))))))))))))
 refine .cutU (z:= .exit 0) (fun u14=> .inl u14=o10) (fun (u14:Int)=>⟨[(1,.i u14),(2,.f qI p2)],[],0⟩) ?_ fun K15=>?_
 ·rintro u14 rfl
  dsimp only at hm
  refine .blkE (.seqN (.seq (.reg (.mv R (.mv R (.op (O.len sl32 Z R R) R (.sa R (.sa R (.nil (.seqN (.ret ?_)))))))))))
  obtain rfl:=oi hm
  exact WX.rt [] (.inl R) Tryz.results87 (.tmp R (.tmp R .nil)) R (fun _ _ _ h=>h) trivial
 refine .cutU (z:= .ret) (fun u16=> .inr (u16)=o10) (fun (u16:Int×Int)=>⟨[(7,.i u16.1),(6,.i u16.2)],[],0⟩) ?_ fun K17=>?_
 ·rintro u16 rfl
  dsimp only at hm
  refine .blkR (.seqR ?_)
  obtain rfl:=oi hm
  exact WX.rt [] (.inl R) Tryz.results87 (.tmp R (.tmp R .nil)) R (fun _ _ _ h=>h) trivial
 refine .iter (fun (st10:Int×Int)=>⟨[(13,.i st10.1),(12,.i (p2.length:Int)),(11,.f qI p2),(0,.o (lQ 155 (lx155 p0) 0)),(1,.i st10.2),(2,.f qI p2)],[],0⟩) eo10 [] R ?_
 intro st10 res10 hm ih10 ho10
 unfold y3Z at hm
 refine .seq (.reg (.bi R (.nil (.seqN (.seq ?_)))))
 rcases ifS hm with ⟨hc,hm⟩ | ⟨hc,hm⟩
 ·refine .cT R hc ?_
  refine .skip (.seqN ?_)
  refine .join1 (fun (n18:Int)=>y3a st10 n18=some res10) (fun n18=>⟨[(13,.i st10.1),(12,.i (p2.length:Int)),(11,.f qI p2),(0,.o (lQ 155 (lx155 p0) 0)),(1,.i n18),(2,.f qI p2)],[],0⟩) ?_ ?_
  ·intro n18 hm
   unfold y3a at hm
   exact .reg (.bi R (.mv R (.nil ((ih10 _ (oi hm).symm).sub [] R))))
  ·intro Jj19
   refine .block (.seq (.reg (.mv R (bS hm fun x20 ex20 hm=> .op (O.ix sl32 Z R R ex20 R) R (.op (O.ld nag3 Z R (.E lv3) R R) R (.sa R (.sa R (.nil (.seqN (.seq (.seq (.reg (.mv R (.op (O.nc .Q Z R R) R (.op (O.faQ ycL Z R R) R (.op (O.faQ y5t Z R R) R (.op (O.faQ y1R Z R R) R (.op (O.ld nag32 Z R .Q R R) R (.mv R (bS hm fun r21 er21 hm=> .op (O.ca0 (yH er21) cf94 R R Z R R R) R (.op (O.not Z R R) R (.nil (.seqN ?_)))))))))))))))))))))))
   rcases ifS hm with ⟨hc,hm⟩ | ⟨hc,hm⟩
   ·refine .cT R hc ?_
    exact .exit (.seqX (.blkE ((Jj19 _ hm).sub [] R)))
   ·refine .cF R hc ?_
    refine .skip (.seqN (.seq (.reg (.mv R (.op (O.nc .Q Z R R) R (.op (O.faQ ycL Z R R) R (.op (O.lg (l':=[lF qI p0.2.1.1.1,lI p0.2.1.1.2.1,lF qI p0.2.1.1.2.2.1,lF qT p0.2.1.1.2.2.2,lM kvP qI p0.2.1.2]) ag141 Z R .Q R R R) R (.mv R (.mv R (bS hm fun r22 er22 hm=> .op (O.ca0 (y1U er22) cf150 R R Z R R R) R (.sa R (.nil (.seqN (.seq (.seq (.reg (.mv R (.bi R (.nil (.seqN ?_))))))))))))))))))))
    rcases ifS hm with ⟨hc,hm⟩ | ⟨hc,hm⟩
    ·refine .cT R hc ?_
     exact .seq (.reg (.mv R (.mv R (.sa R (.sa R (.nil (.seqN (.ret (.seqR (.blkR (.seqR (.seqR ((K17 _ (ho10 _ (oi hm).symm)).sub [] R)))))))))))))
    ·refine .cF R hc ?_
     exact .skip (.seqN (.reg (.mv R (.sa R (.nil (.blkN ((Jj19 _ hm).sub [] R)))))))
 ·refine .cF R hc ?_
  exact .exit (.seqX (.seqX ((K15 _ (ho10 _ (oi hm).symm)).sub [] R)))
def y2P (p0:(AutT×(List KeyT))×(AutT×(List KeyT))×(AutT×(List KeyT))×List (List Int)×List Int×List Int) (p1:Int) (p2:List Int):Option Bool:=
 (idx p0.2.2.2.1 p1).bind fun x1=>
 (idx x1 1).bind fun x2=>
 (y4a p0 x2 p2).bind fun r3=>
 (y4F p2).bind fun r4=>
 (y3H r4).bind fun r5=>
 (y4a p0 x2 r5).bind fun r6=>
 some (((r3.2 == (p2.length:Int)) && (r6.2 == (p2.length:Int))) && (r3.1 == r6.1))
theorem y6x {p0:(AutT×(List KeyT))×(AutT×(List KeyT))×(AutT×(List KeyT))×List (List Int)×List Int×List Int} {p1:Int} {p2:List Int} {r:Bool} (hm:y2P p0 p1 p2=some r):
  Fw Tryz.prog 93 ⟨0,[]⟩ [.o (lQ 155 (lx155 p0) 0),.i p1,.f qI p2] [] (.b r) []:=by
 unfold y2P at hm
 refine Fw.mk' Tryz.func93 R Tryz.ntmps93 R R (fun C=>?_) R R
 refine .seq (.reg (.sa R (.nil (.seqN (.seq (.reg (.mv R (.op (O.nc .Q Z R R) R (.op (O.faQ y9V Z R R) R (.op (O.ld nag53 Z R .Q R R) R (.mv R (bS hm fun x1 ex1 hm=> .op (O.ix sl53 Z R R ex1 R) R (.op (O.ld nag32 Z R (.E lv32) R R) R (bS hm fun x2 ex2 hm=> .op (O.ix sl32 Z R R ex2 R) R (.op (O.ld nag3 Z R (.E lv3) R R) R (.sa R (.nil (.seqN (.seq (.reg (.mv R (.mv R (.mv R (bS hm fun r3 er3 hm=> .op (O.ca0 (y6K er3) cf87 R R Z R R R) R (.mv R (.op (O.ex Z R R R) R (.op (O.ex Z R R R) R (.sa R (.sa R (.nil (.seqN (.seq (.reg (.mv R (.mv R (.mv R ?_))))))))))))))))))))))))))))))))))))
 refine bS hm fun r4 er4 hm=> .op (O.ca0 (y8D er4) cf157 R R Z R R R) R (bS hm fun r5 er5 hm=> .op (O.ca (r':= .h 0) [0] [(0,ROW qI 3 r5)] (some 1) (y8E er5) cf156 R R Z R R R R ⟨⟨_,R,fun _ _ _ _ h=>h⟩,trivial⟩ (fun _ _ _ h=>h) R) R (bS hm fun r6 er6 hm=> .op (O.caZ (y6K er6) cf87 R R Z R ⟨⟨R,.rf,trivial⟩,⟨R,LnL.rf⟩,⟨R,.hr R,trivial⟩,trivial⟩ (fun _ _ _ _ _ h=>h) R) R (.mv R (.op (O.ex Z R R R) R (.op (O.ex Z R R R) R (.sa R (.sa R (.nil (.seqN (.seq (.reg (.mv R (.mv R (.op (O.len sl32 Z R R) R (.bi R (.mv R ?_))))))))))))))))
 refine .cut 5 (fun (v7:Bool)=>((r3.2 == (p2.length:Int)) && (r6.2 == (p2.length:Int)))=v7) (fun v7=>⟨[(46,.b v7),(10,.i r6.1),(8,.i r3.1)],[],1⟩) ?_ ?_
 ·rintro _ rfl
  refine .mv R ?_
  refine .cut 4 (fun (v9:Bool)=>(((r3.2 == (p2.length:Int)) && (r6.2 == (p2.length:Int))) && (r3.1 == r6.1))=v9) (fun v9=>⟨[(51,.b v9)],[],1⟩) ?_ ?_
  ·rintro _ rfl
   refine .sa R (.nil (.seqN (.ret ?_)))
   obtain rfl:=oi hm
   exact WX.rt [] (.inl R) Tryz.results93 (.tmp R .nil) R (fun _ _ _ h=>h) trivial
  ·intro J10
   rcases Bool.eq_false_or_eq_true ((r3.2 == (p2.length:Int)) && (r6.2 == (p2.length:Int))) with hc | hc
   ·refine .know (d:=47) R hc ?_
    exact .op (O.mv (Gu.mk R R) R R) R (.op (O.mv (Gu.mk R R) R R) R (.op (O.bi (Gu.mk R R) R R R R) R (.op (O.pkT Z R R R R) R ((J10 (r3.1 == r6.1) (andT hc).symm).sub [] R))))
   ·refine .know (d:=47) R hc ?_
    exact .sk R (.sk R (.sk R (.op (O.pkF Z R R R R) R ((J10 false (andF hc).symm).sub [] R))))
 ·intro J8
  rcases Bool.eq_false_or_eq_true (r3.2 == (p2.length:Int)) with hc | hc
  ·refine .know (d:=41) R hc ?_
   exact .op (O.mv (Gu.mk R R) R R) R (.op (O.mv (Gu.mk R R) R R) R (.op (O.len sl32 (Gu.mk R R) R R) R (.op (O.bi (Gu.mk R R) R R R R) R (.op (O.pkT Z R R R R) R ((J8 (r6.2 == (p2.length:Int)) (andT hc).symm).sub [] R)))))
  ·refine .know (d:=41) R hc ?_
   exact .sk R (.sk R (.sk R (.sk R (.op (O.pkF Z R R R R) R ((J8 false (andF hc).symm).sub [] R)))))
def y5M (q0:Int) (p0:Int×Int×Int):Option Bool:=
 some (p0.2.2 == q0)
theorem y8H {q0:Int} {p0:Int×Int×Int} {r:Bool} (hm:y5M q0 p0=some r):
  Fw Tryz.prog 152 ⟨0,[]⟩ [.a [lI p0.1,lI p0.2.1,lI p0.2.2],.o (lQ 3 [lI q0] 0)] [] (.b r) []:=by
 unfold y5M at hm
 refine Fw.mk' Tryz.func152 R Tryz.ntmps152 R R (fun C=>?_) R R
 refine .seq (.reg (.op (O.box 0 R Z R R R) R (.sa R (.nil (.seqN (.seq (.reg (.op (O.faP y2W Z R R) R (.op (O.ld nag3 Z R (.B R) R R) R (.op (O.ld nag3 Z R .Q R R) R (.bi R (.sa R (.nil (.seqN (.ret ?_)))))))))))))))
 obtain rfl:=oi hm
 exact WX.rt [] (.inl R) Tryz.results152 (.tmp R .nil) R (fun _ _ _ h=>h) trivial
def y5a (p0:List (Int×Int×Int)) (p1:(Int×Int×Int)→Option Bool) (st5:Int):Option (Int ⊕ (Unit ⊕ Int)):=
 if decide (st5 < (p0.length:Int)) then
  (idx p0 st5).bind fun x11=>
  (p1 x11).bind fun r12=>
  if r12 then
   some (.inr (.inr (st5)))
  else
   some (.inl (W (st5 + 1)))
 else
  some (.inr (.inl ()))
def y2u (p0:List (Int×Int×Int)) (p1:(Int×Int×Int)→Option Bool):Option Int:=
 (iter (y5a p0 p1) 0).bind fun o5=>
 match o5 with
 | .inl u7=>
  some (-1)
 | .inr (u9)=>
  some u9
theorem y5O {p0:List (Int×Int×Int)} {p1:(Int×Int×Int)→Option Bool} {r:Int} (hm:y2u p0 p1=some r):
  Fw Tryz.prog 140 ⟨0,[]⟩ [.f qT p0,.o (lW Tryz.prog (fun (x:(Int×Int×Int))=> [.a [lI x.1,lI x.2.1,lI x.2.2]]) (fun (r:Bool)=> .b r) p1)] [] (.i r) []:=by
 unfold y2u at hm
 refine Fw.mk' Tryz.func140 R Tryz.ntmps140 R R (fun C=>?_) R R
 refine .seq (.reg (.sa R (.nil (.seqN (.seq (.seq (.reg (.mv R (.op (O.len sl33 Z R R) R (.mv R (.nil (.seqN (.block (bS hm fun o5 eo5 hm=>?_))))))))))))))
 refine .cutU (z:= .exit 0) (fun u7=> .inl u7=o5) (fun (u7:Unit)=>⟨[],[],0⟩) ?_ fun K8=>?_
 ·rintro u7 rfl
  dsimp only at hm
  refine .blkE (.seqN (.seq (.reg (.sa R (.nil (.seqN (.ret ?_)))))))
  obtain rfl:=oi hm
  exact WX.rt [] (.inl R) Tryz.results140 (.tmp R .nil) R (fun _ _ _ h=>h) trivial
 refine .cutU (z:= .ret) (fun u9=> .inr (u9)=o5) (fun (u9:Int)=>⟨[(4,.i u9)],[],0⟩) ?_ fun K10=>?_
 ·rintro u9 rfl
  dsimp only at hm
  refine .blkR (.seqR ?_)
  obtain rfl:=oi hm
  exact WX.rt [] (.inl R) Tryz.results140 (.tmp R .nil) R (fun _ _ _ h=>h) trivial
 refine .iter (fun (st5:Int)=>⟨[(8,.i st5),(7,.i (p0.length:Int)),(0,.f qT p0),(1,.o (lW Tryz.prog (fun (x:(Int×Int×Int))=> [.a [lI x.1,lI x.2.1,lI x.2.2]]) (fun (r:Bool)=> .b r) p1))],[],0⟩) eo5 [] R ?_
 intro st5 res5 hm ih5 ho5
 unfold y5a at hm
 refine .seq (.reg (.bi R (.nil (.seqN (.seq ?_)))))
 rcases ifS hm with ⟨hc,hm⟩ | ⟨hc,hm⟩
 ·refine .cT R hc ?_
  refine .skip (.seqN (.seq (.block (.seq (.reg (.mv R (.sa R (.nil (.seqN (.seq (.reg (.mv R (.mv R (.mv R (bS hm fun x11 ex11 hm=> .op (O.ix sl33 Z R R ex11 R) R (.op (O.lg (l':=[lI x11.1,lI x11.2.1,lI x11.2.2]) ag124 Z R (.E lv124) R R R) R (bS hm fun r12 er12 hm=>?_)))))))))))))))))
  refine .op (O.fv (y:=x11) R R R Z R er12 R R) R ?_
  refine .nil (.seqN ?_)
  rcases ifS hm with ⟨hc,hm⟩ | ⟨hc,hm⟩
  ·refine .cT R hc ?_
   exact .seq (.reg (.mv R (.sa R (.nil (.seqN (.ret (.blkR (.seqR (.seqR ((K10 _ (ho5 _ (oi hm).symm)).sub [] R))))))))))
  ·refine .cF R hc ?_
   exact .skip (.blkN (.seqN (.reg (.bi R (.mv R (.nil ((ih5 _ (oi hm).symm).sub [] R)))))))
 ·refine .cF R hc ?_
  exact .exit (.seqX (.seqX ((K8 _ (ho5 _ (oi hm).symm)).sub [] R)))
def y6L (p0:AutT×(List KeyT)) (st9:List Int×Int):Option ((List Int×Int) ⊕ (List Int)):=
 if decide (st9.2 > 0) then
  (y2u p0.1.2.2.2 (y5M st9.2)).bind fun r13=>
  (idx p0.1.2.2.2 r13).bind fun x14=>
  (app st9.1 ([x14.2.1]:List Int)).bind fun x15=>
  (idx p0.1.2.2.2 r13).bind fun x16=>
  some (.inl (x15,x16.1))
 else
  some (.inr st9.1)
def y5B (p0:AutT×(List KeyT)) (p1:Int):Option (List Int):=
 (iter (y6L p0) (([]:List Int),p1)).bind fun o9=>
 (y4o o9).bind fun r12=>
 some r12
theorem y6S {p0:AutT×(List KeyT)} {p1:Int} {r:List Int} (hm:y5B p0 p1=some r):
  Fw Tryz.prog 81 ⟨0,[]⟩ [.a [lF qI p0.1.1,lI p0.1.2.1,lF qI p0.1.2.2.1,lF qT p0.1.2.2.2,lM kvP qI p0.2],.i p1] [] (.h 0) [ROW qI 3 r]:=by
 unfold y5B at hm
 refine Fw.mk' Tryz.func81 R Tryz.ntmps81 R R (fun C=>?_) R R
 refine .seq (.reg (.op (O.box 0 R Z R R R) R (.op (O.box 1 R Z R R R) R (.sa R (.nil (.seqN (.seq (.reg (.sa R (.nil (.seqN (.seq (.block (bS hm fun o9 eo9 hm=>?_))))))))))))))
 refine .cut1 (z:= .exit 0) o9 (fun (o9:List Int)=>⟨[(5,.h 0)],[(0,ROW qI 3 o9)],1⟩) ?_ fun K11=>?_
 ·skip
  refine .blkE (.seqN (.seq (.reg (.mv R (bS hm fun r12 er12 hm=> .op (O.ca (r':= .tp []) [0] [(0,ROW qI 3 r12)] none (y8k er12) cf142 R R Z R R R R ⟨⟨_,R,fun _ _ _ _ h=>h⟩,trivial⟩ (fun _ _ _ h=>h) R) R (.nil (.seqN (.seq (.reg (.mv R (.sa R (.nil (.seqN (.ret ?_))))))))))))))
  obtain rfl:=oi hm
  exact WX.rt [0] (.inl R) Tryz.results81 (.tmp R .nil) R (fun _ _ _ h=>h) ⟨⟨_,R,fun _ _ _ _ h=>h⟩,trivial⟩
 refine .nlg qI 3 5 0 R R (.iter (fun (st9:List Int×Int)=>⟨[(5,.h 0),(3,.q 1 0),(2,.q 2 0)],[(0,ROW qI 3 st9.1),(1,.bx 3 [lI st9.2]),(2,.bx 141 [lF qI p0.1.1,lI p0.1.2.1,lF qI p0.1.2.2.1,lF qT p0.1.2.2.2,lM kvP qI p0.2])],3⟩) eo9 [(0,2),(2,0)] R ?_)
 intro st9 res9 hm ih9 ho9
 unfold y6L at hm
 refine .seq (.seq (.reg (.op (O.ld nag3 Z R (.B R) R R) R (.bi R (.nil (.seqN ?_))))))
 rcases ifS hm with ⟨hc,hm⟩ | ⟨hc,hm⟩
 ·refine .cT R hc ?_
  refine .skip (.seqN (.block (.seq (.reg (.op (O.faP y5t Z R R) R (.op (O.faP yG Z R R) R (.op (O.ld nag33 Z R (.B R) R R) R (.op (O.mz (l:=[lP 1 0]) Z R R) R (bS hm fun r13 er13 hm=> .op (O.caZ (y5O er13) cf140 R R Z R ⟨⟨R,LnL.rf⟩,⟨R,(.z (l':=[lQ 3 [lI st9.2] 0]) cf152 (fun x r h=>y8H h) (fun _=>R) R ⟨(.q R ⟨.rf,trivial⟩),trivial⟩),trivial⟩,trivial⟩ (fun _ _ _ _ _ h=>h) R) R (.sa R (.nil (.seqN (.seq (.reg (.mv R (.op (O.faP y5t Z R R) R (.op (O.faP yG Z R R) R (.op (O.ld nag33 Z R (.B R) R R) R (.mv R (bS hm fun x14 ex14 hm=> .op (O.ix sl33 Z R R ex14 R) R (.op (O.faE y4L Z R R) R (.op (O.ld nag3 Z R (.E lv124) R R) R (.op (O.bsF (r:=qI) (zs:=([x14.2.1]:List Int)) bs32 R R Z R R R (.c .k .n) R R R) R (bS hm fun x15 ex15 hm=> .op (O.ap 3 Tryz.underlying32 el3 R R Z R R (.fr R) ex15 R) R (.sa R (.nil (.seqN (.reg (.op (O.faP y5t Z R R) R (.op (O.faP yG Z R R) R (.op (O.ld nag33 Z R (.B R) R R) R (.mv R (bS hm fun x16 ex16 hm=> .op (O.ix sl33 Z R R ex16 R) R (.op (O.faE y1W Z R R) R (.op (O.ld nag3 Z R (.E lv124) R R) R ?_)))))))))))))))))))))))))))))))))))
  exact .op (O.st nag3.sz Z R R R R R) R (.nil (.blkN ((ih9 _ (oi hm).symm).sub [(0,3)] R)))
 ·refine .cF R hc ?_
  exact .exit (.seqX (.seqX ((K11 _ (ho9 _ (oi hm).symm)).sub [] R)))
def y7Q (x4:(AutT×(List KeyT))×(AutT×(List KeyT))×(AutT×(List KeyT))×List (List Int)×List Int×List Int) (st23:Int) (r30:List (List Int)) (st36:Int):Option (Int ⊕ (Unit ⊕ (List Int×List Int))):=
 if decide (st36 < (r30.length:Int)) then
  (idx r30 st36).bind fun x43=>
  (y2P x4 st23 x43).bind fun r44=>
  if(!r44) then
   (y5B x4.2.2.1 st23).bind fun r45=>
   some (.inr (.inr ((r45,x43))))
  else
   some (.inl (W (st36 + 1)))
 else
  some (.inr (.inl ()))
def y7R (p1:Int) (x4:(AutT×(List KeyT))×(AutT×(List KeyT))×(AutT×(List KeyT))×List (List Int)×List Int×List Int) (st23:Int):Option (Int ⊕ (Unit ⊕ (List Int×List Int))):=
 if decide (st23 < (x4.2.2.2.1.length:Int)) then
  (y3Y x4 st23 p1).bind fun r30=>
  (iter (y7Q x4 st23 r30) 0).bind fun o36=>
  match o36 with
  | .inl u39=>
   some (.inl (W (st23 + 1)))
  | .inr (u41)=>
   some (.inr (.inr (u41)))
 else
  some (.inr (.inl ()))
def y7s (p0:AutT×AutT×List Int) (p1:Int):Option ((Int×List Int×List Int)×Bool×Int):=
 (y5j p0).bind fun r1=>
 if(r1.2 != 0) then
  some ((0,([]:List Int),([]:List Int)),false,r1.2)
 else
  if((decide (p1 < 2)) || (decide (p1 > 3))) then
   some ((0,([]:List Int),([]:List Int)),false,2)
  else
   r1.1.bind fun x4=>
   (iter (y7R p1 x4) 0).bind fun o23=>
   match o23 with
   | .inl u26=>
    some ((0,([]:List Int),([]:List Int)),true,0)
   | .inr (u28)=>
    some ((1,u28),false,0)
theorem yaE {p0:AutT×AutT×List Int} {p1:Int} {r:(Int×List Int×List Int)×Bool×Int} (hm:y7s p0 p1=some r):
  Fw Tryz.prog 36 ⟨0,[]⟩ [.a [lF qI p0.1.1,lI p0.1.2.1,lF qI p0.1.2.2.1,lF qT p0.1.2.2.2,lF qI p0.2.1.1,lI p0.2.1.2.1,lF qI p0.2.1.2.2.1,lF qT p0.2.1.2.2.2,lF qI p0.2.2],.i p1] [] (.tp [.a [lI r.1.1,lH 0,lF qI r.1.2.2],.b r.2.1,.i r.2.2]) [ROW qI 3 r.1.2.1]:=by
 unfold y7s at hm
 refine Fw.mk' Tryz.func36 R Tryz.ntmps36 R R (fun C=>?_) R R
 refine .seq (.reg (.op (O.box 0 R Z R R R) R (.op (O.al 1 R zz44 R Z R) R (.sa R (.sa R (.nil (.seqN (.seq (.reg (.op (O.lg (l':=[lF qI p0.1.1,lI p0.1.2.1,lF qI p0.1.2.2.1,lF qT p0.1.2.2.2,lF qI p0.2.1.1,lI p0.2.1.2.1,lF qI p0.2.1.2.2.1,lF qT p0.2.1.2.2.2,lF qI p0.2.2]) ag37 Z R (.B R) R R R) R (bS hm fun r1 er1 hm=> .op (O.ca0 (y9k er1) cf85 R R Z R R R) R (.mv R (.op (O.ex Z R R R) R (.op (O.ex Z R R R) R (.sa R (.sa R (.nil (.seqN (.seq (.seq (.reg (.mv R (.bi R (.nil (.seqN ?_)))))))))))))))))))))))))
 rcases ifS hm with ⟨hc,hm⟩ | ⟨hc,hm⟩
 ·refine .cT R hc ?_
  refine .seq (.reg (.op (O.bu (l:=[lI 0,lN,lN]) pl44 R Z R R R) R (.mv R (.op (O.st ag44.sz Z R R R R R) R (.sa R (.sa R (.nil (.seqN (.ret (.seqR (.nlb qI 3 1 1 R R (.cno 1 R (.c .rf (.c .rf (.c (.nf (r:=qI)) .n))) R ?_))))))))))))
  obtain rfl:=oi hm
  exact WX.rt [2] (.inl R) Tryz.results36 (.cell R R ag44 R (.tmp R (.tmp R .nil))) R (fun _ _ _ h=>h) ⟨⟨_,R,fun _ _ _ _ h=>h⟩,trivial⟩
 ·refine .cF R hc ?_
  refine .skip (.seqN (.seq (.seq (.reg (.mv R (.bi R (.mv R ?_)))))))
  refine .cut 3 (fun (v2:Bool)=>((decide (p1 < 2)) || (decide (p1 > 3)))=v2) (fun v2=>⟨[(25,.b v2),(7,.o (lK rE155 155 r1.1)),(4,.q 1 0),(1,.i p1)],[(1,.bx 44 [lI 0,lN,lN])],2⟩) ?_ ?_
  ·rintro _ rfl
   refine .nil (.seqN ?_)
   rcases ifS hm with ⟨hc,hm⟩ | ⟨hc,hm⟩
   ·refine .cT R hc ?_
    refine .seq (.reg (.op (O.bu (l:=[lI 0,lN,lN]) pl44 R Z R R R) R (.op (O.st ag44.sz Z R R R R R) R (.sa R (.sa R (.nil (.seqN (.ret (.seqR (.nlb qI 3 1 1 R R (.cno 1 R (.c .rf (.c .rf (.c (.nf (r:=qI)) .n))) R ?_)))))))))))
    obtain rfl:=oi hm
    exact WX.rt [2] (.inl R) Tryz.results36 (.cell R R ag44 R (.tmp R (.tmp R .nil))) R (fun _ _ _ h=>h) ⟨⟨_,R,fun _ _ _ _ h=>h⟩,trivial⟩
   ·refine .cF R hc ?_
    refine .skip (.seqN (.seq (.seq (.reg (.mv R (bS hm fun x4 ex4 hm=> .cnt 27 R (.c (.pd ex4 lv155) .n) R (.cnt 7 R (.c (.pd ex4 lv155) .n) R (.op (O.nc .Q Z R R) R (.op (O.faQ y9V Z R R) R (.op (O.ld nag53 Z R .Q R R) R (.op (O.len sl53 Z R R) R (.mv R (.nil (.seqN (.block (bS hm fun o23 eo23 hm=>?_))))))))))))))))
    refine .cutU (z:= .exit 0) (fun u26=> .inl u26=o23) (fun (u26:Unit)=>⟨[(4,.q 0 0)],[(0,.bx 44 [lI 0,lN,lN])],1⟩) ?_ fun K27=>?_
    ·rintro u26 rfl
     dsimp only at hm
     refine .blkE (.seqN (.seq (.reg (.op (O.bu (l:=[lI 0,lN,lN]) pl44 R Z R R R) R (.op (O.st ag44.sz Z R R R R R) R (.sa R (.sa R (.nil (.seqN (.ret (.nlb qI 3 0 1 R R (.cno 0 R (.c .rf (.c .rf (.c (.nf (r:=qI)) .n))) R ?_))))))))))))
     obtain rfl:=oi hm
     exact WX.rt [1] (.inl R) Tryz.results36 (.cell R R ag44 R (.tmp R (.tmp R .nil))) R (fun _ _ _ h=>h) ⟨⟨_,R,fun _ _ _ _ h=>h⟩,trivial⟩
    refine .cutU (z:= .ret) (fun u28=> .inr (u28)=o23) (fun (u28:List Int×List Int)=>⟨[(6,.i 0),(5,.b false),(4,.q 0 0)],[(0,.bx 44 [lI 1,lH 1,lF qI u28.2]),(1,ROW qI 3 u28.1)],2⟩) ?_ fun K29=>?_
    ·rintro u28 rfl
     dsimp only at hm
     refine .blkR (.seqR ?_)
     obtain rfl:=oi hm
     exact WX.rt [1] (.inl R) Tryz.results36 (.cell R R ag44 R (.tmp R (.tmp R .nil))) R (fun _ _ _ h=>h) ⟨⟨_,R,fun _ _ _ _ h=>h⟩,trivial⟩
    refine .iter (fun (st23:Int)=>⟨[(32,.i st23),(31,.i (x4.2.2.2.1.length:Int)),(7,.o (lQ 155 (lx155 x4) 0)),(4,.q 0 0),(1,.i p1)],[(0,.bx 44 [lI 0,lN,lN])],1⟩) eo23 [(0,1)] R ?_
    intro st23 res23 hm ih23 ho23
    unfold y7R at hm
    refine .seq (.reg (.bi R (.nil (.seqN (.seq ?_)))))
    rcases ifS hm with ⟨hc,hm⟩ | ⟨hc,hm⟩
    ·refine .cT R hc ?_
     refine .skip (.seqN (.seq (.block (.seq (.reg (.mv R (.sa R (.nil (.seqN (.seq (.reg (.mv R (.mv R (.mv R (bS hm fun r30 er30 hm=> .op (O.ca (r':= .h 1) [1] [(0,ROW (rL qI) 32 r30)] (some 2) (y6J er30) cf109 R R Z R R R R ⟨⟨_,R,fun _ _ _ _ h=>h⟩,trivial⟩ (fun _ _ _ h=>h) R) R (.op (O.lenH sl53 Z R R R) R (.mv R (.nil (.seqN (.block (bS hm fun o36 eo36 hm=>?_)))))))))))))))))))))
     refine .cutU (z:= .exit 2) (fun u39=> .inl u39=o36) (fun (u39:Unit)=>⟨[(32,.i st23),(31,.i (x4.2.2.2.1.length:Int)),(7,.o (lQ 155 (lx155 x4) 0)),(4,.q 0 0),(1,.i p1)],[(0,.bx 44 [lI 0,lN,lN])],1⟩) ?_ fun K40=>?_
     ·rintro u39 rfl
      dsimp only at hm
      exact .blkE (.blkN (.seqN (.reg (.bi R (.mv R (.nil ((ih23 _ (oi hm).symm).sub [] R)))))))
     refine .cutU (z:= .ret) (fun u41=> .inr (u41)=o36) (fun (u41:List Int×List Int)=>⟨[(6,.i 0),(5,.b false),(4,.q 0 0)],[(0,.bx 44 [lI 1,lH 1,lF qI u41.2]),(1,ROW qI 3 u41.1)],2⟩) ?_ fun K42=>?_
     ·rintro u41 rfl
      dsimp only at hm
      exact .blkR (.blkR (.seqR (.seqR ((K29 _ (ho23 _ (oi hm).symm)).sub [] R))))
     refine .iter (fun (st36:Int)=>⟨[(40,.i st36),(39,.i (r30.length:Int)),(38,.h 0),(8,.i st23),(32,.i st23),(31,.i (x4.2.2.2.1.length:Int)),(7,.o (lQ 155 (lx155 x4) 0)),(4,.q 1 0),(1,.i p1)],[(0,ROW (rL qI) 32 r30),(1,.bx 44 [lI 0,lN,lN])],2⟩) eo36 [(0,1),(1,0)] R ?_
     intro st36 res36 hm ih36 ho36
     unfold y7Q at hm
     refine .seq (.reg (.bi R (.nil (.seqN (.seq ?_)))))
     rcases ifS hm with ⟨hc,hm⟩ | ⟨hc,hm⟩
     ·refine .cT R hc ?_
      refine .skip (.seqN (.seq (.block (.seq (.reg (bS hm fun x43 ex43 hm=> .op (O.ir sl53 Z R R R ex43 R) R (.op (O.ld nag32 Z R (.R R ex43 lv32) R R) R (.sa R (.nil (.seqN (.seq (.reg (.mv R (.mv R (.mv R (bS hm fun r44 er44 hm=> .op (O.ca0 (y6x er44) cf93 R R Z R R R) R (.op (O.not Z R R) R (.nil (.seqN ?_)))))))))))))))))))
      rcases ifS hm with ⟨hc,hm⟩ | ⟨hc,hm⟩
      ·refine .cT R hc ?_
       exact .seq (.reg (.mv R (.op (O.nc .Q Z R R) R (.op (O.faQ y5J Z R R) R (.op (O.lg (l':=[lF qI x4.2.2.1.1.1,lI x4.2.2.1.1.2.1,lF qI x4.2.2.1.1.2.2.1,lF qT x4.2.2.1.1.2.2.2,lM kvP qI x4.2.2.1.2]) ag141 Z R .Q R R R) R (.mv R (bS hm fun r45 er45 hm=> .op (O.ca (r':= .h 2) [2] [(0,ROW qI 3 r45)] (some 3) (y6S er45) cf81 R R Z R R R R ⟨⟨_,R,fun _ _ _ _ h=>h⟩,trivial⟩ (fun _ _ _ h=>h) R) R (.mv R (.op (O.bu (l:=[lI 1,lH 2,lF qI x43]) pl44 R Z R R R) R (.op (O.st ag44.sz Z R R R R R) R (.sa R (.sa R (.nil (.seqN (.ret (.blkR (.seqR (.seqR ((K42 _ (ho36 _ (oi hm).symm)).sub [(0,1),(1,2)] R)))))))))))))))))))
      ·refine .cF R hc ?_
       exact .skip (.blkN (.seqN (.reg (.bi R (.mv R (.nil ((ih36 _ (oi hm).symm).sub [] R)))))))
     ·refine .cF R hc ?_
      exact .exit (.seqX (.seqX ((K40 _ (ho36 _ (oi hm).symm)).sub [(0,1)] R)))
    ·refine .cF R hc ?_
     exact .exit (.seqX (.seqX ((K27 _ (ho23 _ (oi hm).symm)).sub [] R)))
  ·intro J3
   rcases Bool.eq_false_or_eq_true (decide (p1 < 2)) with hc | hc
   ·refine .know (d:=22) R hc ?_
    exact .sk R (.sk R (.op (O.pkT Z R R R R) R ((J3 true (orT hc).symm).sub [] R)))
   ·refine .know (d:=22) R hc ?_
    exact .op (O.mv (Gu.mk R R) R R) R (.op (O.bi (Gu.mk R R) R R R R) R (.op (O.pkF Z R R R R) R ((J3 (decide (p1 > 3)) (orF hc).symm).sub [] R)))
def y2c (p0:(AutT×(List KeyT))×(AutT×(List KeyT))×(AutT×(List KeyT))×List (List Int)×List Int×List Int) (p1:List Int) (st8:Int):Option (Int ⊕ (Unit ⊕ Int)):=
 if decide (st8 < (p1.length:Int)) then
  (idx p1 st8).bind fun x14=>
  (yk p0.1.1.1 x14).bind fun r15=>
  if(!r15) then
   some (.inr (.inr (9)))
  else
   (yk p0.2.2.2.2.1 x14).bind fun r16=>
   if r16 then
    some (.inr (.inr (13)))
   else
    (slc p1 0 st8).bind fun x17=>
    (yA x17 x14).bind fun r18=>
    if r18 then
     some (.inr (.inr (8)))
    else
     some (.inl (W (st8 + 1)))
 else
  some (.inr (.inl ()))
def y2R (p0:(AutT×(List KeyT))×(AutT×(List KeyT))×(AutT×(List KeyT))×List (List Int)×List Int×List Int) (p1:List Int):Option Int:=
 (iter (y2c p0 p1) 0).bind fun o8=>
 match o8 with
 | .inl u10=>
  some 0
 | .inr (u12)=>
  some u12
theorem y7j {p0:(AutT×(List KeyT))×(AutT×(List KeyT))×(AutT×(List KeyT))×List (List Int)×List Int×List Int} {p1:List Int} {r:Int} (hm:y2R p0 p1=some r):
  Fw Tryz.prog 148 ⟨0,[]⟩ [.o (lQ 155 (lx155 p0) 0),.f qI p1] [] (.i r) []:=by
 unfold y2R at hm
 refine Fw.mk' Tryz.func148 R Tryz.ntmps148 R R (fun C=>?_) R R
 refine .seq (.reg (.sa R (.nil (.seqN (.seq (.seq (.reg (.mv R (.op (O.len sl32 Z R R) R (.mv R (.nil (.seqN (.block (bS hm fun o8 eo8 hm=>?_))))))))))))))
 refine .cutU (z:= .exit 0) (fun u10=> .inl u10=o8) (fun (u10:Unit)=>⟨[],[],0⟩) ?_ fun K11=>?_
 ·rintro u10 rfl
  dsimp only at hm
  refine .blkE (.seqN (.seq (.reg (.sa R (.nil (.seqN (.ret ?_)))))))
  obtain rfl:=oi hm
  exact WX.rt [] (.inl R) Tryz.results148 (.tmp R .nil) R (fun _ _ _ h=>h) trivial
 refine .cutU (z:= .ret) (fun u12=> .inr (u12)=o8) (fun (u12:Int)=>⟨[(4,.i u12)],[],0⟩) ?_ fun K13=>?_
 ·rintro u12 rfl
  dsimp only at hm
  refine .blkR (.seqR ?_)
  obtain rfl:=oi hm
  exact WX.rt [] (.inl R) Tryz.results148 (.tmp R .nil) R (fun _ _ _ h=>h) trivial
 refine .iter (fun (st8:Int)=>⟨[(9,.i st8),(8,.i (p1.length:Int)),(7,.f qI p1),(0,.o (lQ 155 (lx155 p0) 0)),(1,.f qI p1)],[],0⟩) eo8 [] R ?_
 intro st8 res8 hm ih8 ho8
 unfold y2c at hm
 refine .seq (.reg (.bi R (.nil (.seqN (.seq ?_)))))
 rcases ifS hm with ⟨hc,hm⟩ | ⟨hc,hm⟩
 ·refine .cT R hc ?_
  refine .skip (.seqN (.seq (.block (.seq (.reg (.mv R (bS hm fun x14 ex14 hm=> .op (O.ix sl32 Z R R ex14 R) R (.op (O.ld nag3 Z R (.E lv3) R R) R (.sa R (.sa R (.nil (.seqN (.block (.seq (.reg (.mv R (.op (O.nc .Q Z R R) R (.op (O.faQ yb9 Z R R) R (.op (O.faQ y5t Z R R) R (.op (O.faQ y1R Z R R) R (.op (O.ld nag32 Z R .Q R R) R (.mv R (bS hm fun r15 er15 hm=> .op (O.ca0 (yH er15) cf94 R R Z R R R) R (.op (O.not Z R R) R (.sa R (.nil (.seqN ?_)))))))))))))))))))))))))))
  rcases ifS hm with ⟨hc,hm⟩ | ⟨hc,hm⟩
  ·refine .cT R hc ?_
   exact .seq (.reg (.sa R (.nil (.seqN (.ret (.blkR (.blkR (.seqR (.seqR ((K13 _ (ho8 _ (oi hm).symm)).sub [] R))))))))))
  ·refine .cF R hc ?_
   refine .seq (.reg (.mv R (.op (O.nc .Q Z R R) R (.op (O.faQ y9W Z R R) R (.op (O.ld nag32 Z R .Q R R) R (.mv R (bS hm fun r16 er16 hm=> .op (O.ca0 (yH er16) cf94 R R Z R R R) R (.sa R (.nil (.seqN ?_))))))))))
   rcases ifS hm with ⟨hc,hm⟩ | ⟨hc,hm⟩
   ·refine .cT R hc ?_
    exact .seq (.reg (.sa R (.nil (.seqN (.ret (.blkR (.blkR (.seqR (.seqR ((K13 _ (ho8 _ (oi hm).symm)).sub [] R))))))))))
   ·refine .cF R hc ?_
    refine .seq (.reg (.mv R (.mv R (bS hm fun x17 ex17 hm=> .op (O.sh sl32 Z R R ex17 R) R (.mv R (bS hm fun r18 er18 hm=> .op (O.ca0 (y2t er18) cf104 R R Z R R R) R (.sa R (.nil (.seqN ?_)))))))))
    rcases ifS hm with ⟨hc,hm⟩ | ⟨hc,hm⟩
    ·refine .cT R hc ?_
     exact .seq (.reg (.sa R (.nil (.seqN (.ret (.blkR (.blkR (.seqR (.seqR ((K13 _ (ho8 _ (oi hm).symm)).sub [] R))))))))))
    ·refine .cF R hc ?_
     exact .skip (.blkN (.blkN (.seqN (.reg (.bi R (.mv R (.nil ((ih8 _ (oi hm).symm).sub [] R))))))))
 ·refine .cF R hc ?_
  exact .exit (.seqX (.seqX ((K11 _ (ho8 _ (oi hm).symm)).sub [] R)))
def y5K (p0:AutT×AutT×List Int) (p1:List Int):Option ((Option ((AutT×(List KeyT))×(AutT×(List KeyT))×(AutT×(List KeyT))×List (List Int)×List Int×List Int))×Int):=
 (y5j p0).bind fun r1=>
 if(r1.2 != 0) then
  some (none,r1.2)
 else
  r1.1.bind fun x2=>
  (y2R x2 p1).bind fun r3=>
  if(r3 != 0) then
   some (none,r3)
  else
   some ((some x2),0)
theorem y9l {p0:AutT×AutT×List Int} {p1:List Int} {r:(Option ((AutT×(List KeyT))×(AutT×(List KeyT))×(AutT×(List KeyT))×List (List Int)×List Int×List Int))×Int} (hm:y5K p0 p1=some r):
  Fw Tryz.prog 77 ⟨0,[]⟩ [.a [lF qI p0.1.1,lI p0.1.2.1,lF qI p0.1.2.2.1,lF qT p0.1.2.2.2,lF qI p0.2.1.1,lI p0.2.1.2.1,lF qI p0.2.1.2.2.1,lF qT p0.2.1.2.2.2,lF qI p0.2.2],.f qI p1] [] (.tp [.o (lK rE155 155 r.1),.i r.2]) []:=by
 unfold y5K at hm
 refine Fw.mk' Tryz.func77 R Tryz.ntmps77 R R (fun C=>?_) R R
 refine .seq (.reg (.op (O.box 0 R Z R R R) R (.sa R (.sa R (.nil (.seqN (.seq (.reg (.op (O.lg (l':=[lF qI p0.1.1,lI p0.1.2.1,lF qI p0.1.2.2.1,lF qT p0.1.2.2.2,lF qI p0.2.1.1,lI p0.2.1.2.1,lF qI p0.2.1.2.2.1,lF qT p0.2.1.2.2.2,lF qI p0.2.2]) ag37 Z R (.B R) R R R) R (bS hm fun r1 er1 hm=> .op (O.ca0 (y9k er1) cf85 R R Z R R R) R (.mv R (.op (O.ex Z R R R) R (.op (O.ex Z R R R) R (.sa R (.sa R (.nil (.seqN (.seq (.seq (.reg (.mv R (.bi R (.nil (.seqN ?_))))))))))))))))))))))))
 rcases ifS hm with ⟨hc,hm⟩ | ⟨hc,hm⟩
 ·refine .cT R hc ?_
  refine .seq (.reg (.mv R (.sa R (.sa R (.nil (.seqN (.ret (.seqR (.cnt 4 R (.c (.pn (r:=rE155) (T:=155)) .n) R ?_)))))))))
  obtain rfl:=oi hm
  exact WX.rt [] (.inl R) Tryz.results77 (.tmp R (.tmp R .nil)) R (fun _ _ _ h=>h) trivial
 ·refine .cF R hc ?_
  refine .skip (.seqN (.seq (.seq (.reg (.mv R (.mv R (bS hm fun x2 ex2 hm=> .cnt 17 R (.c (.pd ex2 lv155) .n) R (.cnt 6 R (.c (.pd ex2 lv155) .n) R (.cnt 12 R (.c (.pd ex2 lv155) .n) R (bS hm fun r3 er3 hm=> .op (O.ca0 (y7j er3) cf148 R R Z R R R) R (.sa R (.nil (.seqN (.seq (.reg (.mv R (.bi R (.nil (.seqN ?_)))))))))))))))))))
  rcases ifS hm with ⟨hc,hm⟩ | ⟨hc,hm⟩
  ·refine .cT R hc ?_
   refine .seq (.reg (.mv R (.sa R (.sa R (.nil (.seqN (.ret (.seqR (.cnt 4 R (.c (.pn (r:=rE155) (T:=155)) .n) R ?_)))))))))
   obtain rfl:=oi hm
   exact WX.rt [] (.inl R) Tryz.results77 (.tmp R (.tmp R .nil)) R (fun _ _ _ h=>h) trivial
  ·refine .cF R hc ?_
   refine .skip (.seqN (.seq (.reg (.mv R (.sa R (.sa R (.nil (.seqN (.ret (.cnt 4 R (.c (.pk (r:=rE155) (.p (.p (.p .l (.p .k (.p .l .l))) .m) (.p (.p (.p .l (.p .k (.p .l .l))) .m) (.p (.p (.p .l (.p .k (.p .l .l))) .m) (.p .l (.p .l .l)))))) .n) R ?_))))))))))
   obtain rfl:=oi hm
   exact WX.rt [] (.inl R) Tryz.results77 (.tmp R (.tmp R .nil)) R (fun _ _ _ h=>h) trivial
def y3s (q0:Option ((AutT×(List KeyT))×(AutT×(List KeyT))×(AutT×(List KeyT))×List (List Int)×List Int×List Int)) (q1:Int) (p0:Int):Option Bool:=
 q0.bind fun x1=>
 (y1d x1.2.2.1 q1 p0).bind fun r2=>
 some (r2 != (-1))
theorem y8m {q0:Option ((AutT×(List KeyT))×(AutT×(List KeyT))×(AutT×(List KeyT))×List (List Int)×List Int×List Int)} {q1:Int} {p0:Int} {r:Bool} (hm:y3s q0 q1 p0=some r):
  Fw Tryz.prog 203 ⟨0,[]⟩ [.i p0,.o (lQ 136 [lK rE155 155 q0] 0),.o (lQ 3 [lI q1] 0)] [] (.b r) []:=by
 unfold y3s at hm
 refine Fw.mk' Tryz.func203 R Tryz.ntmps203 R R (fun C=>?_) R R
 refine .seq (.reg (.sa R (.nil (.seqN (.seq (bS hm fun x1 ex1 hm=> .cnt 1 R (.c (.q (.c (.pd ex1 lv155) .n)) .n) R ?_))))))
 refine .sub (τ:=⟨[(0,.i p0),(1,.o (lQ 136 [lQ 155 (lx155 x1) 0] 0)),(2,.o (lQ 3 [lI q1] 0))],[],0⟩) ?_ [] R
 refine bS hm fun r2 er2 hm=>?_
 refine .drw [(0,[]),(0,[oT]),(0,[oT,oT]),(0,tT 3),(0,[]),(0,[]),(0,tT 6),(0,tT 7),(0,tT 8)] [_,_,_,_,_,_,_,_,_] ⟨[(4,.b (r2 != (-1)))],[],0⟩ ⟨O.ld yfU Z R .Q R R,O.nc .Q Z R R,O.faQ y5J Z R R,O.lg (l':=[lF qI x1.2.2.1.1.1,lI x1.2.2.1.1.2.1,lF qI x1.2.2.1.1.2.2.1,lF qT x1.2.2.1.1.2.2.2,lM kvP qI x1.2.2.1.2]) ag141 Z R .Q R R R,O.ld nag3 Z R .Q R R,O.mv Z R R,O.ca0 (y1U er2) cf150 R R Z R R R,O.bi Z R R R R,O.as Z R R,trivial⟩ (by kernel_rfl) R ?_
 refine .seqN (.ret ?_)
 obtain rfl:=oi hm
 exact WX.rt [] (.inl R) Tryz.results203 (.tmp R .nil) R (fun _ _ _ h=>h) trivial
def y5h (p0:List Int) (p1:Int→Option Bool) (st5:Int):Option (Int ⊕ (Unit ⊕ Int)):=
 if decide (st5 < (p0.length:Int)) then
  (idx p0 st5).bind fun x11=>
  (p1 x11).bind fun r12=>
  if r12 then
   some (.inr (.inr (st5)))
  else
   some (.inl (W (st5 + 1)))
 else
  some (.inr (.inl ()))
def y2G (p0:List Int) (p1:Int→Option Bool):Option Int:=
 (iter (y5h p0 p1) 0).bind fun o5=>
 match o5 with
 | .inl u7=>
  some (-1)
 | .inr (u9)=>
  some u9
theorem y5Y {p0:List Int} {p1:Int→Option Bool} {r:Int} (hm:y2G p0 p1=some r):
  Fw Tryz.prog 136 ⟨0,[]⟩ [.f qI p0,.o (lW Tryz.prog (fun (x:Int)=> [.i x]) (fun (r:Bool)=> .b r) p1)] [] (.i r) []:=by
 unfold y2G at hm
 refine Fw.mk' Tryz.func136 R Tryz.ntmps136 R R (fun C=>?_) R R
 refine .seq (.reg (.sa R (.nil (.seqN (.seq (.seq (.reg (.mv R (.op (O.len sl32 Z R R) R (.mv R (.nil (.seqN (.block (bS hm fun o5 eo5 hm=>?_))))))))))))))
 refine .cutU (z:= .exit 0) (fun u7=> .inl u7=o5) (fun (u7:Unit)=>⟨[],[],0⟩) ?_ fun K8=>?_
 ·rintro u7 rfl
  dsimp only at hm
  refine .blkE (.seqN (.seq (.reg (.sa R (.nil (.seqN (.ret ?_)))))))
  obtain rfl:=oi hm
  exact WX.rt [] (.inl R) Tryz.results136 (.tmp R .nil) R (fun _ _ _ h=>h) trivial
 refine .cutU (z:= .ret) (fun u9=> .inr (u9)=o5) (fun (u9:Int)=>⟨[(4,.i u9)],[],0⟩) ?_ fun K10=>?_
 ·rintro u9 rfl
  dsimp only at hm
  refine .blkR (.seqR ?_)
  obtain rfl:=oi hm
  exact WX.rt [] (.inl R) Tryz.results136 (.tmp R .nil) R (fun _ _ _ h=>h) trivial
 refine .iter (fun (st5:Int)=>⟨[(8,.i st5),(7,.i (p0.length:Int)),(0,.f qI p0),(1,.o (lW Tryz.prog (fun (x:Int)=> [.i x]) (fun (r:Bool)=> .b r) p1))],[],0⟩) eo5 [] R ?_
 intro st5 res5 hm ih5 ho5
 unfold y5h at hm
 refine .seq (.reg (.bi R (.nil (.seqN (.seq ?_)))))
 rcases ifS hm with ⟨hc,hm⟩ | ⟨hc,hm⟩
 ·refine .cT R hc ?_
  refine .skip (.seqN (.seq (.block (.seq (.reg (.mv R (.sa R (.nil (.seqN (.seq (.reg (.mv R (.mv R (.mv R (bS hm fun x11 ex11 hm=> .op (O.ix sl32 Z R R ex11 R) R (.op (O.ld nag3 Z R (.E lv3) R R) R (bS hm fun r12 er12 hm=>?_)))))))))))))))))
  refine .op (O.fv (y:=x11) R R R Z R er12 R R) R ?_
  refine .nil (.seqN ?_)
  rcases ifS hm with ⟨hc,hm⟩ | ⟨hc,hm⟩
  ·refine .cT R hc ?_
   exact .seq (.reg (.mv R (.sa R (.nil (.seqN (.ret (.blkR (.seqR (.seqR ((K10 _ (ho5 _ (oi hm).symm)).sub [] R))))))))))
  ·refine .cF R hc ?_
   exact .skip (.blkN (.seqN (.reg (.bi R (.mv R (.nil ((ih5 _ (oi hm).symm).sub [] R)))))))
 ·refine .cF R hc ?_
  exact .exit (.seqX (.seqX ((K8 _ (ho5 _ (oi hm).symm)).sub [] R)))
def y4T (p0:(AutT×(List KeyT))×(AutT×(List KeyT))×(AutT×(List KeyT))×List (List Int)×List Int×List Int) (p1:Int) (p2:List Int):Option Int:=
 (y2G p2 (y3s (some p0) p1)).bind fun r1=>
 if decide (r1 < 0) then
  some (-1)
 else
  (idx p2 r1).bind fun x2=>
  some x2
theorem y9a {p0:(AutT×(List KeyT))×(AutT×(List KeyT))×(AutT×(List KeyT))×List (List Int)×List Int×List Int} {p1:Int} {p2:List Int} {r:Int} (hm:y4T p0 p1 p2=some r):
  Fw Tryz.prog 149 ⟨0,[]⟩ [.o (lQ 155 (lx155 p0) 0),.i p1,.f qI p2] [] (.i r) []:=by
 unfold y4T at hm
 refine Fw.mk' Tryz.func149 R Tryz.ntmps149 R R (fun C=>?_) R R
 refine .seq (.reg (.op (O.box 0 R Z R R R) R (.op (O.box 1 R Z R R R) R (.sa R (.nil (.seqN (.seq (.reg (.mv R (.fz 0 [3] [] R R fB R R (.fz 1 [4] [] R R fB R R (.cnt 3 R (.c (.q (.c (.pk (r:=rE155) (.p (.p (.p .l (.p .k (.p .l .l))) .m) (.p (.p (.p .l (.p .k (.p .l .l))) .m) (.p (.p (.p .l (.p .k (.p .l .l))) .m) (.p .l (.p .l .l)))))) .n)) .n) R (.op (O.mf (args:=(fun (x:Int)=> [.i x])) (res:=(fun (r:Bool)=> .b r)) (m:=(y3s (some p0) p1)) cf203 (fun x r h=>y8m h) (fun _=>R) R Z R R) R (bS hm fun r1 er1 hm=> .op (O.ca0 (y5Y er1) cf136 R R Z R R R) R (.sa R (.nil (.seqN (.seq (.seq (.reg (.mv R (.bi R (.nil (.seqN ?_))))))))))))))))))))))))
 rcases ifS hm with ⟨hc,hm⟩ | ⟨hc,hm⟩
 ·refine .cT R hc ?_
  refine .seq (.reg (.sa R (.nil (.seqN (.ret (.seqR ?_))))))
  obtain rfl:=oi hm
  exact WX.rt [] (.inl R) Tryz.results149 (.tmp R .nil) R (fun _ _ _ h=>h) trivial
 ·refine .cF R hc ?_
  refine .skip (.seqN (.seq (.reg (.mv R (.mv R (bS hm fun x2 ex2 hm=> .op (O.ix sl32 Z R R ex2 R) R (.op (O.ld nag3 Z R (.E lv3) R R) R (.sa R (.nil (.seqN (.ret ?_)))))))))))
  obtain rfl:=oi hm
  exact WX.rt [] (.inl R) Tryz.results149 (.tmp R .nil) R (fun _ _ _ h=>h) trivial
def yT (st110:Int×List Int×(List (Int×Int))×EdgL) (l115:List Int) (l116:List (Int×Int)) (l117:List (Int×Int×Int)):Option ((Int×List Int×(List (Int×Int))×EdgL) ⊕ (List Int×(List (Int×Int))×EdgL)):=
 some (.inl (W (st110.1 + 1),l115,l116,l117))
def y1I (st73:Int×List Int×(List (Int×Int))×List Int×EdgL) (st110:Int×List Int×(List (Int×Int))×EdgL) (r121:Int) (x119:Int) (l125:List Int) (l126:List (Int×Int)):Option ((Int×List Int×(List (Int×Int))×EdgL) ⊕ (List Int×(List (Int×Int))×EdgL)):=
 (app st110.2.2.2 ([(st73.1,x119,((kget l126 r121).getD 0))]:List (Int×Int×Int))).bind fun x128=>
 yT st110 l125 l126 x128
def y1J (p0:(AutT×(List KeyT))×(AutT×(List KeyT))×(AutT×(List KeyT))×List (List Int)×List Int×List Int) (r1:List Int) (st73:Int×List Int×(List (Int×Int))×List Int×EdgL) (r82:Int) (st110:Int×List Int×(List (Int×Int))×EdgL):Option ((Int×List Int×(List (Int×Int))×EdgL) ⊕ (List Int×(List (Int×Int))×EdgL)):=
 if decide (st110.1 < (r1.length:Int)) then
  (idx r1 st110.1).bind fun x119=>
  (idx st110.2.1 st73.1).bind fun x120=>
  (y1d p0.2.2.1 x120 x119).bind fun r121=>
  (if (r121 == (-1)) then
   some true
  else
   (if (x119 != r82) then
    (yk p0.2.2.2.2.1 x119).bind fun r133=>
    some (!r133)
   else
    some false).bind fun b130=>
   some b130).bind fun b122=>
  if b122 then
   yT st110 st110.2.1 st110.2.2.1 st110.2.2.2
  else
   if(!((kget st110.2.2.1 r121).isSome)) then
    (app st110.2.1 ([r121]:List Int)).bind fun x129=>
    y1I st73 st110 r121 x119 x129 (kput st110.2.2.1 r121 (st110.2.1.length:Int))
   else
    y1I st73 st110 r121 x119 st110.2.1 st110.2.2.1
 else
  some (.inr st110.2)
def y1K (p0:(AutT×(List KeyT))×(AutT×(List KeyT))×(AutT×(List KeyT))×List (List Int)×List Int×List Int) (p1:List Int) (r1:List Int) (st73:Int×List Int×(List (Int×Int))×List Int×EdgL) (l79:List Int):Option ((Int×List Int×(List (Int×Int))×List Int×EdgL) ⊕ (List Int×List Int×EdgL)):=
 (idx st73.2.1 st73.1).bind fun x81=>
 (y4T p0 x81 p1).bind fun r82=>
 (iter (y1J p0 r1 st73 r82) (0,st73.2.1,st73.2.2.1,st73.2.2.2.2)).bind fun o110=>
 some (.inl (W (st73.1 + 1),o110.1,o110.2.1,l79,o110.2.2))
def y1L (p0:(AutT×(List KeyT))×(AutT×(List KeyT))×(AutT×(List KeyT))×List (List Int)×List Int×List Int) (p1:List Int) (r1:List Int) (st73:Int×List Int×(List (Int×Int))×List Int×EdgL):Option ((Int×List Int×(List (Int×Int))×List Int×EdgL) ⊕ (List Int×List Int×EdgL)):=
 if decide (st73.1 < (st73.2.1.length:Int)) then
  (idx st73.2.1 st73.1).bind fun x134=>
  (yk p0.2.2.1.1.2.2.1 x134).bind fun r135=>
  if r135 then
   (app st73.2.2.2.1 ([st73.1]:List Int)).bind fun x136=>
   y1K p0 p1 r1 st73 x136
  else
   y1K p0 p1 r1 st73 st73.2.2.2.1
 else
  some (.inr (st73.2.1,st73.2.2.2))
def y1M (p0:(AutT×(List KeyT))×(AutT×(List KeyT))×(AutT×(List KeyT))×List (List Int)×List Int×List Int) (p1:List Int) (r1:List Int) (l2:List Int) (l3:List (Int×Int)):Option (AutT×(List KeyT)):=
 (iter (y1L p0 p1 r1) (0,l2,l3,([]:List Int),([]:List (Int×Int×Int)))).bind fun o73=>
 (y4S (r1,(o73.1.length:Int),o73.2)).bind fun r78=>
 some r78
def y1D (p0:(AutT×(List KeyT))×(AutT×(List KeyT))×(AutT×(List KeyT))×List (List Int)×List Int×List Int) (p1:List Int):Option (AutT×(List KeyT)):=
 (y1a p0.2.2.1.1.1).bind fun r1=>
 if decide (p0.2.2.1.1.2.1 > 0) then
  (app ([]:List Int) ([0]:List Int)).bind fun x137=>
  y1M p0 p1 r1 x137 (kput ([]:List (Int×Int)) 0 0)
 else
  y1M p0 p1 r1 ([]:List Int) ([]:List (Int×Int))
theorem y5Z {p0:(AutT×(List KeyT))×(AutT×(List KeyT))×(AutT×(List KeyT))×List (List Int)×List Int×List Int} {p1:List Int} {r:(AutT×(List KeyT))} (hm:y1D p0 p1=some r):
  Fw Tryz.prog 78 ⟨0,[]⟩ [.o (lQ 155 (lx155 p0) 0),.f qI p1] [] (.g [lF qI r.1.1,lI r.1.2.1,lF qI r.1.2.2.1,lF qT r.1.2.2.2,lM kvP qI r.2]) []:=by
 unfold y1D at hm
 refine Fw.mk' Tryz.func78 R Tryz.ntmps78 R R (fun C=>?_) R R
 refine .seq (.reg (.op (O.al 0 R zz141 R Z R) R (.nil (.seqN (.seq (.reg (.mv R (.op (O.nc .Q Z R R) R (.op (O.faQ y5J Z R R) R (.op (O.faQ y5t Z R R) R (.op (O.faQ y1R Z R R) R (.op (O.ld nag32 Z R .Q R R) R (bS hm fun r1 er1 hm=> .op (O.ca (r':= .h 1) [1] [(0,ROW qI 3 r1)] (some 2) (y4p er1) cf103 R R Z R R R R ⟨⟨_,R,fun _ _ _ _ h=>h⟩,trivial⟩ (fun _ _ _ h=>h) R) R (.op (O.bu (l:=[lH 1,lI 0,lN,lN]) pl35 R Z R R R) R (.op (O.al 2 R zz35 R Z R) R (.op (O.st ag35.sz Z R R R R R) R (.nil (.seqN (.seq (.reg (.sa R (.nil (.seqN (.seq (.reg (.op (O.mk2 (kv:=kvI) (r:=qI) 3 R Z R) R (.sa R (.nil (.seqN ?_)))))))))))))))))))))))))))))
 refine .join2 (fun (l2:List Int) (l3:List (Int×Int))=>y1M p0 p1 r1 l2 l3=some r) (fun l2 l3=>⟨[(6,.h 0),(7,.h 1),(5,.q 2 0),(4,.q 4 0),(0,.o (lQ 155 (lx155 p0) 0)),(1,.f qI p1)],[(0,ROW qI 3 l2),(1,MAP kvI qI 229 l3),(2,.bx 35 [lH 3,lI 0,lN,lN]),(3,ROW qI 3 r1),(4,.bx 141 [lN,lI 0,lN,lN,lV (.map none)])],5⟩) ?_ ?_
 ·intro l2 l3 hm
  unfold y1M at hm
  refine .seq (.seq (.reg (.sa R (.nil (.seqN (.block (bS hm fun o73 eo73 hm=>?_)))))))
  refine .cut1 (z:= .exit 0) o73 (fun (o73:List Int×List Int×EdgL)=>⟨[(6,.h 0),(5,.q 1 0),(4,.q 5 0)],[(0,ROW qI 3 o73.1),(1,.bx 35 [lH 2,lI 0,lH 3,lH 4]),(2,ROW qI 3 r1),(3,ROW qI 3 o73.2.1),(4,ROW qT 124 o73.2.2),(5,.bx 141 [lN,lI 0,lN,lN,lV (.map none)])],6⟩) ?_ fun K77=>?_
  ·skip
   refine .blkE (.seqN (.seq (.reg (.mv R (.op (O.lenH sl32 Z R R R) R (.op (O.faP y1g Z R R) R (.op (O.st nag3.sz Z R R R R R) R (.nil (.seqN (.seq (.reg (.op (O.lg (l':=[lH 2,lI (o73.1.length:Int),lH 3,lH 4]) ag35 Z R (.B R) R R R) R (.fz 2 [129] [1] R R fR R R (.fz 3 [129] [1] R R fR R R (.fz 4 [129] [1] R R fR R R (bS hm fun r78 er78 hm=> .op (O.ca0 (y6g er78) cf151 R R Z R R R) R (.op (O.st ag141.sz Z R R R R R) R (.nil (.seqN (.ret ?_))))))))))))))))))))
   obtain rfl:=oi hm
   exact WX.rt [] (.inl R) Tryz.results78 (.cell R R ag141 R .nil) R (fun _ _ _ h=>h) trivial
  refine .nlb qI 3 2 2 R R (.nlb qT 124 2 3 R R (.iter (fun (st73:Int×List Int×(List (Int×Int))×List Int×EdgL)=>⟨[(8,.i st73.1),(6,.h 0),(7,.h 1),(5,.q 2 0),(4,.q 6 0),(0,.o (lQ 155 (lx155 p0) 0)),(1,.f qI p1)],[(0,ROW qI 3 st73.2.1),(1,MAP kvI qI 229 st73.2.2.1),(2,.bx 35 [lH 3,lI 0,lH 4,lH 5]),(3,ROW qI 3 r1),(4,ROW qI 3 st73.2.2.2.1),(5,ROW qT 124 st73.2.2.2.2),(6,.bx 141 [lN,lI 0,lN,lN,lV (.map none)])],7⟩) eo73 [(4,5),(5,6),(6,4)] R ?_))
  intro st73 res73 hm ih73 ho73
  unfold y1L at hm
  refine .seq (.seq (.reg (.mv R (.mv R (.op (O.lenH sl32 Z R R R) R (.bi R (.nil (.seqN ?_))))))))
  rcases ifS hm with ⟨hc,hm⟩ | ⟨hc,hm⟩
  ·refine .cT R hc ?_
   refine .skip (.seqN (.seq (.block ?_)))
   refine .join1 (fun (l79:List Int)=>y1K p0 p1 r1 st73 l79=some res73) (fun l79=>⟨[(8,.i st73.1),(6,.h 0),(7,.h 1),(5,.q 2 0),(4,.q 6 0),(0,.o (lQ 155 (lx155 p0) 0)),(1,.f qI p1)],[(0,ROW qI 3 st73.2.1),(1,MAP kvI qI 229 st73.2.2.1),(2,.bx 35 [lH 3,lI 0,lH 4,lH 5]),(3,ROW qI 3 r1),(4,ROW qI 3 l79),(5,ROW qT 124 st73.2.2.2.2),(6,.bx 141 [lN,lI 0,lN,lN,lV (.map none)])],7⟩) ?_ ?_
   ·intro l79 hm
    unfold y1K at hm
    refine .seq (.reg (.mv R (.mv R (.mv R (bS hm fun x81 ex81 hm=> .op (O.ir sl32 Z R R R ex81 R) R (.op (O.ld nag3 Z R (.R R ex81 lv3) R R) R (.mv R (bS hm fun r82 er82 hm=> .op (O.ca0 (y9a er82) cf149 R R Z R R R) R (.sa R (.nil (.seqN (.seq (.reg (.op (O.faP y1R Z R R) R (.op (O.ld nag32 Z R (.B R) R R) R (.op (O.lenH sl32 Z R R R) R (.mv R (.nil (.seqN (.block (bS hm fun o110 eo110 hm=>?_)))))))))))))))))))))
    refine .cut1 (z:= .exit 2) o110 (fun (o110:List Int×(List (Int×Int))×EdgL)=>⟨[(8,.i st73.1),(6,.h 0),(7,.h 1),(5,.q 2 0),(4,.q 6 0),(0,.o (lQ 155 (lx155 p0) 0)),(1,.f qI p1)],[(0,ROW qI 3 o110.1),(1,MAP kvI qI 229 o110.2.1),(2,.bx 35 [lH 3,lI 0,lH 4,lH 5]),(3,ROW qI 3 r1),(4,ROW qI 3 l79),(5,ROW qT 124 o110.2.2),(6,.bx 141 [lN,lI 0,lN,lN,lV (.map none)])],7⟩) ?_ fun K114=>?_
    ·skip
     exact .blkE (.blkN (.seqN (.reg (.mv R (.bi R (.sa R (.nil ((ih73 _ (oi hm).symm).sub [] R))))))))
    refine .iter (fun (st110:Int×List Int×(List (Int×Int))×EdgL)=>⟨[(68,.i st110.1),(67,.i (r1.length:Int)),(66,.h 0),(9,.i r82),(8,.i st73.1),(6,.h 1),(7,.h 2),(5,.q 3 0),(4,.q 6 0),(0,.o (lQ 155 (lx155 p0) 0)),(1,.f qI p1)],[(0,ROW qI 3 r1),(1,ROW qI 3 st110.2.1),(2,MAP kvI qI 229 st110.2.2.1),(3,.bx 35 [lH 0,lI 0,lH 4,lH 5]),(4,ROW qI 3 l79),(5,ROW qT 124 st110.2.2.2),(6,.bx 141 [lN,lI 0,lN,lN,lV (.map none)])],7⟩) eo110 [(0,3),(1,0),(2,1),(3,2)] R ?_
    intro st110 res110 hm ih110 ho110
    unfold y1J at hm
    refine .seq (.reg (.bi R (.nil (.seqN (.seq ?_)))))
    rcases ifS hm with ⟨hc,hm⟩ | ⟨hc,hm⟩
    ·refine .cT R hc ?_
     refine .skip (.seqN ?_)
     refine .join3 (fun (l115:List Int) (l116:List (Int×Int)) (l117:List (Int×Int×Int))=>yT st110 l115 l116 l117=some res110) (fun l115 l116 l117=>⟨[(68,.i st110.1),(67,.i (r1.length:Int)),(66,.h 0),(9,.i r82),(8,.i st73.1),(6,.h 1),(7,.h 2),(5,.q 3 0),(4,.q 6 0),(0,.o (lQ 155 (lx155 p0) 0)),(1,.f qI p1)],[(0,ROW qI 3 r1),(1,ROW qI 3 l115),(2,MAP kvI qI 229 l116),(3,.bx 35 [lH 0,lI 0,lH 4,lH 5]),(4,ROW qI 3 l79),(5,ROW qT 124 l117),(6,.bx 141 [lN,lI 0,lN,lN,lV (.map none)])],7⟩) ?_ ?_
     ·intro l115 l116 l117 hm
      unfold yT at hm
      exact .reg (.bi R (.mv R (.nil ((ih110 _ (oi hm).symm).sub [] R))))
     ·intro Jj118
      refine .block (.seq (.reg (bS hm fun x119 ex119 hm=> .op (O.ir sl32 Z R R R ex119 R) R (.op (O.ld nag3 Z R (.R R ex119 lv3) R R) R (.sa R (.nil (.seqN (.seq ?_))))))))
      refine .sub (τ:=⟨[(11,.i x119),(68,.i st110.1),(67,.i (r1.length:Int)),(66,.h 0),(9,.i r82),(8,.i st73.1),(6,.h 1),(7,.h 2),(5,.q 3 0),(4,.q 6 0),(0,.o (lQ 155 (lx155 p0) 0)),(1,.f qI p1)],[(0,ROW qI 3 r1),(1,ROW qI 3 st110.2.1),(2,MAP kvI qI 229 st110.2.2.1),(3,.bx 35 [lH 0,lI 0,lH 4,lH 5]),(4,ROW qI 3 l79),(5,ROW qT 124 st110.2.2.2),(6,.bx 141 [lN,lI 0,lN,lN,lV (.map none)])],7⟩) ?_ [] R
      refine bS hm fun x120 ex120 hm=>bS hm fun r121 er121 hm=>?_
      refine .drw [(7,[]),(7,[oT]),(7,[oT,oT]),(7,tT 3),(7,[]),(7,[]),(7,[oF,oF,oF,oF,oT,oT]),(7,fA 4 (tT 3)),(7,[]),(7,tT 9),(7,tT 10)] [_,_,_,_,_,_,_,_,_,_,_] ⟨[(12,.i r121),(11,.i x119),(68,.i st110.1),(67,.i (r1.length:Int)),(66,.h 0),(9,.i r82),(8,.i st73.1),(6,.h 1),(7,.h 2),(5,.q 3 0),(4,.q 6 0),(0,.o (lQ 155 (lx155 p0) 0)),(1,.f qI p1)],[(0,ROW qI 3 r1),(1,ROW qI 3 st110.2.1),(2,MAP kvI qI 229 st110.2.2.1),(3,.bx 35 [lH 0,lI 0,lH 4,lH 5]),(4,ROW qI 3 l79),(5,ROW qT 124 st110.2.2.2),(6,.bx 141 [lN,lI 0,lN,lN,lV (.map none)])],7⟩ ⟨O.mv Z R R,O.nc .Q Z R R,O.faQ y5J Z R R,O.lg (l':=[lF qI p0.2.2.1.1.1,lI p0.2.2.1.1.2.1,lF qI p0.2.2.1.1.2.2.1,lF qT p0.2.2.1.1.2.2.2,lM kvP qI p0.2.2.1.2]) ag141 Z R .Q R R R,O.mv Z R R,O.mv Z R R,O.ir sl32 Z R R R ex120 R,O.ld nag3 Z R (.R R ex120 lv3) R R,O.mv Z R R,O.ca0 (y1U er121) cf150 R R Z R R R,O.as Z R R,trivial⟩ (by kernel_rfl) R ?_
      refine .seqN (.seq (.seq (.reg (.mv R (.bi R (.mv R (bS hm fun b122 eb122 hm=>?_)))))))
      refine .cut 13 (fun (v123:Bool)=>b122=v123) (fun v123=>⟨[(97,.b v123),(12,.i r121),(11,.i x119),(68,.i st110.1),(67,.i (r1.length:Int)),(66,.h 0),(9,.i r82),(8,.i st73.1),(6,.h 1),(7,.h 2),(5,.q 3 0),(4,.q 6 0),(0,.o (lQ 155 (lx155 p0) 0)),(1,.f qI p1)],[(0,ROW qI 3 r1),(1,ROW qI 3 st110.2.1),(2,MAP kvI qI 229 st110.2.2.1),(3,.bx 35 [lH 0,lI 0,lH 4,lH 5]),(4,ROW qI 3 l79),(5,ROW qT 124 st110.2.2.2),(6,.bx 141 [lN,lI 0,lN,lN,lV (.map none)])],7⟩) ?_ ?_
      ·rintro _ rfl
       refine .nil (.seqN ?_)
       rcases ifS hm with ⟨hc,hm⟩ | ⟨hc,hm⟩
       ·refine .cT R hc ?_
        exact .exit (.seqX (.blkE ((Jj118 _ _ _ hm).sub [] R)))
       ·refine .cF R hc ?_
        refine .skip (.seqN ?_)
        refine .join2 (fun (l125:List Int) (l126:List (Int×Int))=>y1I st73 st110 r121 x119 l125 l126=some res110) (fun l125 l126=>⟨[(6,.h 0),(12,.i r121),(11,.i x119),(68,.i st110.1),(67,.i (r1.length:Int)),(66,.h 1),(9,.i r82),(8,.i st73.1),(7,.h 2),(5,.q 3 0),(4,.q 6 0),(0,.o (lQ 155 (lx155 p0) 0)),(1,.f qI p1)],[(0,ROW qI 3 l125),(1,ROW qI 3 r1),(2,MAP kvI qI 229 l126),(3,.bx 35 [lH 1,lI 0,lH 4,lH 5]),(4,ROW qI 3 l79),(5,ROW qT 124 st110.2.2.2),(6,.bx 141 [lN,lI 0,lN,lN,lV (.map none)])],7⟩) ?_ ?_
        ·intro l125 l126 hm
         unfold y1I at hm
         exact .reg (.op (O.faP yG Z R R) R (.op (O.ld nag33 Z R (.B R) R R) R (.mv R (.mv R (.mv R (.mv R (.op (O.mi (k:=r121) md229 Z (.ow R R) (.o R) R) R (.op (O.bu (l:=[lI st73.1,lI x119,lI ((kget l126 r121).getD 0)]) pl124 R Z R R R) R (.op (O.bsF (r:=qT) (zs:=([(st73.1,x119,((kget l126 r121).getD 0))]:List (Int×Int×Int))) bs33 R R Z R R R (.c (.p .k (.p .k .k)) .n) R R R) R (bS hm fun x128 ex128 hm=> .op (O.ap 7 Tryz.underlying33 el124 R R Z R R (.fr R) ex128 R) R (.op (O.faP yG Z R R) R (.op (O.st nag33.sz Z R R R R R) R (.nil (.blkN ((Jj118 _ _ _ hm).sub [(0,1),(1,0),(5,7)] R)))))))))))))))
        ·intro Jj127
         refine .seq (.reg (.mv R (.mv R (.op (O.mi2 (k:=r121) md229 Z (.ow R R) (.o R) R) R (.mv R (.op (O.ex Z R R R) R (.op (O.ex Z R R R) R (.sa R (.sa R (.nil (.seqN (.seq (.reg (.mv R (.op (O.not Z R R) R (.nil (.seqN ?_)))))))))))))))))
         rcases ifS hm with ⟨hc,hm⟩ | ⟨hc,hm⟩
         ·refine .cT R hc ?_
          exact .seq (.reg (.mv R (.mv R (.mv R (.op (O.lenH sl32 Z R R R) R (.op (O.mu (k:=r121) (v:=(st110.2.1.length:Int)) md229 (fun _ _=>eqI) Z R R (.o R) R .k) R (.nil (.seqN (.reg (.mv R (.mv R (.op (O.bsF (r:=qI) (zs:=([r121]:List Int)) bs32 R R Z R R R (.c .k .n) R R R) R (bS hm fun x129 ex129 hm=> .op (O.ap 7 Tryz.underlying32 el3 R R Z R R (.fr R) ex129 R) R (.sa R (.nil ((Jj127 _ _ hm).sub [(0,7),(1,0)] R))))))))))))))))
         ·refine .cF R hc ?_
          exact .skip ((Jj127 _ _ hm).sub [(0,1),(1,0)] R)
      ·intro J124
       rcases ifS eb122 with ⟨hc,hm⟩ | ⟨hc,hm⟩
       ·refine .know (d:=84) R hc ?_
        exact .sk R (.sk R (.sk R (.sk R (.op (O.skipU R R R) R (.op (O.skipU R R R) R (.op (O.skipU R R R) R (.op (O.skipU R R R) R (.op (O.skipU R R R) R (.op (O.skipU R R R) R (.op (O.skipU R R R) R (.sk R (.op (O.pkT Z R R R R) R ((J124 true (oi hm).symm).sub [] R)))))))))))))
       ·refine .know (d:=84) R hc ?_
        refine .op (O.mv (Gu.mk R R) R R) R (.op (O.mv (Gu.mk R R) R R) R (.op (O.bi (Gu.mk R R) R R R R) R (.op (O.mv (Gu.mk R R) R R) R (bS hm fun b130 eb130 hm=>?_))))
        refine .cut 8 (fun (v131:Bool)=>b130=v131) (fun v131=>⟨[(96,.b v131),(84,.b false),(12,.i r121),(11,.i x119),(68,.i st110.1),(67,.i (r1.length:Int)),(66,.h 0),(9,.i r82),(8,.i st73.1),(6,.h 1),(7,.h 2),(5,.q 3 0),(4,.q 6 0),(0,.o (lQ 155 (lx155 p0) 0)),(1,.f qI p1)],[(0,ROW qI 3 r1),(1,ROW qI 3 st110.2.1),(2,MAP kvI qI 229 st110.2.2.1),(3,.bx 35 [lH 0,lI 0,lH 4,lH 5]),(4,ROW qI 3 l79),(5,ROW qT 124 st110.2.2.2),(6,.bx 141 [lN,lI 0,lN,lN,lV (.map none)])],7⟩) ?_ ?_
        ·rintro _ rfl
         exact .op (O.pkF Z R R R R) R ((J124 b130 (oi hm).symm).sub [] R)
        ·intro J132
         rcases ifS eb130 with ⟨hc,hm⟩ | ⟨hc,hm⟩
         ·refine .know (d:=88) R hc ?_
          exact .op (O.mv (Gu.mk R R) R R) R (.op (O.nc .Q (Gu.mk R R) R R) R (.op (O.faQ y9W (Gu.mk R R) R R) R (.op (O.ld nag32 (Gu.mk R R) R .Q R R) R (.op (O.mv (Gu.mk R R) R R) R (bS hm fun r133 er133 hm=> .op (O.ca0 (yH er133) cf94 R R (Gu.mk R R) R R R) R (.op (O.not (Gu.mk R R) R R) R (.op (O.pkT (Gu.mk R R) R R R R) R ((J132 (!r133) (oi hm).symm).sub [] R))))))))
         ·refine .know (d:=88) R hc ?_
          exact .sk R (.sk R (.sk R (.sk R (.sk R (.sk R (.sk R (.op (O.pkF (Gu.mk R R) R R R R) R ((J132 false (oi hm).symm).sub [] R))))))))
    ·refine .cF R hc ?_
     exact .exit (.seqX (.seqX ((K114 _ (ho110 _ (oi hm).symm)).sub [(0,1),(1,2),(2,3),(3,0)] R)))
   ·intro Jj80
    refine .seq ?_
    refine .sub (τ:=⟨[(8,.i st73.1),(6,.h 0),(7,.h 1),(5,.q 2 0),(4,.q 6 0),(0,.o (lQ 155 (lx155 p0) 0)),(1,.f qI p1)],[(0,ROW qI 3 st73.2.1),(1,MAP kvI qI 229 st73.2.2.1),(2,.bx 35 [lH 3,lI 0,lH 4,lH 5]),(3,ROW qI 3 r1),(4,ROW qI 3 st73.2.2.2.1),(5,ROW qT 124 st73.2.2.2.2),(6,.bx 141 [lN,lI 0,lN,lN,lV (.map none)])],7⟩) ?_ [] R
    refine bS hm fun x134 ex134 hm=>bS hm fun r135 er135 hm=>?_
    refine .drw [(7,[]),(7,[oT]),(7,[oT,oT]),(7,tT 3),(7,tT 4),(7,tT 5),(7,[]),(7,[]),(7,[oF,oF,oF,oF,oF,oF,oT,oT]),(7,fA 6 (tT 3)),(7,tT 10)] [_,_,_,_,_,_,_,_,_,_,_] ⟨[(51,.b r135),(8,.i st73.1),(6,.h 0),(7,.h 1),(5,.q 2 0),(4,.q 6 0),(0,.o (lQ 155 (lx155 p0) 0)),(1,.f qI p1)],[(0,ROW qI 3 st73.2.1),(1,MAP kvI qI 229 st73.2.2.1),(2,.bx 35 [lH 3,lI 0,lH 4,lH 5]),(3,ROW qI 3 r1),(4,ROW qI 3 st73.2.2.2.1),(5,ROW qT 124 st73.2.2.2.2),(6,.bx 141 [lN,lI 0,lN,lN,lV (.map none)])],7⟩ ⟨O.mv Z R R,O.nc .Q Z R R,O.faQ y5J Z R R,O.faQ y5t Z R R,O.faQ y3y Z R R,O.ld nag32 Z R .Q R R,O.mv Z R R,O.mv Z R R,O.ir sl32 Z R R R ex134 R,O.ld nag3 Z R (.R R ex134 lv3) R R,O.ca0 (yH er135) cf94 R R Z R R R,trivial⟩ (by kernel_rfl) R ?_
    refine .seqN ?_
    rcases ifS hm with ⟨hc,hm⟩ | ⟨hc,hm⟩
    ·refine .cT R hc ?_
     exact .reg (.op (O.faP y3y Z R R) R (.op (O.ld nag32 Z R (.B R) R R) R (.mv R (.op (O.bsF (r:=qI) (zs:=([st73.1]:List Int)) bs32 R R Z R R R (.c .k .n) R R R) R (bS hm fun x136 ex136 hm=> .op (O.ap 7 Tryz.underlying32 el3 R R Z R R (.fr R) ex136 R) R (.op (O.faP y3y Z R R) R (.op (O.st nag32.sz Z R R R R R) R (.nil ((Jj80 _ hm).sub [(4,7)] R)))))))))
    ·refine .cF R hc ?_
     exact .skip ((Jj80 _ hm).sub [] R)
  ·refine .cF R hc ?_
   exact .exit (.seqX (.seqX ((K77 _ (ho73 _ (oi hm).symm)).sub [(1,2),(2,3),(3,4),(4,5),(5,6)] R)))
 ·intro Jj4
  refine .seq (.reg (.mv R (.op (O.nc .Q Z R R) R (.op (O.faQ y5J Z R R) R (.op (O.faQ y5t Z R R) R (.op (O.faQ y1g Z R R) R (.op (O.ld nag3 Z R .Q R R) R (.bi R (.nil (.seqN ?_))))))))))
  rcases ifS hm with ⟨hc,hm⟩ | ⟨hc,hm⟩
  ·refine .cT R hc ?_
   exact .seq (.reg (.mv R (.op (O.bsF (r:=qI) (zs:=([0]:List Int)) bs32 R R Z R R R (.c .k .n) R R R) R (bS hm fun x137 ex137 hm=> .op (O.apN (r:=qI) 4 Tryz.underlying32 el3 R R Z R (.fr R) ex137 R) R (.sa R (.nil (.seqN (.reg (.mv R (.op (O.mu (k:=0) (v:=0) md229 (fun _ _=>eqI) Z R R (.o R) R .k) R (.nil ((Jj4 _ _ hm).sub [(0,4),(1,3),(3,1),(4,0)] R))))))))))))
  ·refine .cF R hc ?_
   exact .skip (.nlg qI 3 6 0 R R ((Jj4 _ _ hm).sub [(0,4),(1,3),(3,1),(4,0)] R))
def y2A (st68:Int×Bool×List Bool) (b72:Bool) (l73:List Bool):Option ((Int×Bool×List Bool) ⊕ (Bool×List Bool)):=
 some (.inl (W (st68.1 + 1),b72,l73))
def y3t (p0:AutT×(List KeyT)) (st68:Int×Bool×List Bool):Option ((Int×Bool×List Bool) ⊕ (Bool×List Bool)):=
 if decide (st68.1 < (p0.1.2.2.2.length:Int)) then
  (idx p0.1.2.2.2 st68.1).bind fun x75=>
  (idx st68.2.2 x75.2.2).bind fun x76=>
  (if x76 then
   (idx st68.2.2 x75.1).bind fun x82=>
   some (!x82)
  else
   some false).bind fun b77=>
  if b77 then
   (idx st68.2.2 x75.1).bind fun x80=>
   (upd st68.2.2 x75.1 true).bind fun x81=>
   y2A st68 true x81
  else
   y2A st68 st68.2.1 st68.2.2
 else
  some (.inr st68.2)
def y4q (p0:AutT×(List KeyT)) (st48:Bool×List Bool):Option ((Bool×List Bool) ⊕ (List Bool)):=
 if st48.1 then
  (iter (y3t p0) (0,false,st48.2)).bind fun o68=>
  some (.inl o68)
 else
  some (.inr st48.2)
def y4r (p0:AutT×(List KeyT)) (st9:Int×List Bool):Option ((Int×List Bool) ⊕ (List Bool)):=
 if decide (st9.1 < (p0.1.2.2.1.length:Int)) then
  (idx p0.1.2.2.1 st9.1).bind fun x83=>
  (idx st9.2 x83).bind fun x84=>
  (upd st9.2 x83 true).bind fun x85=>
  some (.inl (W (st9.1 + 1),x85))
 else
  some (.inr st9.2)
def y3F (p0:AutT×(List KeyT)):Option (List Bool):=
 (mkL p0.1.2.1 false).bind fun x1=>
 (iter (y4r p0) (0,x1)).bind fun o9=>
 (iter (y4q p0) (true,o9)).bind fun o48=>
 some o48
theorem y6T {p0:AutT×(List KeyT)} {r:List Bool} (hm:y3F p0=some r):
  Fw Tryz.prog 80 ⟨0,[]⟩ [.a [lF qI p0.1.1,lI p0.1.2.1,lF qI p0.1.2.2.1,lF qT p0.1.2.2.2,lM kvP qI p0.2]] [] (.h 0) [ROW rB 4 r]:=by
 unfold y3F at hm
 refine Fw.mk' Tryz.func80 R Tryz.ntmps80 R R (fun C=>?_) R R
 refine .seq (.reg (.op (O.box 0 R Z R R R) R (.sa R (.nil (.seqN (.seq (.reg (.op (O.faP y5t Z R R) R (.op (O.faP y1g Z R R) R (.op (O.ld nag3 Z R (.B R) R R) R (bS hm fun x1 ex1 hm=> .op (O.mk (z:=false) 1 Tryz.underlying144 zr4 R R Z R R ex1 R) R (.sa R (.nil (.seqN (.seq (.seq (.reg (.op (O.faP y5t Z R R) R (.op (O.faP y3y Z R R) R (.op (O.ld nag32 Z R (.B R) R R) R (.op (O.len sl32 Z R R) R (.mv R (.nil (.seqN (.block (bS hm fun o9 eo9 hm=>?_))))))))))))))))))))))))))
 refine .cut1 (z:= .exit 0) o9 (fun (o9:List Bool)=>⟨[(3,.h 0),(1,.q 1 0)],[(0,ROW rB 4 o9),(1,.bx 141 [lF qI p0.1.1,lI p0.1.2.1,lF qI p0.1.2.2.1,lF qT p0.1.2.2.2,lM kvP qI p0.2])],2⟩) ?_ fun K11=>?_
 ·skip
  refine .blkE (.seqN (.seq (.seq (.reg (.sa R (.nil (.seqN (.block (bS hm fun o48 eo48 hm=>?_)))))))))
  refine .cut1 (z:= .exit 2) o48 (fun (o48:List Bool)=>⟨[(3,.h 0)],[(0,ROW rB 4 o48)],1⟩) ?_ fun K50=>?_
  ·skip
   refine .blkE (.seqN (.seq (.reg (.mv R (.sa R (.nil (.seqN (.ret ?_))))))))
   obtain rfl:=oi hm
   exact WX.rt [0] (.inl R) Tryz.results80 (.tmp R .nil) R (fun _ _ _ h=>h) ⟨⟨_,R,fun _ _ _ _ h=>h⟩,trivial⟩
  refine .iter (fun (st48:Bool×List Bool)=>⟨[(6,.b st48.1),(3,.h 0),(1,.q 1 0)],[(0,ROW rB 4 st48.2),(1,.bx 141 [lF qI p0.1.1,lI p0.1.2.1,lF qI p0.1.2.2.1,lF qT p0.1.2.2.2,lM kvP qI p0.2])],2⟩) eo48 [] R ?_
  intro st48 res48 hm ih48 ho48
  unfold y4q at hm
  refine .seq (.seq (.reg (.mv R (.nil (.seqN ?_)))))
  rcases ifS hm with ⟨hc,hm⟩ | ⟨hc,hm⟩
  ·refine .cT R hc ?_
   refine .skip (.seqN (.block (.seq (.reg (.sa R (.nil (.seqN (.seq (.reg (.op (O.faP y5t Z R R) R (.op (O.faP yG Z R R) R (.op (O.ld nag33 Z R (.B R) R R) R (.op (O.len sl33 Z R R) R (.mv R (.nil (.seqN (.block (bS hm fun o68 eo68 hm=>?_))))))))))))))))))
   refine .cut1 (z:= .exit 4) o68 (fun (o68:Bool×List Bool)=>⟨[(6,.b o68.1),(3,.h 0),(1,.q 1 0)],[(0,ROW rB 4 o68.2),(1,.bx 141 [lF qI p0.1.1,lI p0.1.2.1,lF qI p0.1.2.2.1,lF qT p0.1.2.2.2,lM kvP qI p0.2])],2⟩) ?_ fun K71=>?_
   ·skip
    exact .blkE (.blkN ((ih48 _ (oi hm).symm).sub [] R))
   refine .iter (fun (st68:Int×Bool×List Bool)=>⟨[(30,.i st68.1),(29,.i (p0.1.2.2.2.length:Int)),(28,.f qT p0.1.2.2.2),(6,.b st68.2.1),(3,.h 0),(1,.q 1 0)],[(0,ROW rB 4 st68.2.2),(1,.bx 141 [lF qI p0.1.1,lI p0.1.2.1,lF qI p0.1.2.2.1,lF qT p0.1.2.2.2,lM kvP qI p0.2])],2⟩) eo68 [] R ?_
   intro st68 res68 hm ih68 ho68
   unfold y3t at hm
   refine .seq (.reg (.bi R (.nil (.seqN (.seq ?_)))))
   rcases ifS hm with ⟨hc,hm⟩ | ⟨hc,hm⟩
   ·refine .cT R hc ?_
    refine .skip (.seqN ?_)
    refine .join2 (fun (b72:Bool) (l73:List Bool)=>y2A st68 b72 l73=some res68) (fun b72 l73=>⟨[(6,.b b72),(30,.i st68.1),(29,.i (p0.1.2.2.2.length:Int)),(28,.f qT p0.1.2.2.2),(3,.h 0),(1,.q 1 0)],[(0,ROW rB 4 l73),(1,.bx 141 [lF qI p0.1.1,lI p0.1.2.1,lF qI p0.1.2.2.1,lF qT p0.1.2.2.2,lM kvP qI p0.2])],2⟩) ?_ ?_
    ·intro b72 l73 hm
     unfold y2A at hm
     exact .reg (.bi R (.mv R (.nil ((ih68 _ (oi hm).symm).sub [] R))))
    ·intro Jj74
     refine .block (.seq (.reg (bS hm fun x75 ex75 hm=> .op (O.ix sl33 Z R R ex75 R) R (.op (O.lg (l':=[lI x75.1,lI x75.2.1,lI x75.2.2]) ag124 Z R (.E lv124) R R R) R (.op (O.al 2 R zz124 R Z R) R (.op (O.st ag124.sz Z R R R R R) R (.nil (.seqN (.seq (.reg (.mv R (.op (O.faP y2W Z R R) R (.op (O.ld nag3 Z R (.B R) R R) R (bS hm fun x76 ex76 hm=> .op (O.ir sl144 Z R R R ex76 R) R (.op (O.ld nag4 Z R (.R R ex76 lv4) R R) R (.mv R (bS hm fun b77 eb77 hm=>?_)))))))))))))))))
     refine .cut 7 (fun (v78:Bool)=>b77=v78) (fun v78=>⟨[(46,.b v78),(8,.q 2 0),(30,.i st68.1),(29,.i (p0.1.2.2.2.length:Int)),(28,.f qT p0.1.2.2.2),(6,.b st68.2.1),(3,.h 0),(1,.q 1 0)],[(2,.bx 124 [lI x75.1,lI x75.2.1,lI x75.2.2]),(0,ROW rB 4 st68.2.2),(1,.bx 141 [lF qI p0.1.1,lI p0.1.2.1,lF qI p0.1.2.2.1,lF qT p0.1.2.2.2,lM kvP qI p0.2])],3⟩) ?_ ?_
     ·rintro _ rfl
      refine .nil (.seqN ?_)
      rcases ifS hm with ⟨hc,hm⟩ | ⟨hc,hm⟩
      ·refine .cT R hc ?_
       exact .reg (.mv R (.op (O.faP y1W Z R R) R (.op (O.ld nag3 Z R (.B R) R R) R (bS hm fun x80 ex80 hm=> .op (O.ir sl144 Z R R R ex80 R) R (bS hm fun x81 ex81 hm=> .op (O.su (z:=true) nag4.sz Z R R ex80 ex81 R R R lv4 R .b) R (.sa R (.nil (.blkN ((Jj74 _ _ hm).sub [] R)))))))))
      ·refine .cF R hc ?_
       exact .skip (.blkN ((Jj74 _ _ hm).sub [] R))
     ·intro J79
      rcases ifS eb77 with ⟨hc,hm⟩ | ⟨hc,hm⟩
      ·refine .know (d:=39) R hc ?_
       exact .op (O.mv (Gu.mk R R) R R) R (.op (O.faP y1W (Gu.mk R R) R R) R (.op (O.ld nag3 (Gu.mk R R) R (.B R) R R) R (bS hm fun x82 ex82 hm=> .op (O.ir sl144 (Gu.mk R R) R R R ex82 R) R (.op (O.ld nag4 (Gu.mk R R) R (.R R ex82 lv4) R R) R (.op (O.not (Gu.mk R R) R R) R (.op (O.pkT Z R R R R) R ((J79 (!x82) (oi hm).symm).sub [] R)))))))
      ·refine .know (d:=39) R hc ?_
       exact .sk R (.sk R (.sk R (.sk R (.sk R (.sk R (.op (O.pkF Z R R R R) R ((J79 false (oi hm).symm).sub [] R)))))))
   ·refine .cF R hc ?_
    exact .exit (.seqX (.seqX ((K71 _ (ho68 _ (oi hm).symm)).sub [] R)))
  ·refine .cF R hc ?_
   exact .exit (.seqX (.seqX ((K50 _ (ho48 _ (oi hm).symm)).sub [] R)))
 refine .iter (fun (st9:Int×List Bool)=>⟨[(17,.i st9.1),(16,.i (p0.1.2.2.1.length:Int)),(15,.f qI p0.1.2.2.1),(3,.h 0),(1,.q 1 0)],[(0,ROW rB 4 st9.2),(1,.bx 141 [lF qI p0.1.1,lI p0.1.2.1,lF qI p0.1.2.2.1,lF qT p0.1.2.2.2,lM kvP qI p0.2])],2⟩) eo9 [(0,1),(1,0)] R ?_
 intro st9 res9 hm ih9 ho9
 unfold y4r at hm
 refine .seq (.reg (.bi R (.nil (.seqN (.seq ?_)))))
 rcases ifS hm with ⟨hc,hm⟩ | ⟨hc,hm⟩
 ·refine .cT R hc ?_
  exact .skip (.seqN (.seq (.block (.seq (.reg (bS hm fun x83 ex83 hm=> .op (O.ix sl32 Z R R ex83 R) R (.op (O.ld nag3 Z R (.E lv3) R R) R (.sa R (.nil (.seqN (.reg (.mv R (.mv R (bS hm fun x84 ex84 hm=> .op (O.ir sl144 Z R R R ex84 R) R (bS hm fun x85 ex85 hm=> .op (O.su (z:=true) nag4.sz Z R R ex84 ex85 R R R lv4 R .b) R (.nil (.blkN (.seqN (.reg (.bi R (.mv R (.nil ((ih9 _ (oi hm).symm).sub [] R)))))))))))))))))))))))
 ·refine .cF R hc ?_
  exact .exit (.seqX (.seqX ((K11 _ (ho9 _ (oi hm).symm)).sub [] R)))
def y6p (p0:List Bool) (p1:Bool) (st4:Int):Option (Int ⊕ (Unit ⊕ Int)):=
 if decide (st4 < (p0.length:Int)) then
  (idx p0 st4).bind fun x10=>
  if(p1 == x10) then
   some (.inr (.inr (st4)))
  else
   some (.inl (W (st4 + 1)))
 else
  some (.inr (.inl ()))
def y5N (p0:List Bool) (p1:Bool):Option Int:=
 (iter (y6p p0 p1) 0).bind fun o4=>
 match o4 with
 | .inl u6=>
  some (-1)
 | .inr (u8)=>
  some u8
theorem y8I {p0:List Bool} {p1:Bool} {r:Int} (hm:y5N p0 p1=some r):
  Fw Tryz.prog 79 ⟨0,[]⟩ [.f rB p0,.b p1] [] (.i r) []:=by
 unfold y5N at hm
 refine Fw.mk' Tryz.func79 R Tryz.ntmps79 R R (fun C=>?_) R R
 refine .seq (.reg (.sa R (.nil (.seqN (.seq (.seq (.reg (.mv R (.op (O.len sl144 Z R R) R (.mv R (.nil (.seqN (.block (bS hm fun o4 eo4 hm=>?_))))))))))))))
 refine .cutU (z:= .exit 0) (fun u6=> .inl u6=o4) (fun (u6:Unit)=>⟨[],[],0⟩) ?_ fun K7=>?_
 ·rintro u6 rfl
  dsimp only at hm
  refine .blkE (.seqN (.seq (.reg (.sa R (.nil (.seqN (.ret ?_)))))))
  obtain rfl:=oi hm
  exact WX.rt [] (.inl R) Tryz.results79 (.tmp R .nil) R (fun _ _ _ h=>h) trivial
 refine .cutU (z:= .ret) (fun u8=> .inr (u8)=o4) (fun (u8:Int)=>⟨[(4,.i u8)],[],0⟩) ?_ fun K9=>?_
 ·rintro u8 rfl
  dsimp only at hm
  refine .blkR (.seqR ?_)
  obtain rfl:=oi hm
  exact WX.rt [] (.inl R) Tryz.results79 (.tmp R .nil) R (fun _ _ _ h=>h) trivial
 refine .iter (fun (st4:Int)=>⟨[(8,.i st4),(7,.i (p0.length:Int)),(0,.f rB p0),(1,.b p1)],[],0⟩) eo4 [] R ?_
 intro st4 res4 hm ih4 ho4
 unfold y6p at hm
 refine .seq (.reg (.bi R (.nil (.seqN (.seq ?_)))))
 rcases ifS hm with ⟨hc,hm⟩ | ⟨hc,hm⟩
 ·refine .cT R hc ?_
  refine .skip (.seqN (.seq (.block (.seq (.reg (.mv R (.sa R (.nil (.seqN (.seq (.reg (.mv R (.mv R (.mv R (bS hm fun x10 ex10 hm=> .op (O.ix sl144 Z R R ex10 R) R (.op (O.ld nag4 Z R (.E lv4) R R) R (.op (O.beq Tryz.underlying4 Z R R R) R (.nil (.seqN ?_)))))))))))))))))))
  rcases ifS hm with ⟨hc,hm⟩ | ⟨hc,hm⟩
  ·refine .cT R hc ?_
   exact .seq (.reg (.mv R (.sa R (.nil (.seqN (.ret (.blkR (.seqR (.seqR ((K9 _ (ho4 _ (oi hm).symm)).sub [] R))))))))))
  ·refine .cF R hc ?_
   exact .skip (.blkN (.seqN (.reg (.bi R (.mv R (.nil ((ih4 _ (oi hm).symm).sub [] R)))))))
 ·refine .cF R hc ?_
  exact .exit (.seqX (.seqX ((K7 _ (ho4 _ (oi hm).symm)).sub [] R)))
def y6h (p0:AutT×AutT×List Int) (p1:List Int):Option ((Int×List Int×List Int)×Bool×Int):=
 (y5K p0 p1).bind fun r1=>
 if(r1.2 != 0) then
  some ((0,([]:List Int),([]:List Int)),false,r1.2)
 else
  r1.1.bind fun x2=>
  (y1D x2 p1).bind fun r3=>
  (y3F r3).bind fun r4=>
  (y5N r4 false).bind fun r5=>
  if decide (r5≥0) then
   (y5B r3 r5).bind fun r6=>
   some ((3,r6,([]:List Int)),false,0)
  else
   some ((0,([]:List Int),([]:List Int)),true,0)
theorem y7S {p0:AutT×AutT×List Int} {p1:List Int} {r:(Int×List Int×List Int)×Bool×Int} (hm:y6h p0 p1=some r):
  Fw Tryz.prog 19 ⟨0,[]⟩ [.a [lF qI p0.1.1,lI p0.1.2.1,lF qI p0.1.2.2.1,lF qT p0.1.2.2.2,lF qI p0.2.1.1,lI p0.2.1.2.1,lF qI p0.2.1.2.2.1,lF qT p0.2.1.2.2.2,lF qI p0.2.2],.f qI p1] [] (.tp [.a [lI r.1.1,lH 0,lH 1],.b r.2.1,.i r.2.2]) [ROW qI 3 r.1.2.1,ROW qI 3 r.1.2.2]:=by
 unfold y6h at hm
 refine Fw.mk' Tryz.func19 R Tryz.ntmps19 R R (fun C=>?_) R R
 refine .seq (.reg (.op (O.box 0 R Z R R R) R (.op (O.al 1 R zz44 R Z R) R (.sa R (.sa R (.nil (.seqN (.seq (.reg (.op (O.lg (l':=[lF qI p0.1.1,lI p0.1.2.1,lF qI p0.1.2.2.1,lF qT p0.1.2.2.2,lF qI p0.2.1.1,lI p0.2.1.2.1,lF qI p0.2.1.2.2.1,lF qT p0.2.1.2.2.2,lF qI p0.2.2]) ag37 Z R (.B R) R R R) R (.mv R (bS hm fun r1 er1 hm=> .op (O.ca0 (y9l er1) cf77 R R Z R R R) R (.mv R (.op (O.ex Z R R R) R (.op (O.ex Z R R R) R (.sa R (.sa R (.nil (.seqN (.seq (.seq (.reg (.mv R (.bi R (.nil (.seqN ?_))))))))))))))))))))))))))
 rcases ifS hm with ⟨hc,hm⟩ | ⟨hc,hm⟩
 ·refine .cT R hc ?_
  refine .seq (.reg (.op (O.bu (l:=[lI 0,lN,lN]) pl44 R Z R R R) R (.mv R (.op (O.st ag44.sz Z R R R R R) R (.sa R (.sa R (.nil (.seqN (.ret (.seqR (.nlb qI 3 1 1 R R (.nlb qI 3 1 2 R R ?_))))))))))))
  obtain rfl:=oi hm
  exact WX.rt [2,3] (.inl R) Tryz.results19 (.cell R R ag44 R (.tmp R (.tmp R .nil))) R (fun _ _ _ h=>h) ⟨⟨_,R,fun _ _ _ _ h=>h⟩,⟨_,R,fun _ _ _ _ h=>h⟩,trivial⟩
 ·refine .cF R hc ?_
  refine .skip (.seqN (.seq (.reg (.mv R (.mv R (bS hm fun x2 ex2 hm=> .cnt 20 R (.c (.pd ex2 lv155) .n) R (.cnt 7 R (.c (.pd ex2 lv155) .n) R (.cnt 14 R (.c (.pd ex2 lv155) .n) R (bS hm fun r3 er3 hm=> .op (O.ca0 (y5Z er3) cf78 R R Z R R R) R (.op (O.al 2 R zz141 R Z R) R (.op (O.st ag141.sz Z R R R R R) R (.nil (.seqN (.seq (.seq (.reg (.op (O.lg (l':=[lF qI r3.1.1,lI r3.1.2.1,lF qI r3.1.2.2.1,lF qT r3.1.2.2.2,lM kvP qI r3.2]) ag141 Z R (.B R) R R R) R (bS hm fun r4 er4 hm=> .op (O.ca (r':= .h 3) [3] [(0,ROW rB 4 r4)] (some 4) (y6T er4) cf80 R R Z R R R R ⟨⟨_,R,fun _ _ _ _ h=>h⟩,trivial⟩ (fun _ _ _ h=>h) R) R (bS hm fun r5 er5 hm=> .op (O.caZ (y8I er5) cf79 R R Z R ⟨⟨R,.hr R,trivial⟩,⟨R,LnL.rf⟩,trivial⟩ (fun _ _ _ _ _ h=>h) R) R (.sa R (.nil (.seqN (.seq (.reg (.mv R (.bi R (.nil (.seqN ?_))))))))))))))))))))))))))))
  rcases ifS hm with ⟨hc,hm⟩ | ⟨hc,hm⟩
  ·refine .cT R hc ?_
   refine .seq (.reg (.op (O.lg (l':=[lF qI r3.1.1,lI r3.1.2.1,lF qI r3.1.2.2.1,lF qT r3.1.2.2.2,lM kvP qI r3.2]) ag141 Z R (.B R) R R R) R (.mv R (bS hm fun r6 er6 hm=> .op (O.ca (r':= .h 4) [4] [(0,ROW qI 3 r6)] (some 5) (y6S er6) cf81 R R Z R R R R ⟨⟨_,R,fun _ _ _ _ h=>h⟩,trivial⟩ (fun _ _ _ h=>h) R) R (.op (O.bu (l:=[lI 3,lH 4,lN]) pl44 R Z R R R) R (.op (O.st ag44.sz Z R R R R R) R (.sa R (.sa R (.nil (.seqN (.ret (.seqR (.nlb qI 3 1 2 R R ?_)))))))))))))
   obtain rfl:=oi hm
   exact WX.rt [4,5] (.inl R) Tryz.results19 (.cell R R ag44 R (.tmp R (.tmp R .nil))) R (fun _ _ _ h=>h) ⟨⟨_,R,fun _ _ _ _ h=>h⟩,⟨_,R,fun _ _ _ _ h=>h⟩,trivial⟩
  ·refine .cF R hc ?_
   refine .skip (.seqN (.seq (.reg (.op (O.bu (l:=[lI 0,lN,lN]) pl44 R Z R R R) R (.op (O.st ag44.sz Z R R R R R) R (.sa R (.sa R (.nil (.seqN (.ret (.nlb qI 3 1 1 R R (.nlb qI 3 1 2 R R ?_))))))))))))
   obtain rfl:=oi hm
   exact WX.rt [4,5] (.inl R) Tryz.results19 (.cell R R ag44 R (.tmp R (.tmp R .nil))) R (fun _ _ _ h=>h) ⟨⟨_,R,fun _ _ _ _ h=>h⟩,⟨_,R,fun _ _ _ _ h=>h⟩,trivial⟩
def y4b (p0:List Int) (p1:List Int) (st5:Int):Option (Int ⊕ (Unit ⊕ Unit)):=
 if decide (st5 < (p0.length:Int)) then
  (idx p0 st5).bind fun x10=>
  (idx p1 st5).bind fun x11=>
  if(x10 != x11) then
   some (.inr (.inr (())))
  else
   some (.inl (W (st5 + 1)))
 else
  some (.inr (.inl ()))
def y4c (p0:List Int) (p1:List Int):Option Bool:=
 if((p0.length:Int) != (p1.length:Int)) then
  some false
 else
  (iter (y4b p0 p1) 0).bind fun o5=>
  match o5 with
  | .inl u6=>
   some true
  | .inr (u8)=>
   some false
theorem y6M {p0:List Int} {p1:List Int} {r:Bool} (hm:y4c p0 p1=some r):
  Fw Tryz.prog 82 ⟨0,[]⟩ [.f qI p0,.f qI p1] [] (.b r) []:=by
 unfold y4c at hm
 refine Fw.mk' Tryz.func82 R Tryz.ntmps82 R R (fun C=>?_) R R
 refine .seq (.reg (.sa R (.nil (.seqN (.seq (.seq (.reg (.mv R (.op (O.len sl32 Z R R) R (.mv R (.op (O.len sl32 Z R R) R (.bi R (.nil (.seqN ?_))))))))))))))
 rcases ifS hm with ⟨hc,hm⟩ | ⟨hc,hm⟩
 ·refine .cT R hc ?_
  refine .seq (.reg (.sa R (.nil (.seqN (.ret (.seqR ?_))))))
  obtain rfl:=oi hm
  exact WX.rt [] (.inl R) Tryz.results82 (.tmp R .nil) R (fun _ _ _ h=>h) trivial
 ·refine .cF R hc ?_
  refine .skip (.seqN (.seq (.seq (.reg (.mv R (.op (O.len sl32 Z R R) R (.mv R (.nil (.seqN (.block (bS hm fun o5 eo5 hm=>?_)))))))))))
  refine .cutU (z:= .exit 0) (fun u6=> .inl u6=o5) (fun (u6:Unit)=>⟨[],[],0⟩) ?_ fun K7=>?_
  ·rintro u6 rfl
   dsimp only at hm
   refine .blkE (.seqN (.seq (.reg (.sa R (.nil (.seqN (.ret ?_)))))))
   obtain rfl:=oi hm
   exact WX.rt [] (.inl R) Tryz.results82 (.tmp R .nil) R (fun _ _ _ h=>h) trivial
  refine .cutU (z:= .ret) (fun u8=> .inr (u8)=o5) (fun (u8:Unit)=>⟨[(4,.b false)],[],0⟩) ?_ fun K9=>?_
  ·rintro u8 rfl
   dsimp only at hm
   refine .blkR (.seqR ?_)
   obtain rfl:=oi hm
   exact WX.rt [] (.inl R) Tryz.results82 (.tmp R .nil) R (fun _ _ _ h=>h) trivial
  refine .iter (fun (st5:Int)=>⟨[(13,.i st5),(12,.i (p0.length:Int)),(0,.f qI p0),(1,.f qI p1)],[],0⟩) eo5 [] R ?_
  intro st5 res5 hm ih5 ho5
  unfold y4b at hm
  refine .seq (.reg (.bi R (.nil (.seqN (.seq ?_)))))
  rcases ifS hm with ⟨hc,hm⟩ | ⟨hc,hm⟩
  ·refine .cT R hc ?_
   refine .skip (.seqN (.seq (.block (.seq (.reg (.mv R (.sa R (.nil (.seqN (.seq ?_))))))))))
   refine .sub (τ:=⟨[(5,.i st5),(13,.i st5),(12,.i (p0.length:Int)),(0,.f qI p0),(1,.f qI p1)],[],0⟩) ?_ [] R
   refine bS hm fun x10 ex10 hm=>bS hm fun x11 ex11 hm=>?_
   refine .drw [(0,[]),(0,[]),(0,[oT,oT]),(0,tT 3),(0,[]),(0,[]),(0,[oF,oF,oF,oF,oT,oT]),(0,fA 4 (tT 3)),(0,tT 8)] [_,_,_,_,_,_,_,_,_] ⟨[(24,.b (x10 != x11)),(13,.i st5),(12,.i (p0.length:Int)),(0,.f qI p0),(1,.f qI p1)],[],0⟩ ⟨O.mv Z R R,O.mv Z R R,O.ix sl32 Z R R ex10 R,O.ld nag3 Z R (.E lv3) R R,O.mv Z R R,O.mv Z R R,O.ix sl32 Z R R ex11 R,O.ld nag3 Z R (.E lv3) R R,O.bi Z R R R R,trivial⟩ (by kernel_rfl) R ?_
   refine .seqN ?_
   rcases ifS hm with ⟨hc,hm⟩ | ⟨hc,hm⟩
   ·refine .cT R hc ?_
    exact .seq (.reg (.sa R (.nil (.seqN (.ret (.blkR (.seqR (.seqR ((K9 _ (ho5 _ (oi hm).symm)).sub [] R)))))))))
   ·refine .cF R hc ?_
    exact .skip (.blkN (.seqN (.reg (.bi R (.mv R (.nil ((ih5 _ (oi hm).symm).sub [] R)))))))
  ·refine .cF R hc ?_
   exact .exit (.seqX (.seqX ((K7 _ (ho5 _ (oi hm).symm)).sub [] R)))
def y6N (p0:List Int) (p1:List Int):Option Bool:=
 (y4c p0 p1).bind fun r1=>
 some r1
theorem y8J {p0:List Int} {p1:List Int} {r:Bool} (hm:y6N p0 p1=some r):
  Fw Tryz.prog 29 ⟨0,[]⟩ [.f qI p0,.f qI p1] [] (.b r) []:=by
 unfold y6N at hm
 refine Fw.mk' Tryz.func29 R Tryz.ntmps29 R R (fun C=>?_) R R
 refine .seq (.reg (.sa R (.nil (.seqN (.seq (.reg (.mv R (.mv R (bS hm fun r1 er1 hm=> .op (O.ca0 (y6M er1) cf82 R R Z R R R) R (.sa R (.nil (.seqN (.ret ?_)))))))))))))
 obtain rfl:=oi hm
 exact WX.rt [] (.inl R) Tryz.results29 (.tmp R .nil) R (fun _ _ _ h=>h) trivial
def y4d :Option Bool:=
 (y5F).bind fun r1=>
 (y7s r1 2).bind fun r2=>
 (y6h ((([3,4,5]:List Int),2,([0]:List Int),([(0,3,0),(0,4,1),(1,5,0)]:List (Int×Int×Int))),(([3]:List Int),1,([0]:List Int),([(0,3,0)]:List (Int×Int×Int))),([]:List Int)) ([4,3]:List Int)).bind fun r3=>
 (y6h ((([3,4,5]:List Int),2,([0]:List Int),([(0,3,0),(0,4,1),(1,5,0)]:List (Int×Int×Int))),(([3]:List Int),1,([0]:List Int),([(0,3,0)]:List (Int×Int×Int))),([]:List Int)) ([4,5,3]:List Int)).bind fun r4=>
 (if ((((r2.2.2 == 0) && (!r2.2.1)) && (r2.1.1 == 1)) && ((r2.1.2.1.length:Int) == 0)) then
  (y6N r2.1.2.2 ([1,0]:List Int)).bind fun r30=>
  some r30
 else
  some false).bind fun b11=>
 (if ((((b11 && ((r2.1.2.2.length:Int) == 2)) && (r3.2.2 == 0)) && (!r3.2.1)) && (r3.1.1 == 3)) then
  (y6N r3.1.2.1 ([4]:List Int)).bind fun r29=>
  some r29
 else
  some false).bind fun b22=>
 some ((b22 && (r4.2.2 == 0)) && r4.2.1)
theorem y6j {r:Bool} (hm:y4d=some r):
  Fw Tryz.prog 15 ⟨0,[]⟩ [] [] (.b r) []:=by
 unfold y4d at hm
 refine Fw.mk' Tryz.func15 R Tryz.ntmps15 R R (fun C=>?_) R R
 refine .seq (.reg (.sa R (.nil (.seqN (.seq (.reg (bS hm fun r1 er1 hm=> .op (O.ca0 (y8l er1) cf71 R R Z R R R) R (bS hm fun r2 er2 hm=> .op (O.ca (r':= .tp [.a [lI r2.1.1,lH 0,lF qI r2.1.2.2],.b r2.2.1,.i r2.2.2]) [0] [(0,ROW qI 3 r2.1.2.1)] (some 1) (yaE er2) cf36 R R Z R R R R ⟨⟨_,R,fun _ _ _ _ h=>h⟩,trivial⟩ (fun _ _ _ h=>h) R) R (.mv R (.op (O.ex Z R R R) R (.op (O.ex Z R R R) R (.op (O.ex Z R R R) R (.op (O.al 1 R zz44 R Z R) R (.op (O.st ag44.sz Z R R R R R) R (.sa R (.sa R (.nil (.seqN (.seq (.reg (.op (O.bsF (r:=qI) (zs:=([3,4,5]:List Int)) bs32 R R Z R R R (.c .k (.c .k (.c .k .n))) R R R) R (.op (O.bsF (r:=qI) (zs:=([0]:List Int)) bs32 R R Z R R R (.c .k .n) R R R) R (.op (O.bu (l:=[lI 0,lI 3,lI 0]) pl124 R Z R R R) R (.op (O.bu (l:=[lI 0,lI 4,lI 1]) pl124 R Z R R R) R (.op (O.bu (l:=[lI 1,lI 5,lI 0]) pl124 R Z R R R) R (.op (O.bsF (r:=qT) (zs:=([(0,3,0),(0,4,1),(1,5,0)]:List (Int×Int×Int))) bs33 R R Z R R R (.c (.p .k (.p .k .k)) (.c (.p .k (.p .k .k)) (.c (.p .k (.p .k .k)) .n))) R R R) R (.op (O.bu (l:=[lF qI ([3,4,5]:List Int),lI 2,lF qI ([0]:List Int),lF qT ([(0,3,0),(0,4,1),(1,5,0)]:List (Int×Int×Int))]) pl35 R Z R R R) R (.op (O.al 2 R zz35 R Z R) R (.op (O.st ag35.sz Z R R R R R) R (.nil (.seqN (.seq (.reg (.op (O.bsF (r:=qI) (zs:=([3]:List Int)) bs32 R R Z R R R (.c .k .n) R R R) R (.op (O.bsF (r:=qI) (zs:=([0]:List Int)) bs32 R R Z R R R (.c .k .n) R R R) R (.op (O.bu (l:=[lI 0,lI 3,lI 0]) pl124 R Z R R R) R (.op (O.bsF (r:=qT) (zs:=([(0,3,0)]:List (Int×Int×Int))) bs33 R R Z R R R (.c (.p .k (.p .k .k)) .n) R R R) R ?_)))))))))))))))))))))))))))))))))))))
 refine .op (O.bu (l:=[lF qI ([3]:List Int),lI 1,lF qI ([0]:List Int),lF qT ([(0,3,0)]:List (Int×Int×Int))]) pl35 R Z R R R) R (.op (O.al 3 R zz35 R Z R) R (.op (O.st ag35.sz Z R R R R R) R (.nil (.seqN (.seq (.reg (.op (O.lg (l':=[lF qI ([3,4,5]:List Int),lI 2,lF qI ([0]:List Int),lF qT ([(0,3,0),(0,4,1),(1,5,0)]:List (Int×Int×Int))]) ag35 Z R (.B R) R R R) R (.op (O.lg (l':=[lF qI ([3]:List Int),lI 1,lF qI ([0]:List Int),lF qT ([(0,3,0)]:List (Int×Int×Int))]) ag35 Z R (.B R) R R R) R (.op (O.bu (l:=[lF qI ([3,4,5]:List Int),lI 2,lF qI ([0]:List Int),lF qT ([(0,3,0),(0,4,1),(1,5,0)]:List (Int×Int×Int)),lF qI ([3]:List Int),lI 1,lF qI ([0]:List Int),lF qT ([(0,3,0)]:List (Int×Int×Int)),lN]) pl37 R Z R R R) R (.op (O.al 4 R zz37 R Z R) R (.op (O.st ag37.sz Z R R R R R) R (.nil (.seqN (.seq (.reg (.op (O.lg (l':=[lF qI ([3,4,5]:List Int),lI 2,lF qI ([0]:List Int),lF qT ([(0,3,0),(0,4,1),(1,5,0)]:List (Int×Int×Int)),lF qI ([3]:List Int),lI 1,lF qI ([0]:List Int),lF qT ([(0,3,0)]:List (Int×Int×Int)),lN]) ag37 Z R (.B R) R R R) R (.op (O.bsF (r:=qI) (zs:=([4,3]:List Int)) bs32 R R Z R R R (.c .k (.c .k .n)) R R R) R (bS hm fun r3 er3 hm=> .op (O.cac (r':= .tp [.a [lI r3.1.1,lH 5,lH 6],.b r3.2.1,.i r3.2.2]) [5,6] [(0,ROW qI 3 r3.1.2.1),(1,ROW qI 3 r3.1.2.2)] (some 7) (y7S er3) cf19 R R Z R R ⟨⟨R,(.c .rf (.c .rf (.c .rf (.c .rf (.c .rf (.c .rf (.c .rf (.c .rf (.c (.nf (r:=qI)) .n)))))))))⟩,⟨R,.rf⟩,trivial⟩ R ⟨⟨_,R,fun _ _ _ _ h=>h⟩,⟨_,R,fun _ _ _ _ h=>h⟩,trivial⟩ (fun _ _ _ h=>h) R) R (.mv R (.op (O.ex Z R R R) R (.op (O.ex Z R R R) R (.op (O.ex Z R R R) R (.op (O.al 7 R zz44 R Z R) R (.op (O.st ag44.sz Z R R R R R) R (.sa R (.sa R (.nil (.seqN (.seq (.reg (.op (O.lg (l':=[lF qI ([3,4,5]:List Int),lI 2,lF qI ([0]:List Int),lF qT ([(0,3,0),(0,4,1),(1,5,0)]:List (Int×Int×Int)),lF qI ([3]:List Int),lI 1,lF qI ([0]:List Int),lF qT ([(0,3,0)]:List (Int×Int×Int)),lN]) ag37 Z R (.B R) R R R) R (.op (O.bsF (r:=qI) (zs:=([4,5,3]:List Int)) bs32 R R Z R R R (.c .k (.c .k (.c .k .n))) R R R) R (bS hm fun r4 er4 hm=> .op (O.cac (r':= .tp [.a [lI r4.1.1,lH 8,lH 9],.b r4.2.1,.i r4.2.2]) [8,9] [(0,ROW qI 3 r4.1.2.1),(1,ROW qI 3 r4.1.2.2)] (some 10) (y7S er4) cf19 R R Z R R ⟨⟨R,(.c .rf (.c .rf (.c .rf (.c .rf (.c .rf (.c .rf (.c .rf (.c .rf (.c (.nf (r:=qI)) .n)))))))))⟩,⟨R,.rf⟩,trivial⟩ R ⟨⟨_,R,fun _ _ _ _ h=>h⟩,⟨_,R,fun _ _ _ _ h=>h⟩,trivial⟩ (fun _ _ _ h=>h) R) R (.mv R (.op (O.ex Z R R R) R (.op (O.ex Z R R R) R (.op (O.ex Z R R R) R ?_)))))))))))))))))))))))))))))))))))))
 refine .op (O.al 10 R zz44 R Z R) R (.op (O.st ag44.sz Z R R R R R) R (.sa R (.sa R (.nil (.seqN (.seq (.reg (.mv R (.bi R (.mv R ?_))))))))))
 refine .cut 3 (fun (v5:Bool)=>((r2.2.2 == 0) && (!r2.2.1))=v5) (fun v5=>⟨[(53,.b v5),(12,.i r4.2.2),(11,.b r4.2.1),(9,.i r3.2.2),(8,.b r3.2.1),(7,.q 7 0),(1,.q 1 0)],[(7,.bx 44 [lI r3.1.1,lH 5,lH 6]),(5,ROW qI 3 r3.1.2.1),(6,ROW qI 3 r3.1.2.2),(1,.bx 44 [lI r2.1.1,lH 0,lF qI r2.1.2.2]),(0,ROW qI 3 r2.1.2.1)],11⟩) ?_ ?_
 ·rintro _ rfl
  refine .mv R ?_
  refine .cut 4 (fun (v7:Bool)=>(((r2.2.2 == 0) && (!r2.2.1)) && (r2.1.1 == 1))=v7) (fun v7=>⟨[(58,.b v7),(12,.i r4.2.2),(11,.b r4.2.1),(9,.i r3.2.2),(8,.b r3.2.1),(7,.q 7 0),(1,.q 1 0)],[(7,.bx 44 [lI r3.1.1,lH 5,lH 6]),(5,ROW qI 3 r3.1.2.1),(6,ROW qI 3 r3.1.2.2),(1,.bx 44 [lI r2.1.1,lH 0,lF qI r2.1.2.2]),(0,ROW qI 3 r2.1.2.1)],11⟩) ?_ ?_
  ·rintro _ rfl
   refine .mv R ?_
   refine .cut 5 (fun (v9:Bool)=>((((r2.2.2 == 0) && (!r2.2.1)) && (r2.1.1 == 1)) && ((r2.1.2.1.length:Int) == 0))=v9) (fun v9=>⟨[(64,.b v9),(12,.i r4.2.2),(11,.b r4.2.1),(9,.i r3.2.2),(8,.b r3.2.1),(7,.q 7 0),(1,.q 1 0)],[(7,.bx 44 [lI r3.1.1,lH 5,lH 6]),(5,ROW qI 3 r3.1.2.1),(6,ROW qI 3 r3.1.2.2),(1,.bx 44 [lI r2.1.1,lH 0,lF qI r2.1.2.2]),(0,ROW qI 3 r2.1.2.1)],11⟩) ?_ ?_
   ·rintro _ rfl
    refine .mv R (bS hm fun b11 eb11 hm=>?_)
    refine .cut 5 (fun (v12:Bool)=>b11=v12) (fun v12=>⟨[(70,.b v12),(12,.i r4.2.2),(11,.b r4.2.1),(9,.i r3.2.2),(8,.b r3.2.1),(7,.q 7 0),(1,.q 1 0)],[(7,.bx 44 [lI r3.1.1,lH 5,lH 6]),(5,ROW qI 3 r3.1.2.1),(6,ROW qI 3 r3.1.2.2),(1,.bx 44 [lI r2.1.1,lH 0,lF qI r2.1.2.2]),(0,ROW qI 3 r2.1.2.1)],11⟩) ?_ ?_
    ·rintro _ rfl
     refine .mv R ?_
     refine .cut 5 (fun (v14:Bool)=>(b11 && ((r2.1.2.2.length:Int) == 2))=v14) (fun v14=>⟨[(76,.b v14),(12,.i r4.2.2),(11,.b r4.2.1),(9,.i r3.2.2),(8,.b r3.2.1),(7,.q 7 0)],[(7,.bx 44 [lI r3.1.1,lH 5,lH 6]),(5,ROW qI 3 r3.1.2.1),(6,ROW qI 3 r3.1.2.2)],11⟩) ?_ ?_
     ·rintro _ rfl
      refine .mv R ?_
      refine .cut 3 (fun (v16:Bool)=>((b11 && ((r2.1.2.2.length:Int) == 2)) && (r3.2.2 == 0))=v16) (fun v16=>⟨[(80,.b v16),(12,.i r4.2.2),(11,.b r4.2.1),(8,.b r3.2.1),(7,.q 7 0)],[(7,.bx 44 [lI r3.1.1,lH 5,lH 6]),(5,ROW qI 3 r3.1.2.1),(6,ROW qI 3 r3.1.2.2)],11⟩) ?_ ?_
      ·rintro _ rfl
       refine .mv R ?_
       refine .cut 3 (fun (v18:Bool)=>(((b11 && ((r2.1.2.2.length:Int) == 2)) && (r3.2.2 == 0)) && (!r3.2.1))=v18) (fun v18=>⟨[(84,.b v18),(12,.i r4.2.2),(11,.b r4.2.1),(7,.q 7 0)],[(7,.bx 44 [lI r3.1.1,lH 5,lH 6]),(5,ROW qI 3 r3.1.2.1),(6,ROW qI 3 r3.1.2.2)],11⟩) ?_ ?_
       ·rintro _ rfl
        refine .mv R ?_
        refine .cut 4 (fun (v20:Bool)=>((((b11 && ((r2.1.2.2.length:Int) == 2)) && (r3.2.2 == 0)) && (!r3.2.1)) && (r3.1.1 == 3))=v20) (fun v20=>⟨[(89,.b v20),(12,.i r4.2.2),(11,.b r4.2.1),(7,.q 7 0)],[(7,.bx 44 [lI r3.1.1,lH 5,lH 6]),(5,ROW qI 3 r3.1.2.1),(6,ROW qI 3 r3.1.2.2)],11⟩) ?_ ?_
        ·rintro _ rfl
         refine .mv R (bS hm fun b22 eb22 hm=>?_)
         refine .cut 5 (fun (v23:Bool)=>b22=v23) (fun v23=>⟨[(95,.b v23),(12,.i r4.2.2),(11,.b r4.2.1)],[],11⟩) ?_ ?_
         ·rintro _ rfl
          refine .mv R ?_
          refine .cut 3 (fun (v25:Bool)=>(b22 && (r4.2.2 == 0))=v25) (fun v25=>⟨[(99,.b v25),(11,.b r4.2.1)],[],11⟩) ?_ ?_
          ·rintro _ rfl
           refine .mv R ?_
           refine .cut 2 (fun (v27:Bool)=>((b22 && (r4.2.2 == 0)) && r4.2.1)=v27) (fun v27=>⟨[(102,.b v27)],[],11⟩) ?_ ?_
           ·rintro _ rfl
            refine .sa R (.nil (.seqN (.ret ?_)))
            obtain rfl:=oi hm
            exact WX.rt [] (.inl R) Tryz.results15 (.tmp R .nil) R (fun _ _ _ h=>h) trivial
           ·intro J28
            rcases Bool.eq_false_or_eq_true (b22 && (r4.2.2 == 0)) with hc | hc
            ·refine .know (d:=100) R hc ?_
             exact .op (O.mv (Gu.mk R R) R R) R (.op (O.pkT Z R R R R) R ((J28 r4.2.1 (andT hc).symm).sub [] R))
            ·refine .know (d:=100) R hc ?_
             exact .sk R (.op (O.pkF Z R R R R) R ((J28 false (andF hc).symm).sub [] R))
          ·intro J26
           rcases Bool.eq_false_or_eq_true b22 with hc | hc
           ·refine .know (d:=96) R hc ?_
            exact .op (O.mv (Gu.mk R R) R R) R (.op (O.bi (Gu.mk R R) R R R R) R (.op (O.pkT Z R R R R) R ((J26 (r4.2.2 == 0) (andT hc).symm).sub [] R)))
           ·refine .know (d:=96) R hc ?_
            exact .sk R (.sk R (.op (O.pkF Z R R R R) R ((J26 false (andF hc).symm).sub [] R)))
         ·intro J24
          rcases ifS eb22 with ⟨hc,hm⟩ | ⟨hc,hm⟩
          ·refine .know (d:=90) R hc ?_
           exact .op (O.faP y6H (Gu.mk R R) R R) R (.op (O.ld nag32 (Gu.mk R R) R (.B R) R R) R (.op (O.bsF (r:=qI) (zs:=([4]:List Int)) bs32 R R (Gu.mk R R) R R R (.c .k .n) R R R) R (bS hm fun r29 er29 hm=> .op (O.caZ (y8J er29) cf29 R R (Gu.mk R R) R ⟨⟨R,.hr R,trivial⟩,⟨R,LnL.rf⟩,trivial⟩ (fun _ _ _ _ _ h=>h) R) R (.op (O.pkT Z R R R R) R ((J24 r29 (oi hm).symm).sub [] R)))))
          ·refine .know (d:=90) R hc ?_
           exact .sk R (.sk R (.sk R (.sk R (.op (O.pkF Z R R R R) R ((J24 false (oi hm).symm).sub [] R)))))
        ·intro J21
         rcases Bool.eq_false_or_eq_true (((b11 && ((r2.1.2.2.length:Int) == 2)) && (r3.2.2 == 0)) && (!r3.2.1)) with hc | hc
         ·refine .know (d:=85) R hc ?_
          exact .op (O.faP yaD (Gu.mk R R) R R) R (.op (O.ld nag3 (Gu.mk R R) R (.B R) R R) R (.op (O.bi (Gu.mk R R) R R R R) R (.op (O.pkT Z R R R R) R ((J21 (r3.1.1 == 3) (andT hc).symm).sub [] R))))
         ·refine .know (d:=85) R hc ?_
          exact .sk R (.sk R (.sk R (.op (O.pkF Z R R R R) R ((J21 false (andF hc).symm).sub [] R))))
       ·intro J19
        rcases Bool.eq_false_or_eq_true ((b11 && ((r2.1.2.2.length:Int) == 2)) && (r3.2.2 == 0)) with hc | hc
        ·refine .know (d:=81) R hc ?_
         exact .op (O.mv (Gu.mk R R) R R) R (.op (O.not (Gu.mk R R) R R) R (.op (O.pkT Z R R R R) R ((J19 (!r3.2.1) (andT hc).symm).sub [] R)))
        ·refine .know (d:=81) R hc ?_
         exact .sk R (.sk R (.op (O.pkF Z R R R R) R ((J19 false (andF hc).symm).sub [] R)))
      ·intro J17
       rcases Bool.eq_false_or_eq_true (b11 && ((r2.1.2.2.length:Int) == 2)) with hc | hc
       ·refine .know (d:=77) R hc ?_
        exact .op (O.mv (Gu.mk R R) R R) R (.op (O.bi (Gu.mk R R) R R R R) R (.op (O.pkT Z R R R R) R ((J17 (r3.2.2 == 0) (andT hc).symm).sub [] R)))
       ·refine .know (d:=77) R hc ?_
        exact .sk R (.sk R (.op (O.pkF Z R R R R) R ((J17 false (andF hc).symm).sub [] R)))
     ·intro J15
      rcases Bool.eq_false_or_eq_true b11 with hc | hc
      ·refine .know (d:=71) R hc ?_
       exact .op (O.faP y4G (Gu.mk R R) R R) R (.op (O.ld nag32 (Gu.mk R R) R (.B R) R R) R (.op (O.len sl32 (Gu.mk R R) R R) R (.op (O.bi (Gu.mk R R) R R R R) R (.op (O.pkT Z R R R R) R ((J15 ((r2.1.2.2.length:Int) == 2) (andT hc).symm).sub [] R)))))
      ·refine .know (d:=71) R hc ?_
       exact .sk R (.sk R (.sk R (.sk R (.op (O.pkF Z R R R R) R ((J15 false (andF hc).symm).sub [] R)))))
    ·intro J13
     rcases ifS eb11 with ⟨hc,hm⟩ | ⟨hc,hm⟩
     ·refine .know (d:=65) R hc ?_
      exact .op (O.faP y4G (Gu.mk R R) R R) R (.op (O.ld nag32 (Gu.mk R R) R (.B R) R R) R (.op (O.bsF (r:=qI) (zs:=([1,0]:List Int)) bs32 R R (Gu.mk R R) R R R (.c .k (.c .k .n)) R R R) R (bS hm fun r30 er30 hm=> .op (O.ca0 (y8J er30) cf29 R R (Gu.mk R R) R R R) R (.op (O.pkT Z R R R R) R ((J13 r30 (oi hm).symm).sub [] R)))))
     ·refine .know (d:=65) R hc ?_
      exact .sk R (.sk R (.sk R (.sk R (.op (O.pkF Z R R R R) R ((J13 false (oi hm).symm).sub [] R)))))
   ·intro J10
    rcases Bool.eq_false_or_eq_true (((r2.2.2 == 0) && (!r2.2.1)) && (r2.1.1 == 1)) with hc | hc
    ·refine .know (d:=59) R hc ?_
     exact .op (O.faP y6H (Gu.mk R R) R R) R (.op (O.ld nag32 (Gu.mk R R) R (.B R) R R) R (.op (O.lenH sl32 (Gu.mk R R) R R R) R (.op (O.bi (Gu.mk R R) R R R R) R (.op (O.pkT Z R R R R) R ((J10 ((r2.1.2.1.length:Int) == 0) (andT hc).symm).sub [] R)))))
    ·refine .know (d:=59) R hc ?_
     exact .sk R (.sk R (.sk R (.sk R (.op (O.pkF Z R R R R) R ((J10 false (andF hc).symm).sub [] R)))))
  ·intro J8
   rcases Bool.eq_false_or_eq_true ((r2.2.2 == 0) && (!r2.2.1)) with hc | hc
   ·refine .know (d:=54) R hc ?_
    exact .op (O.faP yaD (Gu.mk R R) R R) R (.op (O.ld nag3 (Gu.mk R R) R (.B R) R R) R (.op (O.bi (Gu.mk R R) R R R R) R (.op (O.pkT Z R R R R) R ((J8 (r2.1.1 == 1) (andT hc).symm).sub [] R))))
   ·refine .know (d:=54) R hc ?_
    exact .sk R (.sk R (.sk R (.op (O.pkF Z R R R R) R ((J8 false (andF hc).symm).sub [] R))))
 ·intro J6
  rcases Bool.eq_false_or_eq_true (r2.2.2 == 0) with hc | hc
  ·refine .know (d:=50) R hc ?_
   exact .op (O.mv (Gu.mk R R) R R) R (.op (O.not (Gu.mk R R) R R) R (.op (O.pkT Z R R R R) R ((J6 (!r2.2.1) (andT hc).symm).sub [] R)))
  ·refine .know (d:=50) R hc ?_
   exact .sk R (.sk R (.op (O.pkF Z R R R R) R ((J6 false (andF hc).symm).sub [] R)))
def y1h (st9:Int×List Int) (l12:List Int):Option ((Int×List Int) ⊕ (List Int)):=
 some (.inl (W (st9.1 + 1),l12))
def y1S (p0:Int) (st9:Int×List Int):Option ((Int×List Int) ⊕ (List Int)):=
 if decide (st9.1 < 5) then
  (ng st9.1).bind fun _=>
  if((IntKind.u8.wrap (((BitVec.ofInt 8 (p0.fdiv (2 ^ (min st9.1.toNat 8))) &&& BitVec.ofInt 8 1).toNat:Int))) == 1) then
   (app st9.2 ([st9.1]:List Int)).bind fun x15=>
   y1h st9 x15
  else
   y1h st9 st9.2
 else
  some (.inr st9.2)
def y1f (p0:Int):Option (List Int):=
 (iter (y1S p0) (0,([]:List Int))).bind fun o9=>
 some o9
theorem y4M {p0:Int} {r:List Int} (hm:y1f p0=some r):
  Fw Tryz.prog 144 ⟨0,[]⟩ [.o (lV (.int .u8 p0))] [] (.h 0) [ROW qI 3 r]:=by
 unfold y1f at hm
 refine Fw.mk' Tryz.func144 R Tryz.ntmps144 R R (fun C=>?_) R R
 refine .seq (.reg (.sa R (.nil (.seqN (.seq (.reg (.sa R (.nil (.seqN (.seq (.seq (.reg (.sa R (.nil (.seqN (.block (bS hm fun o9 eo9 hm=>?_)))))))))))))))))
 refine .cut1 (z:= .exit 0) o9 (fun (o9:List Int)=>⟨[(3,.h 0)],[(0,ROW qI 3 o9)],1⟩) ?_ fun K11=>?_
 ·skip
  refine .blkE (.seqN (.seq (.reg (.mv R (.sa R (.nil (.seqN (.ret ?_))))))))
  obtain rfl:=oi hm
  exact WX.rt [0] (.inl R) Tryz.results144 (.tmp R .nil) R (fun _ _ _ h=>h) ⟨⟨_,R,fun _ _ _ _ h=>h⟩,trivial⟩
 refine .nlg qI 3 3 0 R R (.iter (fun (st9:Int×List Int)=>⟨[(4,.i st9.1),(3,.h 0),(0,.o (lV (.int .u8 p0)))],[(0,ROW qI 3 st9.2)],1⟩) eo9 [] R ?_)
 intro st9 res9 hm ih9 ho9
 unfold y1S at hm
 refine .seq (.seq (.reg (.mv R (.bi R (.nil (.seqN ?_))))))
 rcases ifS hm with ⟨hc,hm⟩ | ⟨hc,hm⟩
 ·refine .cT R hc ?_
  refine .skip (.seqN ?_)
  refine .join1 (fun (l12:List Int)=>y1h st9 l12=some res9) (fun l12=>⟨[(3,.h 0),(4,.i st9.1),(0,.o (lV (.int .u8 p0)))],[(0,ROW qI 3 l12)],1⟩) ?_ ?_
  ·intro l12 hm
   unfold y1h at hm
   exact .reg (.mv R (.bi R (.sa R (.nil ((ih9 _ (oi hm).symm).sub [] R)))))
  ·intro Jj13
   refine .block (.seq (.reg (.mv R (.mv R (bS hm fun _ z14 hm=> .op (O.shr Z R R (ycx z14) R) R (.bi R (.bi R (.nil (.seqN ?_)))))))))
   rcases ifS hm with ⟨hc,hm⟩ | ⟨hc,hm⟩
   ·refine .cT R hc ?_
    exact .reg (.mv R (.mv R (.op (O.bsF (r:=qI) (zs:=([st9.1]:List Int)) bs32 R R Z R R R (.c .k .n) R R R) R (bS hm fun x15 ex15 hm=> .op (O.ap 1 Tryz.underlying32 el3 R R Z R R (.fr R) ex15 R) R (.sa R (.nil (.blkN ((Jj13 _ hm).sub [(0,1)] R))))))))
   ·refine .cF R hc ?_
    exact .skip (.blkN ((Jj13 _ hm).sub [] R))
 ·refine .cF R hc ?_
  exact .exit (.seqX (.seqX ((K11 _ (ho9 _ (oi hm).symm)).sub [] R)))
def y2d (p0:List Int):Option AutT:=
 (app ([]:List Int) p0).bind fun x1=>
 some (x1,0,([]:List Int),([]:List (Int×Int×Int)))
theorem y5s {p0:List Int} {r:AutT} (hm:y2d p0=some r):
  Fw Tryz.prog 194 ⟨0,[]⟩ [.f qI p0] [] (.g [lH 0,lI r.2.1,lH 1,lH 2]) [ROW qI 3 r.1,ROW qI 3 r.2.2.1,ROW qT 124 r.2.2.2]:=by
 unfold y2d at hm
 refine Fw.mk' Tryz.func194 R Tryz.ntmps194 R R (fun C=>?_) R R
 refine .seq (.reg (.op (O.al 0 R zz35 R Z R) R (.nil (.seqN (.seq (.reg (.op (O.b0O (r:=qI) 1 R bs32 R Z R) R (.mv R (bS hm fun x1 ex1 hm=> .op (O.ap 2 Tryz.underlying32 el3 R R Z R R (.fr R) ex1 R) R (.op (O.bu (l:=[lH 2,lI 0,lN,lN]) pl35 R Z R R R) R (.op (O.st ag35.sz Z R R R R R) R (.nil (.seqN (.ret (.nlb qI 3 0 2 R R (.nlb qT 124 0 3 R R ?_))))))))))))))))
 obtain rfl:=oi hm
 exact WX.rt [2,3,4] (.inl R) Tryz.results194 (.cell R R ag35 R .nil) R (fun _ _ _ h=>h) ⟨⟨_,R,fun _ _ _ _ h=>h⟩,⟨_,R,fun _ _ _ _ h=>h⟩,⟨_,R,fun _ _ _ _ h=>h⟩,trivial⟩
def y3z (p0:AutT) (p1:Int) (p2:Int) (st9:Int):Option (Int ⊕ (Unit ⊕ Int)):=
 if decide (st9 < (p0.2.2.2.length:Int)) then
  (idx p0.2.2.2 st9).bind fun x15=>
  (if (x15.1 == p1) then
   (idx p0.2.2.2 st9).bind fun x20=>
   some (x20.2.1 == p2)
  else
   some false).bind fun b16=>
  if b16 then
   (idx p0.2.2.2 st9).bind fun x19=>
   some (.inr (.inr (x19.2.2)))
  else
   some (.inl (W (st9 + 1)))
 else
  some (.inr (.inl ()))
def y3u (p0:AutT) (p1:Int) (p2:Int):Option Int:=
 (iter (y3z p0 p1 p2) 0).bind fun o9=>
 match o9 with
 | .inl u11=>
  some (-1)
 | .inr (u13)=>
  some u13
theorem y6q {p0:AutT} {p1:Int} {p2:Int} {r:Int} (hm:y3u p0 p1 p2=some r):
  Fw Tryz.prog 55 ⟨0,[]⟩ [.a [lF qI p0.1,lI p0.2.1,lF qI p0.2.2.1,lF qT p0.2.2.2],.i p1,.i p2] [] (.i r) []:=by
 unfold y3u at hm
 refine Fw.mk' Tryz.func55 R Tryz.ntmps55 R R (fun C=>?_) R R
 refine .seq (.reg (.op (O.box 0 R Z R R R) R (.sa R (.nil (.seqN (.seq (.seq (.reg (.sa R (.nil (.seqN (.block (bS hm fun o9 eo9 hm=>?_)))))))))))))
 refine .cutU (z:= .exit 0) (fun u11=> .inl u11=o9) (fun (u11:Unit)=>⟨[],[],0⟩) ?_ fun K12=>?_
 ·rintro u11 rfl
  dsimp only at hm
  refine .blkE (.seqN (.seq (.reg (.sa R (.nil (.seqN (.ret ?_)))))))
  obtain rfl:=oi hm
  exact WX.rt [] (.inl R) Tryz.results55 (.tmp R .nil) R (fun _ _ _ h=>h) trivial
 refine .cutU (z:= .ret) (fun u13=> .inr (u13)=o9) (fun (u13:Int)=>⟨[(6,.i u13)],[],0⟩) ?_ fun K14=>?_
 ·rintro u13 rfl
  dsimp only at hm
  refine .blkR (.seqR ?_)
  obtain rfl:=oi hm
  exact WX.rt [] (.inl R) Tryz.results55 (.tmp R .nil) R (fun _ _ _ h=>h) trivial
 refine .iter (fun (st9:Int)=>⟨[(7,.i st9),(3,.q 0 0),(1,.i p1),(2,.i p2)],[(0,.bx 35 [lF qI p0.1,lI p0.2.1,lF qI p0.2.2.1,lF qT p0.2.2.2])],1⟩) eo9 [] R ?_
 intro st9 res9 hm ih9 ho9
 unfold y3z at hm
 refine .seq (.seq (.reg (.mv R (.op (O.faP yG Z R R) R (.op (O.ld nag33 Z R (.B R) R R) R (.op (O.len sl33 Z R R) R (.bi R (.nil (.seqN ?_)))))))))
 rcases ifS hm with ⟨hc,hm⟩ | ⟨hc,hm⟩
 ·refine .cT R hc ?_
  refine .skip (.seqN (.seq (.block (.seq (.reg (.op (O.faP yG Z R R) R (.op (O.ld nag33 Z R (.B R) R R) R (.mv R (bS hm fun x15 ex15 hm=> .op (O.ix sl33 Z R R ex15 R) R (.op (O.faE y1W Z R R) R (.op (O.ld nag3 Z R (.E lv124) R R) R (.mv R (.bi R (.mv R (bS hm fun b16 eb16 hm=>?_)))))))))))))))
  refine .cut 9 (fun (v17:Bool)=>b16=v17) (fun v17=>⟨[(32,.b v17),(7,.i st9),(3,.q 0 0),(1,.i p1),(2,.i p2)],[(0,.bx 35 [lF qI p0.1,lI p0.2.1,lF qI p0.2.2.1,lF qT p0.2.2.2])],1⟩) ?_ ?_
  ·rintro _ rfl
   refine .nil (.seqN ?_)
   rcases ifS hm with ⟨hc,hm⟩ | ⟨hc,hm⟩
   ·refine .cT R hc ?_
    exact .seq (.reg (.op (O.faP yG Z R R) R (.op (O.ld nag33 Z R (.B R) R R) R (.mv R (bS hm fun x19 ex19 hm=> .op (O.ix sl33 Z R R ex19 R) R (.op (O.faE y2W Z R R) R (.op (O.ld nag3 Z R (.E lv124) R R) R (.sa R (.nil (.seqN (.ret (.blkR (.seqR (.seqR ((K14 _ (ho9 _ (oi hm).symm)).sub [] R)))))))))))))))
   ·refine .cF R hc ?_
    exact .skip (.blkN (.seqN (.reg (.mv R (.bi R (.sa R (.nil ((ih9 _ (oi hm).symm).sub [] R))))))))
  ·intro J18
   rcases ifS eb16 with ⟨hc,hm⟩ | ⟨hc,hm⟩
   ·refine .know (d:=23) R hc ?_
    exact .op (O.faP yG (Gu.mk R R) R R) R (.op (O.ld nag33 (Gu.mk R R) R (.B R) R R) R (.op (O.mv (Gu.mk R R) R R) R (bS hm fun x20 ex20 hm=> .op (O.ix sl33 (Gu.mk R R) R R ex20 R) R (.op (O.faE y4L (Gu.mk R R) R R) R (.op (O.ld nag3 (Gu.mk R R) R (.E lv124) R R) R (.op (O.mv (Gu.mk R R) R R) R (.op (O.bi (Gu.mk R R) R R R R) R (.op (O.pkT Z R R R R) R ((J18 (x20.2.1 == p2) (oi hm).symm).sub [] R)))))))))
   ·refine .know (d:=23) R hc ?_
    exact .sk R (.sk R (.sk R (.sk R (.sk R (.sk R (.sk R (.sk R (.op (O.pkF Z R R R R) R ((J18 false (oi hm).symm).sub [] R)))))))))
 ·refine .cF R hc ?_
  exact .exit (.seqX (.seqX ((K12 _ (ho9 _ (oi hm).symm)).sub [] R)))
def y3N (p0:List Int) (p1:Int) (st4:Int):Option (Int ⊕ (Unit ⊕ Unit)):=
 if decide (st4 < (p0.length:Int)) then
  (idx p0 st4).bind fun x9=>
  if(x9 == p1) then
   some (.inr (.inr (())))
  else
   some (.inl (W (st4 + 1)))
 else
  some (.inr (.inl ()))
def y3J (p0:List Int) (p1:Int):Option Bool:=
 (iter (y3N p0 p1) 0).bind fun o4=>
 match o4 with
 | .inl u5=>
  some false
 | .inr (u7)=>
  some true
theorem y6y {p0:List Int} {p1:Int} {r:Bool} (hm:y3J p0 p1=some r):
  Fw Tryz.prog 229 ⟨0,[]⟩ [.f qI p0,.i p1] [] (.b r) []:=by
 unfold y3J at hm
 refine Fw.mk' Tryz.func229 R Tryz.ntmps229 R R (fun C=>?_) R R
 refine .seq (.reg (.sa R (.nil (.seqN (.seq (.seq (.reg (.sa R (.nil (.seqN (.block (bS hm fun o4 eo4 hm=>?_))))))))))))
 refine .cutU (z:= .exit 0) (fun u5=> .inl u5=o4) (fun (u5:Unit)=>⟨[],[],0⟩) ?_ fun K6=>?_
 ·rintro u5 rfl
  dsimp only at hm
  refine .blkE (.seqN (.seq (.reg (.sa R (.nil (.seqN (.ret ?_)))))))
  obtain rfl:=oi hm
  exact WX.rt [] (.inl R) Tryz.results229 (.tmp R .nil) R (fun _ _ _ h=>h) trivial
 refine .cutU (z:= .ret) (fun u7=> .inr (u7)=o4) (fun (u7:Unit)=>⟨[(4,.b true)],[],0⟩) ?_ fun K8=>?_
 ·rintro u7 rfl
  dsimp only at hm
  refine .blkR (.seqR ?_)
  obtain rfl:=oi hm
  exact WX.rt [] (.inl R) Tryz.results229 (.tmp R .nil) R (fun _ _ _ h=>h) trivial
 refine .iter (fun (st4:Int)=>⟨[(5,.i st4),(0,.f qI p0),(1,.i p1)],[],0⟩) eo4 [] R ?_
 intro st4 res4 hm ih4 ho4
 unfold y3N at hm
 refine .seq (.seq (.reg (.mv R (.mv R (.op (O.len sl32 Z R R) R (.bi R (.nil (.seqN ?_))))))))
 rcases ifS hm with ⟨hc,hm⟩ | ⟨hc,hm⟩
 ·refine .cT R hc ?_
  refine .skip (.seqN (.seq (.block (.seq (.reg (.mv R (.mv R (bS hm fun x9 ex9 hm=> .op (O.ix sl32 Z R R ex9 R) R (.op (O.ld nag3 Z R (.E lv3) R R) R (.mv R (.bi R (.nil (.seqN ?_)))))))))))))
  rcases ifS hm with ⟨hc,hm⟩ | ⟨hc,hm⟩
  ·refine .cT R hc ?_
   exact .seq (.reg (.sa R (.nil (.seqN (.ret (.blkR (.seqR (.seqR ((K8 _ (ho4 _ (oi hm).symm)).sub [] R)))))))))
  ·refine .cF R hc ?_
   exact .skip (.blkN (.seqN (.reg (.mv R (.bi R (.sa R (.nil ((ih4 _ (oi hm).symm).sub [] R))))))))
 ·refine .cF R hc ?_
  exact .exit (.seqX (.seqX ((K6 _ (ho4 _ (oi hm).symm)).sub [] R)))
def y2e (st51:Int×List Int) (l54:List Int):Option ((Int×List Int) ⊕ (List Int)):=
 some (.inl (W (st51.1 + 1),l54))
def y2f (p0:AutT) (st34:Int×List Int) (st51:Int×List Int):Option ((Int×List Int) ⊕ (List Int)):=
 if decide (st51.1 < (p0.1.length:Int)) then
  (idx st51.2 st34.1).bind fun x56=>
  (idx p0.1 st51.1).bind fun x57=>
  (y3u p0 x56 x57).bind fun r58=>
  (if decide (r58≥0) then
   (y3J st51.2 r58).bind fun r63=>
   some (!r63)
  else
   some false).bind fun b59=>
  if b59 then
   (app st51.2 ([r58]:List Int)).bind fun x62=>
   y2e st51 x62
  else
   y2e st51 st51.2
 else
  some (.inr st51.2)
def y2g (p0:AutT) (st34:Int×List Int):Option ((Int×List Int) ⊕ (List Int)):=
 if decide (st34.1 < (st34.2.length:Int)) then
  (iter (y2f p0 st34) (0,st34.2)).bind fun o51=>
  some (.inl (W (st34.1 + 1),o51))
 else
  some (.inr st34.2)
def y3l (p0:AutT) (l1:List Int):Option (List Int):=
 (iter (y2g p0) (0,l1)).bind fun o34=>
 some o34
def y4e (p0:AutT):Option (List Int):=
 if decide (p0.2.1 > 0) then
  (app ([]:List Int) ([0]:List Int)).bind fun x64=>
  y3l p0 x64
 else
  y3l p0 ([]:List Int)
theorem y8a {p0:AutT} {r:List Int} (hm:y4e p0=some r):
  Fw Tryz.prog 228 ⟨0,[]⟩ [.a [lF qI p0.1,lI p0.2.1,lF qI p0.2.2.1,lF qT p0.2.2.2]] [] (.h 0) [ROW qI 3 r]:=by
 unfold y4e at hm
 refine Fw.mk' Tryz.func228 R Tryz.ntmps228 R R (fun C=>?_) R R
 refine .seq (.reg (.op (O.box 0 R Z R R R) R (.sa R (.nil (.seqN (.seq (.reg (.sa R (.nil (.seqN ?_))))))))))
 refine .join1 (fun (l1:List Int)=>y3l p0 l1=some r) (fun l1=>⟨[(3,.h 0),(1,.q 1 0)],[(0,ROW qI 3 l1),(1,.bx 35 [lF qI p0.1,lI p0.2.1,lF qI p0.2.2.1,lF qT p0.2.2.2])],2⟩) ?_ ?_
 ·intro l1 hm
  unfold y3l at hm
  refine .seq (.seq (.reg (.sa R (.nil (.seqN (.block (bS hm fun o34 eo34 hm=>?_)))))))
  refine .cut1 (z:= .exit 0) o34 (fun (o34:List Int)=>⟨[(3,.h 0)],[(0,ROW qI 3 o34)],1⟩) ?_ fun K36=>?_
  ·skip
   refine .blkE (.seqN (.seq (.reg (.mv R (.sa R (.nil (.seqN (.ret ?_))))))))
   obtain rfl:=oi hm
   exact WX.rt [0] (.inl R) Tryz.results228 (.tmp R .nil) R (fun _ _ _ h=>h) ⟨⟨_,R,fun _ _ _ _ h=>h⟩,trivial⟩
  refine .iter (fun (st34:Int×List Int)=>⟨[(4,.i st34.1),(3,.h 0),(1,.q 1 0)],[(0,ROW qI 3 st34.2),(1,.bx 35 [lF qI p0.1,lI p0.2.1,lF qI p0.2.2.1,lF qT p0.2.2.2])],2⟩) eo34 [] R ?_
  intro st34 res34 hm ih34 ho34
  unfold y2g at hm
  refine .seq (.seq (.reg (.mv R (.mv R (.op (O.lenH sl32 Z R R R) R (.bi R (.nil (.seqN ?_))))))))
  rcases ifS hm with ⟨hc,hm⟩ | ⟨hc,hm⟩
  ·refine .cT R hc ?_
   refine .skip (.seqN (.seq (.block (.seq (.reg (.sa R (.nil (.seqN (.block (bS hm fun o51 eo51 hm=>?_))))))))))
   refine .cut1 (z:= .exit 2) o51 (fun (o51:List Int)=>⟨[(4,.i st34.1),(3,.h 0),(1,.q 1 0)],[(0,ROW qI 3 o51),(1,.bx 35 [lF qI p0.1,lI p0.2.1,lF qI p0.2.2.1,lF qT p0.2.2.2])],2⟩) ?_ fun K53=>?_
   ·skip
    exact .blkE (.blkN (.seqN (.reg (.mv R (.bi R (.sa R (.nil ((ih34 _ (oi hm).symm).sub [] R))))))))
   refine .iter (fun (st51:Int×List Int)=>⟨[(5,.i st51.1),(4,.i st34.1),(3,.h 0),(1,.q 1 0)],[(0,ROW qI 3 st51.2),(1,.bx 35 [lF qI p0.1,lI p0.2.1,lF qI p0.2.2.1,lF qT p0.2.2.2])],2⟩) eo51 [] R ?_
   intro st51 res51 hm ih51 ho51
   unfold y2f at hm
   refine .seq (.seq (.reg (.mv R (.op (O.faP y1R Z R R) R (.op (O.ld nag32 Z R (.B R) R R) R (.op (O.len sl32 Z R R) R (.bi R (.nil (.seqN ?_)))))))))
   rcases ifS hm with ⟨hc,hm⟩ | ⟨hc,hm⟩
   ·refine .cT R hc ?_
    refine .skip (.seqN ?_)
    refine .join1 (fun (l54:List Int)=>y2e st51 l54=some res51) (fun l54=>⟨[(3,.h 0),(5,.i st51.1),(4,.i st34.1),(1,.q 1 0)],[(0,ROW qI 3 l54),(1,.bx 35 [lF qI p0.1,lI p0.2.1,lF qI p0.2.2.1,lF qT p0.2.2.2])],2⟩) ?_ ?_
    ·intro l54 hm
     unfold y2e at hm
     exact .reg (.mv R (.bi R (.sa R (.nil ((ih51 _ (oi hm).symm).sub [] R)))))
    ·intro Jj55
     refine .block (.seq ?_)
     refine .sub (τ:=⟨[(5,.i st51.1),(4,.i st34.1),(3,.h 0),(1,.q 1 0)],[(0,ROW qI 3 st51.2),(1,.bx 35 [lF qI p0.1,lI p0.2.1,lF qI p0.2.2.1,lF qT p0.2.2.2])],2⟩) ?_ [] R
     refine bS hm fun x56 ex56 hm=>bS hm fun x57 ex57 hm=>bS hm fun r58 er58 hm=>?_
     refine .drw [(2,[]),(2,[]),(2,[]),(2,[oF,oT,oT]),(2,fA 1 (tT 3)),(2,[]),(2,[oF,oF,oF,oF,oF,oT]),(2,[]),(2,fA 5 (tT 3)),(2,fA 5 (tT 4)),(2,tT 10),(2,tT 11)] [_,_,_,_,_,_,_,_,_,_,_,_] ⟨[(6,.i r58),(5,.i st51.1),(4,.i st34.1),(3,.h 0),(1,.q 1 0)],[(0,ROW qI 3 st51.2),(1,.bx 35 [lF qI p0.1,lI p0.2.1,lF qI p0.2.2.1,lF qT p0.2.2.2])],2⟩ ⟨O.lg (l':=[lF qI p0.1,lI p0.2.1,lF qI p0.2.2.1,lF qT p0.2.2.2]) ag35 Z R (.B R) R R R,O.mv Z R R,O.mv Z R R,O.ir sl32 Z R R R ex56 R,O.ld nag3 Z R (.R R ex56 lv3) R R,O.faP y1R Z R R,O.ld nag32 Z R (.B R) R R,O.mv Z R R,O.ix sl32 Z R R ex57 R,O.ld nag3 Z R (.E lv3) R R,O.ca0 (y6q er58) cf55 R R Z R R R,O.as Z R R,trivial⟩ (by kernel_rfl) R ?_
     refine .seqN (.seq (.reg (.mv R (.bi R (.mv R (bS hm fun b59 eb59 hm=>?_))))))
     refine .cut 5 (fun (v60:Bool)=>b59=v60) (fun v60=>⟨[(44,.b v60),(6,.i r58),(5,.i st51.1),(4,.i st34.1),(3,.h 0),(1,.q 1 0)],[(0,ROW qI 3 st51.2),(1,.bx 35 [lF qI p0.1,lI p0.2.1,lF qI p0.2.2.1,lF qT p0.2.2.2])],2⟩) ?_ ?_
     ·rintro _ rfl
      refine .nil (.seqN ?_)
      rcases ifS hm with ⟨hc,hm⟩ | ⟨hc,hm⟩
      ·refine .cT R hc ?_
       exact .reg (.mv R (.mv R (.op (O.bsF (r:=qI) (zs:=([r58]:List Int)) bs32 R R Z R R R (.c .k .n) R R R) R (bS hm fun x62 ex62 hm=> .op (O.ap 2 Tryz.underlying32 el3 R R Z R R (.fr R) ex62 R) R (.sa R (.nil (.blkN ((Jj55 _ hm).sub [(0,2)] R))))))))
      ·refine .cF R hc ?_
       exact .skip (.blkN ((Jj55 _ hm).sub [] R))
     ·intro J61
      rcases ifS eb59 with ⟨hc,hm⟩ | ⟨hc,hm⟩
      ·refine .know (d:=39) R hc ?_
       exact .op (O.mv (Gu.mk R R) R R) R (.op (O.mv (Gu.mk R R) R R) R (bS hm fun r63 er63 hm=> .op (O.caZ (y6y er63) cf229 R R (Gu.mk R R) R ⟨⟨R,.hr R,trivial⟩,⟨R,LnL.rf⟩,trivial⟩ (fun _ _ _ _ _ h=>h) R) R (.op (O.not (Gu.mk R R) R R) R (.op (O.pkT Z R R R R) R ((J61 (!r63) (oi hm).symm).sub [] R)))))
      ·refine .know (d:=39) R hc ?_
       exact .sk R (.sk R (.sk R (.sk R (.op (O.pkF Z R R R R) R ((J61 false (oi hm).symm).sub [] R)))))
   ·refine .cF R hc ?_
    exact .exit (.seqX (.seqX ((K53 _ (ho51 _ (oi hm).symm)).sub [] R)))
  ·refine .cF R hc ?_
   exact .exit (.seqX (.seqX ((K36 _ (ho34 _ (oi hm).symm)).sub [] R)))
 ·intro Jj2
  refine .seq (.reg (.op (O.faP y1g Z R R) R (.op (O.ld nag3 Z R (.B R) R R) R (.bi R (.nil (.seqN ?_))))))
  rcases ifS hm with ⟨hc,hm⟩ | ⟨hc,hm⟩
  ·refine .cT R hc ?_
   exact .reg (.mv R (.op (O.bsF (r:=qI) (zs:=([0]:List Int)) bs32 R R Z R R R (.c .k .n) R R R) R (bS hm fun x64 ex64 hm=> .op (O.apN (r:=qI) 1 Tryz.underlying32 el3 R R Z R (.fr R) ex64 R) R (.sa R (.nil ((Jj2 _ hm).sub [(0,1),(1,0)] R))))))
  ·refine .cF R hc ?_
   exact .skip (.nlg qI 3 3 0 R R ((Jj2 _ hm).sub [(0,1),(1,0)] R))
def y3m (p0:List Int) (p1:Int) (st4:Int):Option (Int ⊕ (Unit ⊕ Int)):=
 if decide (st4 < (p0.length:Int)) then
  (idx p0 st4).bind fun x10=>
  if(x10 == p1) then
   some (.inr (.inr (st4)))
  else
   some (.inl (W (st4 + 1)))
 else
  some (.inr (.inl ()))
def y4f (p0:List Int) (p1:Int):Option Int:=
 (iter (y3m p0 p1) 0).bind fun o4=>
 match o4 with
 | .inl u6=>
  some (-1)
 | .inr (u8)=>
  some u8
theorem y8b {p0:List Int} {p1:Int} {r:Int} (hm:y4f p0 p1=some r):
  Fw Tryz.prog 230 ⟨0,[]⟩ [.f qI p0,.i p1] [] (.i r) []:=by
 unfold y4f at hm
 refine Fw.mk' Tryz.func230 R Tryz.ntmps230 R R (fun C=>?_) R R
 refine .seq (.reg (.sa R (.nil (.seqN (.seq (.seq (.reg (.sa R (.nil (.seqN (.block (bS hm fun o4 eo4 hm=>?_))))))))))))
 refine .cutU (z:= .exit 0) (fun u6=> .inl u6=o4) (fun (u6:Unit)=>⟨[],[],0⟩) ?_ fun K7=>?_
 ·rintro u6 rfl
  dsimp only at hm
  refine .blkE (.seqN (.seq (.reg (.sa R (.nil (.seqN (.ret ?_)))))))
  obtain rfl:=oi hm
  exact WX.rt [] (.inl R) Tryz.results230 (.tmp R .nil) R (fun _ _ _ h=>h) trivial
 refine .cutU (z:= .ret) (fun u8=> .inr (u8)=o4) (fun (u8:Int)=>⟨[(4,.i u8)],[],0⟩) ?_ fun K9=>?_
 ·rintro u8 rfl
  dsimp only at hm
  refine .blkR (.seqR ?_)
  obtain rfl:=oi hm
  exact WX.rt [] (.inl R) Tryz.results230 (.tmp R .nil) R (fun _ _ _ h=>h) trivial
 refine .iter (fun (st4:Int)=>⟨[(5,.i st4),(0,.f qI p0),(1,.i p1)],[],0⟩) eo4 [] R ?_
 intro st4 res4 hm ih4 ho4
 unfold y3m at hm
 refine .seq (.seq (.reg (.mv R (.mv R (.op (O.len sl32 Z R R) R (.bi R (.nil (.seqN ?_))))))))
 rcases ifS hm with ⟨hc,hm⟩ | ⟨hc,hm⟩
 ·refine .cT R hc ?_
  refine .skip (.seqN (.seq (.block (.seq (.reg (.mv R (.mv R (bS hm fun x10 ex10 hm=> .op (O.ix sl32 Z R R ex10 R) R (.op (O.ld nag3 Z R (.E lv3) R R) R (.mv R (.bi R (.nil (.seqN ?_)))))))))))))
  rcases ifS hm with ⟨hc,hm⟩ | ⟨hc,hm⟩
  ·refine .cT R hc ?_
   exact .seq (.reg (.mv R (.sa R (.nil (.seqN (.ret (.blkR (.seqR (.seqR ((K9 _ (ho4 _ (oi hm).symm)).sub [] R))))))))))
  ·refine .cF R hc ?_
   exact .skip (.blkN (.seqN (.reg (.mv R (.bi R (.sa R (.nil ((ih4 _ (oi hm).symm).sub [] R))))))))
 ·refine .cF R hc ?_
  exact .exit (.seqX (.seqX ((K7 _ (ho4 _ (oi hm).symm)).sub [] R)))
def y1o (st55:Int×EdgL) (l58:List (Int×Int×Int)):Option ((Int×EdgL) ⊕ EdgL):=
 some (.inl (W (st55.1 + 1),l58))
def y1p (p0:AutT) (r1:List Int) (st37:Int×List Int×EdgL) (st55:Int×EdgL):Option ((Int×EdgL) ⊕ EdgL):=
 if decide (st55.1 < (p0.1.length:Int)) then
  (idx r1 st37.1).bind fun x60=>
  (idx p0.1 st55.1).bind fun x61=>
  (y3u p0 x60 x61).bind fun r62=>
  if decide (r62≥0) then
   (idx p0.1 st55.1).bind fun x63=>
   (y4f r1 r62).bind fun r64=>
   (app st55.2 ([(st37.1,x63,r64)]:List (Int×Int×Int))).bind fun x65=>
   y1o st55 x65
  else
   y1o st55 st55.2
 else
  some (.inr st55.2)
def y1q (p0:AutT) (r1:List Int) (st37:Int×List Int×EdgL) (l41:List Int):Option ((Int×List Int×EdgL) ⊕ (List Int×EdgL)):=
 (iter (y1p p0 r1 st37) (0,st37.2.2)).bind fun o55=>
 some (.inl (W (st37.1 + 1),l41,o55))
def y2h (p0:AutT) (r1:List Int) (st37:Int×List Int×EdgL):Option ((Int×List Int×EdgL) ⊕ (List Int×EdgL)):=
 if decide (st37.1 < (r1.length:Int)) then
  (idx r1 st37.1).bind fun x66=>
  (y3J p0.2.2.1 x66).bind fun r67=>
  if r67 then
   (app st37.2.1 ([st37.1]:List Int)).bind fun x68=>
   y1q p0 r1 st37 x68
  else
   y1q p0 r1 st37 st37.2.1
 else
  some (.inr st37.2)
def y2S (p0:AutT):Option AutT:=
 (y4e p0).bind fun r1=>
 (y2d p0.1).bind fun r2=>
 (iter (y2h p0 r1) (0,r2.2.2)).bind fun o37=>
 some (r2.1,(r1.length:Int),o37)
theorem y7k {p0:AutT} {r:AutT} (hm:y2S p0=some r):
  Fw Tryz.prog 195 ⟨0,[]⟩ [.a [lF qI p0.1,lI p0.2.1,lF qI p0.2.2.1,lF qT p0.2.2.2]] [] (.g [lH 0,lI r.2.1,lH 1,lH 2]) [ROW qI 3 r.1,ROW qI 3 r.2.2.1,ROW qT 124 r.2.2.2]:=by
 unfold y2S at hm
 refine Fw.mk' Tryz.func195 R Tryz.ntmps195 R R (fun C=>?_) R R
 refine .seq (.reg (.op (O.box 0 R Z R R R) R (.op (O.al 1 R zz35 R Z R) R (.nil (.seqN (.seq (.reg (.op (O.lg (l':=[lF qI p0.1,lI p0.2.1,lF qI p0.2.2.1,lF qT p0.2.2.2]) ag35 Z R (.B R) R R R) R (bS hm fun r1 er1 hm=> .op (O.ca (r':= .h 2) [2] [(0,ROW qI 3 r1)] (some 3) (y8a er1) cf228 R R Z R R R R ⟨⟨_,R,fun _ _ _ _ h=>h⟩,trivial⟩ (fun _ _ _ h=>h) R) R (.sa R (.nil (.seqN (.seq (.reg (.op (O.faP y1R Z R R) R (.op (O.ld nag32 Z R (.B R) R R) R (bS hm fun r2 er2 hm=> .op (O.ca (r':= .g [lH 3,lI r2.2.1,lH 4,lH 5]) [3,4,5] [(0,ROW qI 3 r2.1),(1,ROW qI 3 r2.2.2.1),(2,ROW qT 124 r2.2.2.2)] (some 6) (y5s er2) cf194 R R Z R R R R ⟨⟨_,R,fun _ _ _ _ h=>h⟩,⟨_,R,fun _ _ _ _ h=>h⟩,⟨_,R,fun _ _ _ _ h=>h⟩,trivial⟩ (fun _ _ _ h=>h) R) R (.op (O.al 6 R zz35 R Z R) R (.op (O.st ag35.sz Z R R R R R) R (.nil (.seqN (.seq (.reg (.mv R (.op (O.lenH sl32 Z R R R) R (.op (O.faP y1g Z R R) R (.op (O.st nag3.sz Z R R R R R) R (.nil (.seqN (.seq (.seq (.reg (.sa R (.nil (.seqN (.block (bS hm fun o37 eo37 hm=>?_)))))))))))))))))))))))))))))))))))))
 refine .cut1 (z:= .exit 0) o37 (fun (o37:List Int×EdgL)=>⟨[(4,.q 0 0),(2,.q 4 0)],[(0,.bx 35 [lH 1,lI (r1.length:Int),lH 2,lH 3]),(1,ROW qI 3 r2.1),(2,ROW qI 3 o37.1),(3,ROW qT 124 o37.2),(4,.bx 35 [lN,lI 0,lN,lN])],5⟩) ?_ fun K40=>?_
 ·skip
  refine .blkE (.seqN (.seq (.reg (.op (O.lg (l':=[lH 1,lI (r1.length:Int),lH 2,lH 3]) ag35 Z R (.B R) R R R) R (.op (O.st ag35.sz Z R R R R R) R (.nil (.seqN (.ret ?_))))))))
  obtain rfl:=oi hm
  exact WX.rt [1,2,3] (.inl R) Tryz.results195 (.cell R R ag35 R .nil) R (fun _ _ _ h=>h) ⟨⟨_,R,fun _ _ _ _ h=>h⟩,⟨_,R,fun _ _ _ _ h=>h⟩,⟨_,R,fun _ _ _ _ h=>h⟩,trivial⟩
 refine .iter (fun (st37:Int×List Int×EdgL)=>⟨[(5,.i st37.1),(4,.q 0 0),(3,.h 4),(2,.q 5 0),(1,.q 6 0)],[(0,.bx 35 [lH 1,lI (r1.length:Int),lH 2,lH 3]),(1,ROW qI 3 r2.1),(2,ROW qI 3 st37.2.1),(3,ROW qT 124 st37.2.2),(4,ROW qI 3 r1),(5,.bx 35 [lN,lI 0,lN,lN]),(6,.bx 35 [lF qI p0.1,lI p0.2.1,lF qI p0.2.2.1,lF qT p0.2.2.2])],7⟩) eo37 [(0,6),(1,3),(2,4),(3,5),(4,2),(5,1),(6,0)] R ?_
 intro st37 res37 hm ih37 ho37
 unfold y2h at hm
 refine .seq (.seq (.reg (.mv R (.mv R (.op (O.lenH sl32 Z R R R) R (.bi R (.nil (.seqN ?_))))))))
 rcases ifS hm with ⟨hc,hm⟩ | ⟨hc,hm⟩
 ·refine .cT R hc ?_
  refine .skip (.seqN (.seq (.block ?_)))
  refine .join1 (fun (l41:List Int)=>y1q p0 r1 st37 l41=some res37) (fun l41=>⟨[(5,.i st37.1),(4,.q 0 0),(3,.h 4),(2,.q 5 0),(1,.q 6 0)],[(0,.bx 35 [lH 1,lI (r1.length:Int),lH 2,lH 3]),(1,ROW qI 3 r2.1),(2,ROW qI 3 l41),(3,ROW qT 124 st37.2.2),(4,ROW qI 3 r1),(5,.bx 35 [lN,lI 0,lN,lN]),(6,.bx 35 [lF qI p0.1,lI p0.2.1,lF qI p0.2.2.1,lF qT p0.2.2.2])],7⟩) ?_ ?_
  ·intro l41 hm
   unfold y1q at hm
   refine .seq (.reg (.sa R (.nil (.seqN (.block (bS hm fun o55 eo55 hm=>?_))))))
   refine .cut1 (z:= .exit 2) o55 (fun (o55:EdgL)=>⟨[(5,.i st37.1),(4,.q 0 0),(3,.h 4),(2,.q 5 0),(1,.q 6 0)],[(0,.bx 35 [lH 1,lI (r1.length:Int),lH 2,lH 3]),(1,ROW qI 3 r2.1),(2,ROW qI 3 l41),(3,ROW qT 124 o55),(4,ROW qI 3 r1),(5,.bx 35 [lN,lI 0,lN,lN]),(6,.bx 35 [lF qI p0.1,lI p0.2.1,lF qI p0.2.2.1,lF qT p0.2.2.2])],7⟩) ?_ fun K57=>?_
   ·skip
    exact .blkE (.blkN (.seqN (.reg (.mv R (.bi R (.sa R (.nil ((ih37 _ (oi hm).symm).sub [] R))))))))
   refine .iter (fun (st55:Int×EdgL)=>⟨[(6,.i st55.1),(5,.i st37.1),(4,.q 0 0),(3,.h 4),(2,.q 5 0),(1,.q 6 0)],[(0,.bx 35 [lH 1,lI (r1.length:Int),lH 2,lH 3]),(1,ROW qI 3 r2.1),(2,ROW qI 3 l41),(3,ROW qT 124 st55.2),(4,ROW qI 3 r1),(5,.bx 35 [lN,lI 0,lN,lN]),(6,.bx 35 [lF qI p0.1,lI p0.2.1,lF qI p0.2.2.1,lF qT p0.2.2.2])],7⟩) eo55 [] R ?_
   intro st55 res55 hm ih55 ho55
   unfold y1p at hm
   refine .seq (.seq (.reg (.mv R (.op (O.faP y1R Z R R) R (.op (O.ld nag32 Z R (.B R) R R) R (.op (O.len sl32 Z R R) R (.bi R (.nil (.seqN ?_)))))))))
   rcases ifS hm with ⟨hc,hm⟩ | ⟨hc,hm⟩
   ·refine .cT R hc ?_
    refine .skip (.seqN ?_)
    refine .join1 (fun (l58:List (Int×Int×Int))=>y1o st55 l58=some res55) (fun l58=>⟨[(6,.i st55.1),(5,.i st37.1),(4,.q 0 0),(3,.h 4),(2,.q 5 0),(1,.q 6 0)],[(0,.bx 35 [lH 1,lI (r1.length:Int),lH 2,lH 3]),(1,ROW qI 3 r2.1),(2,ROW qI 3 l41),(3,ROW qT 124 l58),(4,ROW qI 3 r1),(5,.bx 35 [lN,lI 0,lN,lN]),(6,.bx 35 [lF qI p0.1,lI p0.2.1,lF qI p0.2.2.1,lF qT p0.2.2.2])],7⟩) ?_ ?_
    ·intro l58 hm
     unfold y1o at hm
     exact .reg (.mv R (.bi R (.sa R (.nil ((ih55 _ (oi hm).symm).sub [] R)))))
    ·intro Jj59
     refine .block (.seq ?_)
     refine .sub (τ:=⟨[(6,.i st55.1),(5,.i st37.1),(4,.q 0 0),(3,.h 4),(2,.q 5 0),(1,.q 6 0)],[(0,.bx 35 [lH 1,lI (r1.length:Int),lH 2,lH 3]),(1,ROW qI 3 r2.1),(2,ROW qI 3 l41),(3,ROW qT 124 st55.2),(4,ROW qI 3 r1),(5,.bx 35 [lN,lI 0,lN,lN]),(6,.bx 35 [lF qI p0.1,lI p0.2.1,lF qI p0.2.2.1,lF qT p0.2.2.2])],7⟩) ?_ [] R
     refine bS hm fun x60 ex60 hm=>bS hm fun x61 ex61 hm=>bS hm fun r62 er62 hm=>?_
     refine .drw [(7,[]),(7,[]),(7,[]),(7,[oF,oT,oT]),(7,fA 1 (tT 3)),(7,[]),(7,[oF,oF,oF,oF,oF,oT]),(7,[]),(7,fA 5 (tT 3)),(7,fA 5 (tT 4)),(7,tT 10),(7,tT 11)] [_,_,_,_,_,_,_,_,_,_,_,_] ⟨[(7,.i r62),(6,.i st55.1),(5,.i st37.1),(4,.q 0 0),(3,.h 4),(2,.q 5 0),(1,.q 6 0)],[(0,.bx 35 [lH 1,lI (r1.length:Int),lH 2,lH 3]),(1,ROW qI 3 r2.1),(2,ROW qI 3 l41),(3,ROW qT 124 st55.2),(4,ROW qI 3 r1),(5,.bx 35 [lN,lI 0,lN,lN]),(6,.bx 35 [lF qI p0.1,lI p0.2.1,lF qI p0.2.2.1,lF qT p0.2.2.2])],7⟩ ⟨O.lg (l':=[lF qI p0.1,lI p0.2.1,lF qI p0.2.2.1,lF qT p0.2.2.2]) ag35 Z R (.B R) R R R,O.mv Z R R,O.mv Z R R,O.ir sl32 Z R R R ex60 R,O.ld nag3 Z R (.R R ex60 lv3) R R,O.faP y1R Z R R,O.ld nag32 Z R (.B R) R R,O.mv Z R R,O.ix sl32 Z R R ex61 R,O.ld nag3 Z R (.E lv3) R R,O.ca0 (y6q er62) cf55 R R Z R R R,O.as Z R R,trivial⟩ (by kernel_rfl) R ?_
     refine .seqN (.seq (.reg (.mv R (.bi R (.nil (.seqN ?_))))))
     rcases ifS hm with ⟨hc,hm⟩ | ⟨hc,hm⟩
     ·refine .cT R hc ?_
      refine .sub (τ:=⟨[(7,.i r62),(6,.i st55.1),(5,.i st37.1),(4,.q 0 0),(3,.h 4),(2,.q 5 0),(1,.q 6 0)],[(0,.bx 35 [lH 1,lI (r1.length:Int),lH 2,lH 3]),(1,ROW qI 3 r2.1),(2,ROW qI 3 l41),(3,ROW qT 124 st55.2),(4,ROW qI 3 r1),(5,.bx 35 [lN,lI 0,lN,lN]),(6,.bx 35 [lF qI p0.1,lI p0.2.1,lF qI p0.2.2.1,lF qT p0.2.2.2])],7⟩) ?_ [] R
      refine bS hm fun x63 ex63 hm=>bS hm fun r64 er64 hm=>bS hm fun x65 ex65 hm=>?_
      refine .drg 8 [(7,[]),(7,[oT]),(7,[]),(7,[]),(7,[oF,oF,oF,oT]),(7,[]),(7,fA 3 (tT 3)),(7,fA 3 (tT 4)),(7,[]),(7,[]),(7,[oF,oF,oF,oF,oF,oF,oF,oF,oT,oT]),(7,fA 2 (tT 9)),(7,fA 2 (tT 10)),(7,tT 13),(8,tT 14),(8,tT 15)] [_,_,_,_,_,_,_,_,_,_,_,_,_,_,_,_] ⟨[(6,.i st55.1),(5,.i st37.1),(4,.q 0 0),(3,.h 4),(2,.q 5 0),(1,.q 6 0)],[(0,.bx 35 [lH 1,lI (r1.length:Int),lH 2,lH 7]),(1,ROW qI 3 r2.1),(2,ROW qI 3 l41),(7,ROW qT 124 x65),(4,ROW qI 3 r1),(5,.bx 35 [lN,lI 0,lN,lN]),(6,.bx 35 [lF qI p0.1,lI p0.2.1,lF qI p0.2.2.1,lF qT p0.2.2.2])],8⟩ ⟨O.faP yG Z R R,O.ld nag33 Z R (.B R) R R,O.mv Z R R,O.faP y1R Z R R,O.ld nag32 Z R (.B R) R R,O.mv Z R R,O.ix sl32 Z R R ex63 R,O.ld nag3 Z R (.E lv3) R R,O.mv Z R R,O.mv Z R R,O.caZ (y8b er64) cf230 R R Z R ⟨⟨R,.hr R,trivial⟩,⟨R,LnL.rf⟩,trivial⟩ (fun _ _ _ _ _ h=>h) R,O.bu (l:=[lI st37.1,lI x63,lI r64]) pl124 R Z R R R,O.bsF (r:=qT) (zs:=([(st37.1,x63,r64)]:List (Int×Int×Int))) bs33 R R Z R R R (.c (.p .k (.p .k .k)) .n) R R R,O.ap 7 Tryz.underlying33 el124 R R Z R R (.fr R) ex65 R,O.faP yG Z R R,O.st nag33.sz Z R R R R R,trivial⟩ (by kernel_rfl) R ?_
      exact .blkN ((Jj59 _ hm).sub [(3,7)] R)
     ·refine .cF R hc ?_
      exact .skip (.blkN ((Jj59 _ hm).sub [] R))
   ·refine .cF R hc ?_
    exact .exit (.seqX (.seqX ((K57 _ (ho55 _ (oi hm).symm)).sub [] R)))
  ·intro Jj42
   refine .seq ?_
   refine .sub (τ:=⟨[(5,.i st37.1),(4,.q 0 0),(3,.h 4),(2,.q 5 0),(1,.q 6 0)],[(0,.bx 35 [lH 1,lI (r1.length:Int),lH 2,lH 3]),(1,ROW qI 3 r2.1),(2,ROW qI 3 st37.2.1),(3,ROW qT 124 st37.2.2),(4,ROW qI 3 r1),(5,.bx 35 [lN,lI 0,lN,lN]),(6,.bx 35 [lF qI p0.1,lI p0.2.1,lF qI p0.2.2.1,lF qT p0.2.2.2])],7⟩) ?_ [] R
   refine bS hm fun x66 ex66 hm=>bS hm fun r67 er67 hm=>?_
   refine .drw [(7,[]),(7,[oT]),(7,[]),(7,[]),(7,[oF,oF,oT,oT]),(7,fA 2 (tT 3)),(7,tT 6)] [_,_,_,_,_,_,_] ⟨[(28,.b r67),(5,.i st37.1),(4,.q 0 0),(3,.h 4),(2,.q 5 0),(1,.q 6 0)],[(0,.bx 35 [lH 1,lI (r1.length:Int),lH 2,lH 3]),(1,ROW qI 3 r2.1),(2,ROW qI 3 st37.2.1),(3,ROW qT 124 st37.2.2),(4,ROW qI 3 r1),(5,.bx 35 [lN,lI 0,lN,lN]),(6,.bx 35 [lF qI p0.1,lI p0.2.1,lF qI p0.2.2.1,lF qT p0.2.2.2])],7⟩ ⟨O.faP y3y Z R R,O.ld nag32 Z R (.B R) R R,O.mv Z R R,O.mv Z R R,O.ir sl32 Z R R R ex66 R,O.ld nag3 Z R (.R R ex66 lv3) R R,O.ca0 (y6y er67) cf229 R R Z R R R,trivial⟩ (by kernel_rfl) R ?_
   refine .seqN ?_
   rcases ifS hm with ⟨hc,hm⟩ | ⟨hc,hm⟩
   ·refine .cT R hc ?_
    exact .reg (.op (O.faP y3y Z R R) R (.op (O.ld nag32 Z R (.B R) R R) R (.mv R (.op (O.bsF (r:=qI) (zs:=([st37.1]:List Int)) bs32 R R Z R R R (.c .k .n) R R R) R (bS hm fun x68 ex68 hm=> .op (O.ap 7 Tryz.underlying32 el3 R R Z R R (.fr R) ex68 R) R (.op (O.faP y3y Z R R) R (.op (O.st nag32.sz Z R R R R R) R (.nil ((Jj42 _ hm).sub [(2,7)] R)))))))))
   ·refine .cF R hc ?_
    exact .skip ((Jj42 _ hm).sub [] R)
 ·refine .cF R hc ?_
  exact .exit (.seqX (.seqX ((K40 _ (ho37 _ (oi hm).symm)).sub [(4,5)] R)))
def y2v (st61:Int×EdgL) (l66:List (Int×Int×Int)):Option ((Int×EdgL) ⊕ EdgL):=
 some (.inl (W (st61.1 + 1),l66))
def y3A (p0:List Int) (p1:y2B) (st40:Int×List Int×EdgL) (st61:Int×EdgL):Option ((Int×EdgL) ⊕ EdgL):=
 if((decide (st61.1 < (p0.length:Int))) && (decide (st61.1 < 5))) then
  (rng st40.1 5).bind fun _=>
  (rng st61.1 5).bind fun _=>
  (([p1.2.2.1.1,p1.2.2.1.2.1,p1.2.2.1.2.2.1,p1.2.2.1.2.2.2.1,p1.2.2.1.2.2.2.2,p1.2.2.2.1.1,p1.2.2.2.1.2.1,p1.2.2.2.1.2.2.1,p1.2.2.2.1.2.2.2.1,p1.2.2.2.1.2.2.2.2,p1.2.2.2.2.1.1,p1.2.2.2.2.1.2.1,p1.2.2.2.2.1.2.2.1,p1.2.2.2.2.1.2.2.2.1,p1.2.2.2.2.1.2.2.2.2,p1.2.2.2.2.2.1.1,p1.2.2.2.2.2.1.2.1,p1.2.2.2.2.2.1.2.2.1,p1.2.2.2.2.2.1.2.2.2.1,p1.2.2.2.2.2.1.2.2.2.2,p1.2.2.2.2.2.2.1,p1.2.2.2.2.2.2.2.1,p1.2.2.2.2.2.2.2.2.1,p1.2.2.2.2.2.2.2.2.2.1,p1.2.2.2.2.2.2.2.2.2.2]:List Int)[st40.1.toNat * 5 + st61.1.toNat * 1]?).bind fun x70=>
  (nz (W ((W (1 + (W (p1.1.tmod 5)))) + 2))).bind fun _=>
  if decide (((W x70).tmod (W ((W (1 + (W (p1.1.tmod 5)))) + 2))) < (W (1 + (W (p1.1.tmod 5))))) then
   (idx p0 st61.1).bind fun x72=>
   (app st61.2 ([(st40.1,x72,((W x70).tmod (W ((W (1 + (W (p1.1.tmod 5)))) + 2))))]:List (Int×Int×Int))).bind fun x73=>
   y2v st61 x73
  else
   y2v st61 st61.2
 else
  some (.inr st61.2)
def y2w (p0:List Int) (p1:y2B) (st40:Int×List Int×EdgL) (l45:List Int):Option ((Int×List Int×EdgL) ⊕ (List Int×EdgL)):=
 (iter (y3A p0 p1 st40) (0,st40.2.2)).bind fun o61=>
 some (.inl (W (st40.1 + 1),l45,o61))
def y3B (p0:List Int) (p1:y2B) (st40:Int×List Int×EdgL):Option ((Int×List Int×EdgL) ⊕ (List Int×EdgL)):=
 if decide (st40.1 < (W (1 + (W (p1.1.tmod 5))))) then
  (ng st40.1).bind fun _=>
  if((IntKind.u8.wrap (((BitVec.ofInt 8 (p1.2.1.fdiv (2 ^ (min st40.1.toNat 8))) &&& BitVec.ofInt 8 1).toNat:Int))) == 1) then
   (app st40.2.1 ([st40.1]:List Int)).bind fun x75=>
   y2w p0 p1 st40 x75
  else
   y2w p0 p1 st40 st40.2.1
 else
  some (.inr st40.2)
def y3v (p0:List Int) (p1:y2B):Option AutT:=
 if decide (p1.1≥250) then
  (y2d p0).bind fun r1=>
  some r1
 else
  (y2d p0).bind fun r2=>
  (iter (y3B p0 p1) (0,r2.2.2)).bind fun o40=>
  (y2S (r2.1,W (1 + (W (p1.1.tmod 5))),o40)).bind fun r44=>
  some r44
theorem y6r {p0:List Int} {p1:y2B} {r:AutT} (hm:y3v p0 p1=some r):
  Fw Tryz.prog 143 ⟨0,[]⟩ [.f qI p0,.a (lx26 p1)] [] (.g [lH 0,lI r.2.1,lH 1,lH 2]) [ROW qI 3 r.1,ROW qI 3 r.2.2.1,ROW qT 124 r.2.2.2]:=by
 unfold y3v at hm
 refine Fw.mk' Tryz.func143 R Tryz.ntmps143 R R (fun C=>?_) R R
 refine .seq (.reg (.op (O.box 0 R Z R R R) R (.op (O.al 1 R zz35 R Z R) R (.nil (.seqN (.seq (.seq (.reg (.op (O.faP ydN Z R R) R (.op (O.ld nag5 Z R (.B R) R R) R (.bi R (.nil (.seqN ?_)))))))))))))
 rcases ifS hm with ⟨hc,hm⟩ | ⟨hc,hm⟩
 ·refine .cT R hc ?_
  refine .seq (.reg (.mv R (bS hm fun r1 er1 hm=> .op (O.ca (r':= .g [lH 2,lI r1.2.1,lH 3,lH 4]) [2,3,4] [(0,ROW qI 3 r1.1),(1,ROW qI 3 r1.2.2.1),(2,ROW qT 124 r1.2.2.2)] (some 5) (y5s er1) cf194 R R Z R R R R ⟨⟨_,R,fun _ _ _ _ h=>h⟩,⟨_,R,fun _ _ _ _ h=>h⟩,⟨_,R,fun _ _ _ _ h=>h⟩,trivial⟩ (fun _ _ _ h=>h) R) R (.op (O.st ag35.sz Z R R R R R) R (.nil (.seqN (.ret (.seqR ?_))))))))
  obtain rfl:=oi hm
  exact WX.rt [2,3,4] (.inl R) Tryz.results143 (.cell R R ag35 R .nil) R (fun _ _ _ h=>h) ⟨⟨_,R,fun _ _ _ _ h=>h⟩,⟨_,R,fun _ _ _ _ h=>h⟩,⟨_,R,fun _ _ _ _ h=>h⟩,trivial⟩
 ·refine .cF R hc ?_
  refine .skip (.seqN (.seq (.reg (.mv R (bS hm fun r2 er2 hm=> .op (O.ca (r':= .g [lH 2,lI r2.2.1,lH 3,lH 4]) [2,3,4] [(0,ROW qI 3 r2.1),(1,ROW qI 3 r2.2.2.1),(2,ROW qT 124 r2.2.2.2)] (some 5) (y5s er2) cf194 R R Z R R R R ⟨⟨_,R,fun _ _ _ _ h=>h⟩,⟨_,R,fun _ _ _ _ h=>h⟩,⟨_,R,fun _ _ _ _ h=>h⟩,trivial⟩ (fun _ _ _ h=>h) R) R (.op (O.al 5 R zz35 R Z R) R (.op (O.st ag35.sz Z R R R R R) R (.nil (.seqN (.seq (.reg (.op (O.faP ydN Z R R) R (.op (O.ld nag5 Z R (.B R) R R) R (.op (O.rem Z R R (by decide) R) R (.op (O.cv Tryz.underlying5 Tryz.underlying3 Z R R) R (.bi R (.op (O.faP y1g Z R R) R (.op (O.st nag3.sz Z R R R R R) R (.nil (.seqN (.seq (.seq (.reg (.sa R (.nil (.seqN (.block (bS hm fun o40 eo40 hm=>?_))))))))))))))))))))))))))))
  refine .cut1 (z:= .exit 0) o40 (fun (o40:List Int×EdgL)=>⟨[(5,.q 0 0),(4,.q 4 0)],[(0,.bx 35 [lH 1,lI (W (1 + (W (p1.1.tmod 5)))),lH 2,lH 3]),(1,ROW qI 3 r2.1),(2,ROW qI 3 o40.1),(3,ROW qT 124 o40.2),(4,.bx 35 [lN,lI 0,lN,lN])],5⟩) ?_ fun K43=>?_
  ·skip
   refine .blkE (.seqN (.seq (.reg (.op (O.lg (l':=[lH 1,lI (W (1 + (W (p1.1.tmod 5)))),lH 2,lH 3]) ag35 Z R (.B R) R R R) R (bS hm fun r44 er44 hm=> .op (O.caY (r':= .g [lH 5,lI r44.2.1,lH 6,lH 7]) [5,6,7] [(0,ROW qI 3 r44.1),(1,ROW qI 3 r44.2.2.1),(2,ROW qT 124 r44.2.2.2)] (some 8) (y7k er44) cf195 R R Z R R ⟨⟨R,.hr R,.rf,.hr R,.hr R,trivial⟩,trivial⟩ R ⟨.row flr3,.row flr3,.row y5m,trivial⟩ (fun _ _ _ _ h=>h) ⟨⟨_,R,fun _ _ _ _ h=>h⟩,⟨_,R,fun _ _ _ _ h=>h⟩,⟨_,R,fun _ _ _ _ h=>h⟩,trivial⟩ (fun _ _ _ h=>h) R) R (.op (O.st ag35.sz Z R R R R R) R (.nil (.seqN (.ret ?_)))))))))
   obtain rfl:=oi hm
   exact WX.rt [5,6,7] (.inl R) Tryz.results143 (.cell R R ag35 R .nil) R (fun _ _ _ h=>h) ⟨⟨_,R,fun _ _ _ _ h=>h⟩,⟨_,R,fun _ _ _ _ h=>h⟩,⟨_,R,fun _ _ _ _ h=>h⟩,trivial⟩
  refine .iter (fun (st40:Int×List Int×EdgL)=>⟨[(6,.i st40.1),(5,.q 0 0),(4,.q 4 0),(3,.q 5 0),(0,.f qI p0)],[(0,.bx 35 [lH 1,lI (W (1 + (W (p1.1.tmod 5)))),lH 2,lH 3]),(1,ROW qI 3 r2.1),(2,ROW qI 3 st40.2.1),(3,ROW qT 124 st40.2.2),(4,.bx 35 [lN,lI 0,lN,lN]),(5,.bx 26 (lx26 p1))],6⟩) eo40 [(0,5),(1,2),(2,3),(3,4),(4,1),(5,0)] R ?_
  intro st40 res40 hm ih40 ho40
  unfold y3B at hm
  refine .seq (.seq (.reg (.mv R (.op (O.faP y1g Z R R) R (.op (O.ld nag3 Z R (.B R) R R) R (.bi R (.nil (.seqN ?_))))))))
  rcases ifS hm with ⟨hc,hm⟩ | ⟨hc,hm⟩
  ·refine .cT R hc ?_
   refine .skip (.seqN (.seq (.block ?_)))
   refine .join1 (fun (l45:List Int)=>y2w p0 p1 st40 l45=some res40) (fun l45=>⟨[(6,.i st40.1),(5,.q 0 0),(4,.q 4 0),(3,.q 5 0),(0,.f qI p0)],[(0,.bx 35 [lH 1,lI (W (1 + (W (p1.1.tmod 5)))),lH 2,lH 3]),(1,ROW qI 3 r2.1),(2,ROW qI 3 l45),(3,ROW qT 124 st40.2.2),(4,.bx 35 [lN,lI 0,lN,lN]),(5,.bx 26 (lx26 p1))],6⟩) ?_ ?_
   ·intro l45 hm
    unfold y2w at hm
    refine .seq (.reg (.sa R (.nil (.seqN (.block (bS hm fun o61 eo61 hm=>?_))))))
    refine .cut1 (z:= .exit 2) o61 (fun (o61:EdgL)=>⟨[(6,.i st40.1),(5,.q 0 0),(4,.q 4 0),(3,.q 5 0),(0,.f qI p0)],[(0,.bx 35 [lH 1,lI (W (1 + (W (p1.1.tmod 5)))),lH 2,lH 3]),(1,ROW qI 3 r2.1),(2,ROW qI 3 l45),(3,ROW qT 124 o61),(4,.bx 35 [lN,lI 0,lN,lN]),(5,.bx 26 (lx26 p1))],6⟩) ?_ fun K63=>?_
    ·skip
     exact .blkE (.blkN (.seqN (.reg (.mv R (.bi R (.sa R (.nil ((ih40 _ (oi hm).symm).sub [] R))))))))
    refine .iter (fun (st61:Int×EdgL)=>⟨[(7,.i st61.1),(6,.i st40.1),(5,.q 0 0),(4,.q 4 0),(3,.q 5 0),(0,.f qI p0)],[(0,.bx 35 [lH 1,lI (W (1 + (W (p1.1.tmod 5)))),lH 2,lH 3]),(1,ROW qI 3 r2.1),(2,ROW qI 3 l45),(3,ROW qT 124 st61.2),(4,.bx 35 [lN,lI 0,lN,lN]),(5,.bx 26 (lx26 p1))],6⟩) eo61 [] R ?_
    intro st61 res61 hm ih61 ho61
    unfold y3A at hm
    refine .seq (.seq (.reg (.mv R (.mv R (.op (O.len sl32 Z R R) R (.bi R (.mv R ?_)))))))
    refine .cut 3 (fun (v64:Bool)=>((decide (st61.1 < (p0.length:Int))) && (decide (st61.1 < 5)))=v64) (fun v64=>⟨[(47,.b v64),(7,.i st61.1),(6,.i st40.1),(5,.q 0 0),(4,.q 4 0),(3,.q 5 0),(0,.f qI p0)],[(0,.bx 35 [lH 1,lI (W (1 + (W (p1.1.tmod 5)))),lH 2,lH 3]),(1,ROW qI 3 r2.1),(2,ROW qI 3 l45),(3,ROW qT 124 st61.2),(4,.bx 35 [lN,lI 0,lN,lN]),(5,.bx 26 (lx26 p1))],6⟩) ?_ ?_
    ·rintro _ rfl
     refine .nil (.seqN ?_)
     rcases ifS hm with ⟨hc,hm⟩ | ⟨hc,hm⟩
     ·refine .cT R hc ?_
      refine .skip (.seqN ?_)
      refine .join1 (fun (l66:List (Int×Int×Int))=>y2v st61 l66=some res61) (fun l66=>⟨[(7,.i st61.1),(6,.i st40.1),(5,.q 0 0),(4,.q 4 0),(3,.q 5 0),(0,.f qI p0)],[(0,.bx 35 [lH 1,lI (W (1 + (W (p1.1.tmod 5)))),lH 2,lH 3]),(1,ROW qI 3 r2.1),(2,ROW qI 3 l45),(3,ROW qT 124 l66),(4,.bx 35 [lN,lI 0,lN,lN]),(5,.bx 26 (lx26 p1))],6⟩) ?_ ?_
      ·intro l66 hm
       unfold y2v at hm
       exact .reg (.mv R (.bi R (.sa R (.nil ((ih61 _ (oi hm).symm).sub [] R)))))
      ·intro Jj67
       refine .block (.seq ?_)
       refine .sub (τ:=⟨[(7,.i st61.1),(6,.i st40.1),(5,.q 0 0),(4,.q 4 0),(3,.q 5 0),(0,.f qI p0)],[(0,.bx 35 [lH 1,lI (W (1 + (W (p1.1.tmod 5)))),lH 2,lH 3]),(1,ROW qI 3 r2.1),(2,ROW qI 3 l45),(3,ROW qT 124 st61.2),(4,.bx 35 [lN,lI 0,lN,lN]),(5,.bx 26 (lx26 p1))],6⟩) ?_ [] R
       refine bS hm fun _ z68 hm=>bS hm fun _ z69 hm=>bS hm fun x70 ex70 hm=>bS hm fun _ z71 hm=>?_
       refine .drw [(6,[]),(6,[]),(6,[]),(6,[oT,oF,oT]),(6,tT 4),(6,tT 5),(6,tT 6),(6,[]),(6,[oF,oF,oF,oF,oF,oF,oF,oT]),(6,[oF,oF,oF,oF,oF,oF,oF,oT,oT]),(6,tT 10),(6,tT 11)] [_,_,_,_,_,_,_,_,_,_,_,_] ⟨[(8,.i ((W x70).tmod (W ((W (1 + (W (p1.1.tmod 5)))) + 2)))),(7,.i st61.1),(6,.i st40.1),(5,.q 0 0),(4,.q 4 0),(3,.q 5 0),(0,.f qI p0)],[(0,.bx 35 [lH 1,lI (W (1 + (W (p1.1.tmod 5)))),lH 2,lH 3]),(1,ROW qI 3 r2.1),(2,ROW qI 3 l45),(3,ROW qT 124 st61.2),(4,.bx 35 [lN,lI 0,lN,lN]),(5,.bx 26 (lx26 p1))],6⟩ ⟨O.mv Z R R,O.mv Z R R,O.faP yfW Z R R,O.ia ia24 Z R R z68 R,O.ia ia23 Z R R z69 R,O.ldA (off:=2) (k:=st40.1.toNat * 5 + st61.1.toNat * 1) (m:=25) (cs:=[p1.2.2.1.1,p1.2.2.1.2.1,p1.2.2.1.2.2.1,p1.2.2.1.2.2.2.1,p1.2.2.1.2.2.2.2,p1.2.2.2.1.1,p1.2.2.2.1.2.1,p1.2.2.2.1.2.2.1,p1.2.2.2.1.2.2.2.1,p1.2.2.2.1.2.2.2.2,p1.2.2.2.2.1.1,p1.2.2.2.2.1.2.1,p1.2.2.2.2.1.2.2.1,p1.2.2.2.2.1.2.2.2.1,p1.2.2.2.2.1.2.2.2.2,p1.2.2.2.2.2.1.1,p1.2.2.2.2.2.1.2.1,p1.2.2.2.2.2.1.2.2.1,p1.2.2.2.2.2.1.2.2.2.1,p1.2.2.2.2.2.1.2.2.2.2,p1.2.2.2.2.2.2.1,p1.2.2.2.2.2.2.2.1,p1.2.2.2.2.2.2.2.2.1,p1.2.2.2.2.2.2.2.2.2.1,p1.2.2.2.2.2.2.2.2.2.2]) nag5 Z R R R (by omega) ex70 R,O.cv Tryz.underlying5 Tryz.underlying3 Z R R,O.faP y1g Z R R,O.ld nag3 Z R (.B R) R R,O.bi Z R R R R,O.rem Z R R (yff z71) R,O.as Z R R,trivial⟩ (by kernel_rfl) R ?_
       refine .seqN (.seq (.reg (.mv R (.op (O.faP y1g Z R R) R (.op (O.ld nag3 Z R (.B R) R R) R (.bi R (.nil (.seqN ?_))))))))
       rcases ifS hm with ⟨hc,hm⟩ | ⟨hc,hm⟩
       ·refine .cT R hc ?_
        refine .sub (τ:=⟨[(8,.i ((W x70).tmod (W ((W (1 + (W (p1.1.tmod 5)))) + 2)))),(7,.i st61.1),(6,.i st40.1),(5,.q 0 0),(4,.q 4 0),(3,.q 5 0),(0,.f qI p0)],[(0,.bx 35 [lH 1,lI (W (1 + (W (p1.1.tmod 5)))),lH 2,lH 3]),(1,ROW qI 3 r2.1),(2,ROW qI 3 l45),(3,ROW qT 124 st61.2),(4,.bx 35 [lN,lI 0,lN,lN]),(5,.bx 26 (lx26 p1))],6⟩) ?_ [] R
        refine bS hm fun x72 ex72 hm=>bS hm fun x73 ex73 hm=>?_
        refine .drg 7 [(6,[]),(6,[oT]),(6,[]),(6,[]),(6,[]),(6,[oF,oF,oF,oT,oT]),(6,fA 3 (tT 3)),(6,[]),(6,fA 2 (tT 6)),(6,fA 2 (tT 7)),(6,tT 10),(7,tT 11),(7,tT 12)] [_,_,_,_,_,_,_,_,_,_,_,_,_] ⟨[(7,.i st61.1),(6,.i st40.1),(5,.q 0 0),(4,.q 4 0),(3,.q 5 0),(0,.f qI p0)],[(0,.bx 35 [lH 1,lI (W (1 + (W (p1.1.tmod 5)))),lH 2,lH 6]),(1,ROW qI 3 r2.1),(2,ROW qI 3 l45),(6,ROW qT 124 x73),(4,.bx 35 [lN,lI 0,lN,lN]),(5,.bx 26 (lx26 p1))],7⟩ ⟨O.faP yG Z R R,O.ld nag33 Z R (.B R) R R,O.mv Z R R,O.mv Z R R,O.mv Z R R,O.ix sl32 Z R R ex72 R,O.ld nag3 Z R (.E lv3) R R,O.mv Z R R,O.bu (l:=[lI st40.1,lI x72,lI ((W x70).tmod (W ((W (1 + (W (p1.1.tmod 5)))) + 2)))]) pl124 R Z R R R,O.bsF (r:=qT) (zs:=([(st40.1,x72,((W x70).tmod (W ((W (1 + (W (p1.1.tmod 5)))) + 2))))]:List (Int×Int×Int))) bs33 R R Z R R R (.c (.p .k (.p .k .k)) .n) R R R,O.ap 6 Tryz.underlying33 el124 R R Z R R (.fr R) ex73 R,O.faP yG Z R R,O.st nag33.sz Z R R R R R,trivial⟩ (by kernel_rfl) R ?_
        exact .blkN ((Jj67 _ hm).sub [(3,6)] R)
       ·refine .cF R hc ?_
        exact .skip (.blkN ((Jj67 _ hm).sub [] R))
     ·refine .cF R hc ?_
      exact .exit (.seqX (.seqX ((K63 _ (ho61 _ (oi hm).symm)).sub [] R)))
    ·intro J65
     rcases Bool.eq_false_or_eq_true (decide (st61.1 < (p0.length:Int))) with hc | hc
     ·refine .know (d:=44) R hc ?_
      exact .op (O.mv (Gu.mk R R) R R) R (.op (O.bi (Gu.mk R R) R R R R) R (.op (O.pkT Z R R R R) R ((J65 (decide (st61.1 < 5)) (andT hc).symm).sub [] R)))
     ·refine .know (d:=44) R hc ?_
      exact .sk R (.sk R (.op (O.pkF Z R R R R) R ((J65 false (andF hc).symm).sub [] R)))
   ·intro Jj46
    refine .seq (.reg (.op (O.faP yfV Z R R) R (.op (O.ld nag5 Z R (.B R) R R) R (.mv R (bS hm fun _ z74 hm=> .op (O.shr Z R R (ycx z74) R) R (.bi R (.bi R (.nil (.seqN ?_)))))))))
    rcases ifS hm with ⟨hc,hm⟩ | ⟨hc,hm⟩
    ·refine .cT R hc ?_
     exact .reg (.op (O.faP y3y Z R R) R (.op (O.ld nag32 Z R (.B R) R R) R (.mv R (.op (O.bsF (r:=qI) (zs:=([st40.1]:List Int)) bs32 R R Z R R R (.c .k .n) R R R) R (bS hm fun x75 ex75 hm=> .op (O.ap 6 Tryz.underlying32 el3 R R Z R R (.fr R) ex75 R) R (.op (O.faP y3y Z R R) R (.op (O.st nag32.sz Z R R R R R) R (.nil ((Jj46 _ hm).sub [(2,6)] R)))))))))
    ·refine .cF R hc ?_
     exact .skip ((Jj46 _ hm).sub [] R)
  ·refine .cF R hc ?_
   exact .exit (.seqX (.seqX ((K43 _ (ho40 _ (oi hm).symm)).sub [] R)))
def y4s (p0:(Int×y2B)×(Int×y2B)×Int):Option (AutT×AutT×List Int):=
 (y1f p0.1.1).bind fun r1=>
 (y3v r1 p0.1.2).bind fun r2=>
 (y1f p0.2.1.1).bind fun r3=>
 (y3r r3 r2.1).bind fun r4=>
 (y3v r4 p0.2.1.2).bind fun r5=>
 (y1f p0.2.2).bind fun r6=>
 some (r2,r5,r6)
theorem y8n {p0:(Int×y2B)×(Int×y2B)×Int} {r:AutT×AutT×List Int} (hm:y4s p0=some r):
  Fw Tryz.prog 72 ⟨0,[]⟩ [.a (lx30 p0)] [] (.tp [.a [lH 0,lI r.1.2.1,lH 1,lH 2],.a [lH 3,lI r.2.1.2.1,lH 4,lH 5],.h 6]) [ROW qI 3 r.1.1,ROW qI 3 r.1.2.2.1,ROW qT 124 r.1.2.2.2,ROW qI 3 r.2.1.1,ROW qI 3 r.2.1.2.2.1,ROW qT 124 r.2.1.2.2.2,ROW qI 3 r.2.2]:=by
 unfold y4s at hm
 refine Fw.mk' Tryz.func72 R Tryz.ntmps72 R R (fun C=>?_) R R
 refine .seq (.reg (.op (O.box 0 R Z R R R) R (.op (O.al 1 R zz35 R Z R) R (.op (O.al 2 R zz35 R Z R) R (.sa R (.nil (.seqN (.seq ?_))))))))
 refine .sub (τ:=⟨[(3,.q 2 0),(2,.q 1 0),(1,.q 0 0)],[(2,.bx 35 [lN,lI 0,lN,lN]),(1,.bx 35 [lN,lI 0,lN,lN]),(0,.bx 30 (lx30 p0))],3⟩) ?_ [] R
 refine bS hm fun r1 er1 hm=>bS hm fun r2 er2 hm=>?_
 refine .drg 7 [(3,[]),(3,[oT]),(3,[oT,oT]),(3,tT 3),(3,[]),(3,[oF,oF,oF,oF,oT]),(3,[oF,oF,oF,oF,oT,oT]),(4,tT 7),(7,tT 8)] [_,_,_,_,_,_,_,_,_] ⟨[(3,.q 2 0),(2,.q 1 0),(1,.q 0 0)],[(2,.bx 35 [lN,lI 0,lN,lN]),(1,.bx 35 [lH 4,lI r2.2.1,lH 5,lH 6]),(4,ROW qI 3 r2.1),(5,ROW qI 3 r2.2.2.1),(6,ROW qT 124 r2.2.2.2),(0,.bx 30 (lx30 p0))],7⟩ ⟨O.faP ydQ Z R R,O.faP ydO Z R R,O.ld nag22 Z R (.B R) R R,O.ca (r':= .h 3) [3] [(0,ROW qI 3 r1)] (some 4) (y4M er1) cf144 R R Z R R R R ⟨⟨_,R,fun _ _ _ _ h=>h⟩,trivial⟩ (fun _ _ _ h=>h) R,O.faP ydQ Z R R,O.faP ydP Z R R,O.lg (l':=(lx26 p0.1.2)) ag26 Z R (.B R) R R R,O.caY (r':= .g [lH 4,lI r2.2.1,lH 5,lH 6]) [4,5,6] [(0,ROW qI 3 r2.1),(1,ROW qI 3 r2.2.2.1),(2,ROW qT 124 r2.2.2.2)] (some 7) (y6r er2) cf143 R R Z R R ⟨⟨R,.hr R,trivial⟩,⟨R,LnL.rf⟩,trivial⟩ R ⟨.row flr3,.row flr3,.row y5m,trivial⟩ (fun _ _ _ _ h=>h) ⟨⟨_,R,fun _ _ _ _ h=>h⟩,⟨_,R,fun _ _ _ _ h=>h⟩,⟨_,R,fun _ _ _ _ h=>h⟩,trivial⟩ (fun _ _ _ h=>h) R,O.st ag35.sz Z R R R R R,trivial⟩ (by kernel_rfl) R ?_
 refine .seqN (.seq ?_)
 refine .sub (τ:=⟨[(3,.q 2 0),(2,.q 1 0),(1,.q 0 0)],[(2,.bx 35 [lN,lI 0,lN,lN]),(1,.bx 35 [lH 4,lI r2.2.1,lH 5,lH 6]),(4,ROW qI 3 r2.1),(5,ROW qI 3 r2.2.2.1),(6,ROW qT 124 r2.2.2.2),(0,.bx 30 (lx30 p0))],7⟩) ?_ [] R
 refine bS hm fun r3 er3 hm=>bS hm fun r4 er4 hm=>bS hm fun r5 er5 hm=>?_
 refine .drg 12 [(7,[]),(7,[oT]),(7,[oT,oT]),(7,tT 3),(7,[]),(7,[oF,oF,oF,oF,oT]),(8,tT 6),(7,[]),(7,[oF,oF,oF,oF,oF,oF,oF,oT]),(7,[oF,oF,oF,oF,oF,oF,oF,oT,oT]),(9,tT 10),(12,tT 11)] [_,_,_,_,_,_,_,_,_,_,_,_] ⟨[(3,.q 2 0),(2,.q 1 0),(1,.q 0 0)],[(2,.bx 35 [lH 9,lI r5.2.1,lH 10,lH 11]),(9,ROW qI 3 r5.1),(10,ROW qI 3 r5.2.2.1),(11,ROW qT 124 r5.2.2.2),(1,.bx 35 [lH 4,lI r2.2.1,lH 5,lH 6]),(4,ROW qI 3 r2.1),(5,ROW qI 3 r2.2.2.1),(6,ROW qT 124 r2.2.2.2),(0,.bx 30 (lx30 p0))],12⟩ ⟨O.faP ydR Z R R,O.faP ydO Z R R,O.ld nag22 Z R (.B R) R R,O.ca (r':= .h 7) [7] [(0,ROW qI 3 r3)] (some 8) (y4M er3) cf144 R R Z R R R R ⟨⟨_,R,fun _ _ _ _ h=>h⟩,trivial⟩ (fun _ _ _ h=>h) R,O.faP y1R Z R R,O.ld nag32 Z R (.B R) R R,O.caY (r':= .h 8) [8] [(0,ROW qI 3 r4)] (some 9) (y6o er4) cf145 R R Z R R ⟨⟨R,.hr R,trivial⟩,⟨R,.hr R,trivial⟩,trivial⟩ R ⟨.row flr3,trivial⟩ (fun _ _ _ _ h=>h) ⟨⟨_,R,fun _ _ _ _ h=>h⟩,trivial⟩ (fun _ _ _ h=>h) R,O.faP ydR Z R R,O.faP ydP Z R R,O.lg (l':=(lx26 p0.2.1.2)) ag26 Z R (.B R) R R R,O.caY (r':= .g [lH 9,lI r5.2.1,lH 10,lH 11]) [9,10,11] [(0,ROW qI 3 r5.1),(1,ROW qI 3 r5.2.2.1),(2,ROW qT 124 r5.2.2.2)] (some 12) (y6r er5) cf143 R R Z R R ⟨⟨R,.hr R,trivial⟩,⟨R,LnL.rf⟩,trivial⟩ R ⟨.row flr3,.row flr3,.row y5m,trivial⟩ (fun _ _ _ _ h=>h) ⟨⟨_,R,fun _ _ _ _ h=>h⟩,⟨_,R,fun _ _ _ _ h=>h⟩,⟨_,R,fun _ _ _ _ h=>h⟩,trivial⟩ (fun _ _ _ h=>h) R,O.st ag35.sz Z R R R R R,trivial⟩ (by kernel_rfl) R ?_
 refine .seqN (.seq ?_)
 refine .sub (τ:=⟨[(3,.q 2 0),(2,.q 1 0),(1,.q 0 0)],[(2,.bx 35 [lH 9,lI r5.2.1,lH 10,lH 11]),(9,ROW qI 3 r5.1),(10,ROW qI 3 r5.2.2.1),(11,ROW qT 124 r5.2.2.2),(1,.bx 35 [lH 4,lI r2.2.1,lH 5,lH 6]),(4,ROW qI 3 r2.1),(5,ROW qI 3 r2.2.2.1),(6,ROW qT 124 r2.2.2.2),(0,.bx 30 (lx30 p0))],12⟩) ?_ [] R
 refine bS hm fun r6 er6 hm=>?_
 refine .drd 13 [(12,[],[]),(12,[],[1]),(12,[],[]),(12,[oF,oF,oT],[]),(12,[oF,oF,oT,oT],[]),(13,[oT,oF,oT,oT,oT],[]),(13,[oT,oT,oT,oT,oT,oT],[]),(13,[oT,oT,oT,oT,oT,oT,oT],[])] [_,_,_,_,_,_,_,_] ⟨[(4,.h 12),(3,.q 2 0),(2,.q 1 0)],[(12,ROW qI 3 r6),(2,.bx 35 [lH 9,lI r5.2.1,lH 10,lH 11]),(9,ROW qI 3 r5.1),(10,ROW qI 3 r5.2.2.1),(11,ROW qT 124 r5.2.2.2),(1,.bx 35 [lH 4,lI r2.2.1,lH 5,lH 6]),(4,ROW qI 3 r2.1),(5,ROW qI 3 r2.2.2.1),(6,ROW qT 124 r2.2.2.2)],13⟩ ⟨O.lg (l':=[lH 4,lI r2.2.1,lH 5,lH 6]) ag35 Z R (.B R) R R R,O.lg (l':=[lH 9,lI r5.2.1,lH 10,lH 11]) ag35 Z R (.B R) R R R,O.faP yfX Z R R,O.ld nag22 Z R (.B R) R R,O.ca (r':= .h 12) [12] [(0,ROW qI 3 r6)] (some 13) (y4M er6) cf144 R R Z R R R R ⟨⟨_,R,fun _ _ _ _ h=>h⟩,trivial⟩ (fun _ _ _ h=>h) R,O.st ag35.sz Z R R R R R,O.st ag35.sz Z R R R R R,O.as Z R R,trivial⟩ (by kernel_rfl) R ?_
 refine .seqN (.ret ?_)
 obtain rfl:=oi hm
 exact WX.rt [4,5,6,9,10,11,12] (.inl R) Tryz.results72 (.cell R R ag35 R (.cell R R ag35 R (.tmp R .nil))) R (fun _ _ _ h=>h) ⟨⟨_,R,fun _ _ _ _ h=>h⟩,⟨_,R,fun _ _ _ _ h=>h⟩,⟨_,R,fun _ _ _ _ h=>h⟩,⟨_,R,fun _ _ _ _ h=>h⟩,⟨_,R,fun _ _ _ _ h=>h⟩,⟨_,R,fun _ _ _ _ h=>h⟩,⟨_,R,fun _ _ _ _ h=>h⟩,trivial⟩
def y3C (p0:AutT) (p1:Int) (p2:Int) (st9:Int):Option (Int ⊕ (Unit ⊕ Int)):=
 if decide (st9 < (p0.2.2.2.length:Int)) then
  (idx p0.2.2.2 st9).bind fun x15=>
  (if (x15.1 == p1) then
   (idx p0.2.2.2 st9).bind fun x20=>
   some (x20.2.1 == p2)
  else
   some false).bind fun b16=>
  if b16 then
   (idx p0.2.2.2 st9).bind fun x19=>
   some (.inr (.inr (x19.2.2)))
  else
   some (.inl (W (st9 + 1)))
 else
  some (.inr (.inl ()))
def y1m (p0:AutT) (p1:Int) (p2:Int):Option Int:=
 (iter (y3C p0 p1 p2) 0).bind fun o9=>
 match o9 with
 | .inl u11=>
  some (-1)
 | .inr (u13)=>
  some u13
theorem y3O {p0:AutT} {p1:Int} {p2:Int} {r:Int} (hm:y1m p0 p1 p2=some r):
  Fw Tryz.prog 73 ⟨0,[]⟩ [.a [lF qI p0.1,lI p0.2.1,lF qI p0.2.2.1,lF qT p0.2.2.2],.i p1,.i p2] [] (.i r) []:=by
 unfold y1m at hm
 refine Fw.mk' Tryz.func73 R Tryz.ntmps73 R R (fun C=>?_) R R
 refine .seq (.reg (.op (O.box 0 R Z R R R) R (.sa R (.nil (.seqN (.seq (.seq (.reg (.sa R (.nil (.seqN (.block (bS hm fun o9 eo9 hm=>?_)))))))))))))
 refine .cutU (z:= .exit 0) (fun u11=> .inl u11=o9) (fun (u11:Unit)=>⟨[],[],0⟩) ?_ fun K12=>?_
 ·rintro u11 rfl
  dsimp only at hm
  refine .blkE (.seqN (.seq (.reg (.sa R (.nil (.seqN (.ret ?_)))))))
  obtain rfl:=oi hm
  exact WX.rt [] (.inl R) Tryz.results73 (.tmp R .nil) R (fun _ _ _ h=>h) trivial
 refine .cutU (z:= .ret) (fun u13=> .inr (u13)=o9) (fun (u13:Int)=>⟨[(6,.i u13)],[],0⟩) ?_ fun K14=>?_
 ·rintro u13 rfl
  dsimp only at hm
  refine .blkR (.seqR ?_)
  obtain rfl:=oi hm
  exact WX.rt [] (.inl R) Tryz.results73 (.tmp R .nil) R (fun _ _ _ h=>h) trivial
 refine .iter (fun (st9:Int)=>⟨[(7,.i st9),(3,.q 0 0),(1,.i p1),(2,.i p2)],[(0,.bx 35 [lF qI p0.1,lI p0.2.1,lF qI p0.2.2.1,lF qT p0.2.2.2])],1⟩) eo9 [] R ?_
 intro st9 res9 hm ih9 ho9
 unfold y3C at hm
 refine .seq (.seq (.reg (.mv R (.op (O.faP yG Z R R) R (.op (O.ld nag33 Z R (.B R) R R) R (.op (O.len sl33 Z R R) R (.bi R (.nil (.seqN ?_)))))))))
 rcases ifS hm with ⟨hc,hm⟩ | ⟨hc,hm⟩
 ·refine .cT R hc ?_
  refine .skip (.seqN (.seq (.block (.seq (.reg (.op (O.faP yG Z R R) R (.op (O.ld nag33 Z R (.B R) R R) R (.mv R (bS hm fun x15 ex15 hm=> .op (O.ix sl33 Z R R ex15 R) R (.op (O.faE y1W Z R R) R (.op (O.ld nag3 Z R (.E lv124) R R) R (.mv R (.bi R (.mv R (bS hm fun b16 eb16 hm=>?_)))))))))))))))
  refine .cut 9 (fun (v17:Bool)=>b16=v17) (fun v17=>⟨[(32,.b v17),(7,.i st9),(3,.q 0 0),(1,.i p1),(2,.i p2)],[(0,.bx 35 [lF qI p0.1,lI p0.2.1,lF qI p0.2.2.1,lF qT p0.2.2.2])],1⟩) ?_ ?_
  ·rintro _ rfl
   refine .nil (.seqN ?_)
   rcases ifS hm with ⟨hc,hm⟩ | ⟨hc,hm⟩
   ·refine .cT R hc ?_
    exact .seq (.reg (.op (O.faP yG Z R R) R (.op (O.ld nag33 Z R (.B R) R R) R (.mv R (bS hm fun x19 ex19 hm=> .op (O.ix sl33 Z R R ex19 R) R (.op (O.faE y2W Z R R) R (.op (O.ld nag3 Z R (.E lv124) R R) R (.sa R (.nil (.seqN (.ret (.blkR (.seqR (.seqR ((K14 _ (ho9 _ (oi hm).symm)).sub [] R)))))))))))))))
   ·refine .cF R hc ?_
    exact .skip (.blkN (.seqN (.reg (.mv R (.bi R (.sa R (.nil ((ih9 _ (oi hm).symm).sub [] R))))))))
  ·intro J18
   rcases ifS eb16 with ⟨hc,hm⟩ | ⟨hc,hm⟩
   ·refine .know (d:=23) R hc ?_
    exact .op (O.faP yG (Gu.mk R R) R R) R (.op (O.ld nag33 (Gu.mk R R) R (.B R) R R) R (.op (O.mv (Gu.mk R R) R R) R (bS hm fun x20 ex20 hm=> .op (O.ix sl33 (Gu.mk R R) R R ex20 R) R (.op (O.faE y4L (Gu.mk R R) R R) R (.op (O.ld nag3 (Gu.mk R R) R (.E lv124) R R) R (.op (O.mv (Gu.mk R R) R R) R (.op (O.bi (Gu.mk R R) R R R R) R (.op (O.pkT Z R R R R) R ((J18 (x20.2.1 == p2) (oi hm).symm).sub [] R)))))))))
   ·refine .know (d:=23) R hc ?_
    exact .sk R (.sk R (.sk R (.sk R (.sk R (.sk R (.sk R (.sk R (.op (O.pkF Z R R R R) R ((J18 false (oi hm).symm).sub [] R)))))))))
 ·refine .cF R hc ?_
  exact .exit (.seqX (.seqX ((K12 _ (ho9 _ (oi hm).symm)).sub [] R)))
def y5c (p0:AutT) (p1:List Int) (p2:List Int):Option Int:=
 (yF p0).bind fun r1=>
 if(r1 != 0) then
  some r1
 else
  (y3I p1 p0.2.1).bind fun r2=>
  if(r2 != 0) then
   some r2
  else
   (y3I p2 32).bind fun r3=>
   some r3
theorem y9p {p0:AutT} {p1:List Int} {p2:List Int} {r:Int} (hm:y5c p0 p1 p2=some r):
  Fw Tryz.prog 146 ⟨0,[]⟩ [.a [lF qI p0.1,lI p0.2.1,lF qI p0.2.2.1,lF qT p0.2.2.2],.f qI p1,.f qI p2] [] (.i r) []:=by
 unfold y5c at hm
 refine Fw.mk' Tryz.func146 R Tryz.ntmps146 R R (fun C=>?_) R R
 refine .seq (.reg (.op (O.box 0 R Z R R R) R (.sa R (.nil (.seqN (.seq (.seq (.reg (.op (O.lg (l':=[lF qI p0.1,lI p0.2.1,lF qI p0.2.2.1,lF qT p0.2.2.2]) ag35 Z R (.B R) R R R) R (bS hm fun r1 er1 hm=> .op (O.ca0 (y2O er1) cf101 R R Z R R R) R (.sa R (.nil (.seqN (.seq (.reg (.mv R (.bi R (.nil (.seqN ?_)))))))))))))))))))
 rcases ifS hm with ⟨hc,hm⟩ | ⟨hc,hm⟩
 ·refine .cT R hc ?_
  refine .seq (.reg (.mv R (.sa R (.nil (.seqN (.ret (.seqR ?_)))))))
  obtain rfl:=oi hm
  exact WX.rt [] (.inl R) Tryz.results146 (.tmp R .nil) R (fun _ _ _ h=>h) trivial
 ·refine .cF R hc ?_
  refine .skip (.seqN (.seq (.seq (.reg (.mv R (.op (O.faP y1g Z R R) R (.op (O.ld nag3 Z R (.B R) R R) R (bS hm fun r2 er2 hm=> .op (O.ca0 (y5C er2) cf25 R R Z R R R) R (.sa R (.nil (.seqN (.seq (.reg (.mv R (.bi R (.nil (.seqN ?_)))))))))))))))))
  rcases ifS hm with ⟨hc,hm⟩ | ⟨hc,hm⟩
  ·refine .cT R hc ?_
   refine .seq (.reg (.mv R (.sa R (.nil (.seqN (.ret (.seqR ?_)))))))
   obtain rfl:=oi hm
   exact WX.rt [] (.inl R) Tryz.results146 (.tmp R .nil) R (fun _ _ _ h=>h) trivial
  ·refine .cF R hc ?_
   refine .skip (.seqN (.seq (.reg (.mv R (bS hm fun r3 er3 hm=> .op (O.ca0 (y5C er3) cf25 R R Z R R R) R (.sa R (.nil (.seqN (.ret ?_)))))))))
   obtain rfl:=oi hm
   exact WX.rt [] (.inl R) Tryz.results146 (.tmp R .nil) R (fun _ _ _ h=>h) trivial
def y4t (p0:AutT) (st27:Int×(List (Int×List Int))):Option ((Int×(List (Int×List Int))) ⊕ (List (Int×List Int))):=
 if decide (st27.1 < (p0.2.2.2.length:Int)) then
  (idx p0.2.2.2 st27.1).bind fun x30=>
  (app ((kget st27.2 x30.2.2).getD []) ([x30.1]:List Int)).bind fun x31=>
  some (.inl (W (st27.1 + 1),(kput st27.2 x30.2.2 x31)))
 else
  some (.inr st27.2)
def y4u (p1:List Int) (st18:Int×List Bool):Option ((Int×List Bool) ⊕ (List Bool)):=
 if decide (st18.1 < (p1.length:Int)) then
  (idx p1 st18.1).bind fun x32=>
  (idx st18.2 x32).bind fun x33=>
  (upd st18.2 x32 false).bind fun x34=>
  some (.inl (W (st18.1 + 1),x34))
 else
  some (.inr st18.2)
def y3w (x1:List Bool) (st8:Int×List Bool):Option ((Int×List Bool) ⊕ (List Bool)):=
 if decide (st8.1 < (x1.length:Int)) then
  (idx st8.2 st8.1).bind fun x35=>
  (upd st8.2 st8.1 true).bind fun x36=>
  some (.inl (W (st8.1 + 1),x36))
 else
  some (.inr st8.2)
def y5d (p0:AutT) (p1:List Int) (p2:List Int):Option (AutT×List Int×(List (Int×List Int))×List Bool):=
 (mkL p0.2.1 false).bind fun x1=>
 (iter (y3w x1) (0,x1)).bind fun o8=>
 (iter (y4u p1) (0,o8)).bind fun o18=>
 (iter (y4t p0) (0,([]:List (Int×List Int)))).bind fun o27=>
 some (p0,p2,o27,o18)
theorem y9q {p0:AutT} {p1:List Int} {p2:List Int} {r:(AutT×List Int×(List (Int×List Int))×List Bool)} (hm:y5d p0 p1 p2=some r):
  Fw Tryz.prog 197 ⟨0,[]⟩ [.a [lF qI p0.1,lI p0.2.1,lF qI p0.2.2.1,lF qT p0.2.2.2],.f qI p1,.f qI p2] [] (.q 0 0) [.bx 289 [lF qI r.1.1,lI r.1.2.1,lF qI r.1.2.2.1,lF qT r.1.2.2.2,lF qI r.2.1,lM kvI (rL qI) r.2.2.1,lH 1],ROW rB 4 r.2.2.2]:=by
 unfold y5d at hm
 refine Fw.mk' Tryz.func197 R Tryz.ntmps197 R R (fun C=>?_) R R
 refine .seq (.reg (.op (O.box 0 R Z R R R) R (.sa R (.nil (.seqN (.seq ?_))))))
 refine .sub (τ:=⟨[(3,.q 0 0),(1,.f qI p1),(2,.f qI p2)],[(0,.bx 35 [lF qI p0.1,lI p0.2.1,lF qI p0.2.2.1,lF qT p0.2.2.2])],1⟩) ?_ [] R
 refine bS hm fun x1 ex1 hm=>?_
 refine .drw [(1,[]),(1,[]),(1,[]),(1,[]),(1,[oF,oF,oF,oT]),(1,[oF,oF,oF,oT,oT]),(3,tT 6),(3,tT 7),(4,tT 8)] [_,_,_,_,_,_,_,_,_] ⟨[(7,.q 3 0),(3,.q 0 0),(1,.f qI p1)],[(3,.bx 289 [lF qI p0.1,lI p0.2.1,lF qI p0.2.2.1,lF qT p0.2.2.2,lF qI p2,lH 1,lH 2]),(1,MTB flr3 3 none ([]:List (Int×List Int))),(2,ROW rB 4 x1),(0,.bx 35 [lF qI p0.1,lI p0.2.1,lF qI p0.2.2.1,lF qT p0.2.2.2])],4⟩ ⟨O.lg (l':=[lF qI p0.1,lI p0.2.1,lF qI p0.2.2.1,lF qT p0.2.2.2]) ag35 Z R (.B R) R R R,O.mv Z R R,O.mkM flr3 3 1 R Z R,O.faP y1g Z R R,O.ld nag3 Z R (.B R) R R,O.mk (z:=false) 2 Tryz.underlying144 zr4 R R Z R R ex1 R,O.bu (l:=[lF qI p0.1,lI p0.2.1,lF qI p0.2.2.1,lF qT p0.2.2.2,lF qI p2,lH 1,lH 2]) pl289 R Z R R R,O.box 3 R Z R R R,O.as Z R R,trivial⟩ (by kernel_rfl) R ?_
 refine .seqN (.seq (.seq (.reg (.mv R (.op (O.nc .B Z R R) R (.op (O.faP y5u Z R R) R (.op (O.ld y5H Z R (.B R) R R) R (.op (O.lenH sl144 Z R R R) R (.mv R (.nil (.seqN (.block (bS hm fun o8 eo8 hm=>?_)))))))))))))
 refine .cut1 (z:= .exit 0) o8 (fun (o8:List Bool)=>⟨[(7,.q 0 0),(3,.q 3 0),(1,.f qI p1)],[(0,.bx 289 [lF qI p0.1,lI p0.2.1,lF qI p0.2.2.1,lF qT p0.2.2.2,lF qI p2,lH 1,lH 2]),(1,MTB flr3 3 none ([]:List (Int×List Int))),(2,ROW rB 4 o8),(3,.bx 35 [lF qI p0.1,lI p0.2.1,lF qI p0.2.2.1,lF qT p0.2.2.2])],4⟩) ?_ fun K10=>?_
 ·skip
  refine .blkE (.seqN (.seq (.seq (.reg (.mv R (.op (O.len sl32 Z R R) R (.mv R (.nil (.seqN (.block (bS hm fun o18 eo18 hm=>?_)))))))))))
  refine .cut1 (z:= .exit 2) o18 (fun (o18:List Bool)=>⟨[(7,.q 0 0),(3,.q 3 0)],[(0,.bx 289 [lF qI p0.1,lI p0.2.1,lF qI p0.2.2.1,lF qT p0.2.2.2,lF qI p2,lH 1,lH 2]),(1,MTB flr3 3 none ([]:List (Int×List Int))),(2,ROW rB 4 o18),(3,.bx 35 [lF qI p0.1,lI p0.2.1,lF qI p0.2.2.1,lF qT p0.2.2.2])],4⟩) ?_ fun K20=>?_
  ·skip
   refine .blkE (.seqN (.seq (.seq (.reg (.op (O.faP yG Z R R) R (.op (O.ld nag33 Z R (.B R) R R) R (.op (O.len sl33 Z R R) R (.mv R (.nil (.seqN (.block (bS hm fun o27 eo27 hm=>?_))))))))))))
   refine .cut1 (z:= .exit 4) o27 (fun (o27:(List (Int×List Int)))=>⟨[(7,.q 0 0)],[(0,.bx 289 [lF qI p0.1,lI p0.2.1,lF qI p0.2.2.1,lF qT p0.2.2.2,lF qI p2,lH 1,lH 2]),(1,MTB flr3 3 none o27),(2,ROW rB 4 o18)],3⟩) ?_ fun K29=>?_
   ·skip
    refine .blkE (.seqN (.seq (.reg (.mv R (.sa R (.nil (.seqN (.ret (.fz 1 [] [0] R R fMt R R ?_)))))))))
    obtain rfl:=oi hm
    exact WX.rt [0,2] (.inl R) Tryz.results197 (.tmp R .nil) R (fun _ _ _ h=>h) ⟨⟨_,R,fun _ _ _ _ h=>h⟩,⟨_,R,fun _ _ _ _ h=>h⟩,trivial⟩
   refine .iter (fun (st27:Int×(List (Int×List Int)))=>⟨[(52,.i st27.1),(51,.i (p0.2.2.2.length:Int)),(50,.f qT p0.2.2.2),(7,.q 0 0)],[(0,.bx 289 [lF qI p0.1,lI p0.2.1,lF qI p0.2.2.1,lF qT p0.2.2.2,lF qI p2,lH 1,lH 2]),(1,MTB flr3 3 none st27.2),(2,ROW rB 4 o18)],3⟩) eo27 [] R ?_
   intro st27 res27 hm ih27 ho27
   unfold y4t at hm
   refine .seq (.reg (.bi R (.nil (.seqN (.seq ?_)))))
   rcases ifS hm with ⟨hc,hm⟩ | ⟨hc,hm⟩
   ·refine .cT R hc ?_
    refine .skip (.seqN (.seq (.block (.seq (.reg (bS hm fun x30 ex30 hm=> .op (O.ix sl33 Z R R ex30 R) R (.op (O.lg (l':=[lI x30.1,lI x30.2.1,lI x30.2.2]) ag124 Z R (.E lv124) R R R) R (.op (O.al 3 R zz124 R Z R) R (.op (O.st ag124.sz Z R R R R R) R (.nil (.seqN ?_)))))))))))
    refine .sub (τ:=⟨[(12,.q 3 0),(52,.i st27.1),(51,.i (p0.2.2.2.length:Int)),(50,.f qT p0.2.2.2),(7,.q 0 0)],[(3,.bx 124 [lI x30.1,lI x30.2.1,lI x30.2.2]),(0,.bx 289 [lF qI p0.1,lI p0.2.1,lF qI p0.2.2.1,lF qT p0.2.2.2,lF qI p2,lH 1,lH 2]),(1,MTB flr3 3 none st27.2),(2,ROW rB 4 o18)],4⟩) ?_ [] R
    refine bS hm fun x31 ex31 hm=>?_
    refine .drz 6 [(12,1),(12,4),(16,5)] [(4,[],[1],[]),(4,[oT],[1],[]),(4,[oT,oT],[1],[]),(4,[oT,oT,oT],[1],[]),(4,[],[1],[]),(4,[oF,oF,oF,oF,oT],[1],[]),(4,[],[],[]),(4,[oF,oF,oF,oF,oF,oF,oT],[],[]),(4,[oF,oF,oF,oF,oF,oF,oT,oT],[],[]),(4,[oF,oF,oF,oF,oF,oF,oT,oT,oT],[],[]),(4,[],[],[]),(4,[oF,oF,oF,oF,oF,oF,oF,oF,oF,oF,oT],[],[]),(4,[oF,oF,oF,oF,oF,oF,oT,oT,oT,oT,oT,oT],[],[]),(4,[],[1],[]),(4,[oF,oF,oF,oF,oF,oF,oF,oF,oF,oF,oF,oF,oF,oT],[1],[]),(4,[oF,oF,oF,oF,oF,oF,oF,oF,oF,oF,oF,oF,oF,oT,oT],[1],[]),(5,[oF,oF,oF,oF,oF,oF,oT,oT,oT,oT,oT,oT,oT,oT,oT,oT],[],[]),(6,[oT,oT,oT,oT,oT,oT,oT,oT,oT,oT,oT,oT,oT,oT,oT,oT,oT],[],[(12,4)])] [_,_,_,_,_,_,_,_,_,_,_,_,_,_,_,_,_,_] ⟨[(52,.i st27.1),(51,.i (p0.2.2.2.length:Int)),(50,.f qT p0.2.2.2),(7,.q 0 0)],[(0,.bx 289 [lF qI p0.1,lI p0.2.1,lF qI p0.2.2.1,lF qT p0.2.2.2,lF qI p2,lH 1,lH 2]),(1,MTB flr3 3 none (kput st27.2 x30.2.2 x31)),(2,ROW rB 4 o18)],6⟩ ⟨O.mv Z R R,O.nc .B Z R R,O.faP yba Z R R,O.ld yc6 Z R (.B R) R R,O.faP y2W Z R R,O.ld nag3 Z R (.B R) R R,O.mv Z R R,O.nc .B Z R R,O.faP yba Z R R,O.ld yc6 Z R (.B R) R R,O.faP y2W Z R R,O.ld nag3 Z R (.B R) R R,O.luM (k:=x30.2.2) 4 ydS R Z R R (.o R) R,O.faP y1W Z R R,O.ld nag3 Z R (.B R) R R,O.bsF (r:=qI) (zs:=([x30.1]:List Int)) bs32 R R Z R R R (.c .k .n) R R R,O.ap 5 Tryz.underlying32 el3 R R Z R R (.fr R) ex31 R,O.muM (k:=x30.2.2) ydS Z R R (.o R) R R R (fun _ e=>by cases e;rfl),trivial⟩ (by kernel_rfl) R ?_
    exact .blkN (.seqN (.reg (.bi R (.mv R (.nil ((ih27 _ (oi hm).symm).sub [] R))))))
   ·refine .cF R hc ?_
    exact .exit (.seqX (.seqX ((K29 _ (ho27 _ (oi hm).symm)).sub [] R)))
  refine .iter (fun (st18:Int×List Bool)=>⟨[(38,.i st18.1),(37,.i (p1.length:Int)),(36,.f qI p1),(7,.q 0 0),(3,.q 3 0)],[(0,.bx 289 [lF qI p0.1,lI p0.2.1,lF qI p0.2.2.1,lF qT p0.2.2.2,lF qI p2,lH 1,lH 2]),(1,MTB flr3 3 none ([]:List (Int×List Int))),(2,ROW rB 4 st18.2),(3,.bx 35 [lF qI p0.1,lI p0.2.1,lF qI p0.2.2.1,lF qT p0.2.2.2])],4⟩) eo18 [] R ?_
  intro st18 res18 hm ih18 ho18
  unfold y4u at hm
  refine .seq (.reg (.bi R (.nil (.seqN (.seq ?_)))))
  rcases ifS hm with ⟨hc,hm⟩ | ⟨hc,hm⟩
  ·refine .cT R hc ?_
   exact .skip (.seqN (.seq (.block (.seq (.reg (bS hm fun x32 ex32 hm=> .op (O.ix sl32 Z R R ex32 R) R (.op (O.ld nag3 Z R (.E lv3) R R) R (.sa R (.nil (.seqN (.reg (.mv R (.op (O.nc .B Z R R) R (.op (O.faP y5u Z R R) R (.op (O.ld y5H Z R (.B R) R R) R (.mv R (bS hm fun x33 ex33 hm=> .op (O.ir sl144 Z R R R ex33 R) R (bS hm fun x34 ex34 hm=> .op (O.su (z:=false) nag4.sz Z R R ex33 ex34 R R R lv4 R .b) R (.nil (.blkN (.seqN (.reg (.bi R (.mv R (.nil ((ih18 _ (oi hm).symm).sub [] R))))))))))))))))))))))))))
  ·refine .cF R hc ?_
   exact .exit (.seqX (.seqX ((K20 _ (ho18 _ (oi hm).symm)).sub [] R)))
 refine .iter (fun (st8:Int×List Bool)=>⟨[(26,.i st8.1),(25,.i (x1.length:Int)),(7,.q 0 0),(3,.q 3 0),(1,.f qI p1)],[(0,.bx 289 [lF qI p0.1,lI p0.2.1,lF qI p0.2.2.1,lF qT p0.2.2.2,lF qI p2,lH 1,lH 2]),(1,MTB flr3 3 none ([]:List (Int×List Int))),(2,ROW rB 4 st8.2),(3,.bx 35 [lF qI p0.1,lI p0.2.1,lF qI p0.2.2.1,lF qT p0.2.2.2])],4⟩) eo8 [(0,3),(3,0)] R ?_
 intro st8 res8 hm ih8 ho8
 unfold y3w at hm
 refine .seq (.reg (.bi R (.nil (.seqN (.seq ?_)))))
 rcases ifS hm with ⟨hc,hm⟩ | ⟨hc,hm⟩
 ·refine .cT R hc ?_
  exact .skip (.seqN (.seq (.block (.seq (.reg (.mv R (.sa R (.nil (.seqN (.reg (.mv R (.op (O.nc .B Z R R) R (.op (O.faP y5u Z R R) R (.op (O.ld y5H Z R (.B R) R R) R (.mv R (bS hm fun x35 ex35 hm=> .op (O.ir sl144 Z R R R ex35 R) R (bS hm fun x36 ex36 hm=> .op (O.su (z:=true) nag4.sz Z R R ex35 ex36 R R R lv4 R .b) R (.nil (.blkN (.seqN (.reg (.bi R (.mv R (.nil ((ih8 _ (oi hm).symm).sub [] R)))))))))))))))))))))))))
 ·refine .cF R hc ?_
  exact .exit (.seqX (.seqX ((K10 _ (ho8 _ (oi hm).symm)).sub [] R)))
def y1b (st23:Int×(List (Int×Int×Int×Int))) (l26:List (Int×Int×Int×Int)):Option ((Int×(List (Int×Int×Int×Int))) ⊕ (List (Int×Int×Int×Int))):=
 some (.inl (W (st23.1 + 1),l26))
def y1s (p1:Int) (st23:Int×(List (Int×Int×Int×Int))) (x28:Int×Int×Int) (b31:Bool):Option ((Int×(List (Int×Int×Int×Int))) ⊕ (List (Int×Int×Int×Int))):=
 if b31 then
  y1b st23 st23.2
 else
  (app st23.2 ([(x28.1,p1,2,x28.2.1)]:List (Int×Int×Int×Int))).bind fun x33=>
  y1b st23 x33
def yC (p1:Int) (st23:Int×(List (Int×Int×Int×Int))) (x28:Int×Int×Int) (b29:Bool):Option ((Int×(List (Int×Int×Int×Int))) ⊕ (List (Int×Int×Int×Int))):=
 if b29 then
  y1b st23 st23.2
 else
  if decide ((st23.2.length:Int) > 0) then
   (idx st23.2 (W ((st23.2.length:Int) - 1))).bind fun x36=>
   y1s p1 st23 x28 (x36.1 == x28.1)
  else
   y1s p1 st23 x28 false
def y2p (p0:AutT×List Int×(List (Int×List Int))×List Bool) (p1:Int) (st23:Int×(List (Int×Int×Int×Int))):Option ((Int×(List (Int×Int×Int×Int))) ⊕ (List (Int×Int×Int×Int))):=
 if decide (st23.1 < (p0.1.2.2.2.length:Int)) then
  (idx p0.1.2.2.2 st23.1).bind fun x28=>
  (idx p0.2.2.2 x28.1).bind fun x37=>
  if(!x37) then
   yC p1 st23 x28 true
  else
   (idx p0.2.2.2 x28.2.2).bind fun x40=>
   if x40 then
    yC p1 st23 x28 true
   else
    (yA p0.2.1 x28.2.1).bind fun r43=>
    yC p1 st23 x28 (!r43)
 else
  some (.inr st23.2)
def y3n (p0:AutT×List Int×(List (Int×List Int))×List Bool) (p1:Int):Option (List (Int×Int×Int×Int)):=
 (iter (y2p p0 p1) (0,([]:List (Int×Int×Int×Int)))).bind fun o23=>
 some o23
theorem y7t {p0:AutT×List Int×(List (Int×List Int))×List Bool} {p1:Int} {r:(List (Int×Int×Int×Int))} (hm:y3n p0 p1=some r):
  Fw Tryz.prog 231 ⟨0,[]⟩ [.o (lQ 289 [lF qI p0.1.1,lI p0.1.2.1,lF qI p0.1.2.2.1,lF qT p0.1.2.2.2,lF qI p0.2.1,lM kvI (rL qI) p0.2.2.1,lF rB p0.2.2.2] 0),.i p1] [] (.h 0) [ROW rE286 286 r]:=by
 unfold y3n at hm
 refine Fw.mk' Tryz.func231 R Tryz.ntmps231 R R (fun C=>?_) R R
 refine .seq (.reg (.sa R (.nil (.seqN (.seq (.reg (.sa R (.nil (.seqN (.seq (.seq (.reg (.mv R (.op (O.nc .Q Z R R) R (.op (O.faQ y6w Z R R) R (.op (O.faQ yG Z R R) R (.op (O.ld nag33 Z R .Q R R) R (.op (O.len sl33 Z R R) R (.mv R (.nil (.seqN (.block (bS hm fun o23 eo23 hm=>?_)))))))))))))))))))))))
 refine .cut1 (z:= .exit 0) o23 (fun (o23:(List (Int×Int×Int×Int)))=>⟨[(5,.h 0)],[(0,ROW rE286 286 o23)],1⟩) ?_ fun K25=>?_
 ·skip
  refine .blkE (.seqN (.seq (.reg (.mv R (.sa R (.nil (.seqN (.ret ?_))))))))
  obtain rfl:=oi hm
  exact WX.rt [0] (.inl R) Tryz.results231 (.tmp R .nil) R (fun _ _ _ h=>h) ⟨⟨_,R,fun _ _ _ _ h=>h⟩,trivial⟩
 refine .nlg rE286 286 5 0 R R (.iter (fun (st23:Int×(List (Int×Int×Int×Int)))=>⟨[(15,.i st23.1),(14,.i (p0.1.2.2.2.length:Int)),(13,.f qT p0.1.2.2.2),(5,.h 0),(0,.o (lQ 289 [lF qI p0.1.1,lI p0.1.2.1,lF qI p0.1.2.2.1,lF qT p0.1.2.2.2,lF qI p0.2.1,lM kvI (rL qI) p0.2.2.1,lF rB p0.2.2.2] 0)),(1,.i p1)],[(0,ROW rE286 286 st23.2)],1⟩) eo23 [] R ?_)
 intro st23 res23 hm ih23 ho23
 unfold y2p at hm
 refine .seq (.reg (.bi R (.nil (.seqN (.seq ?_)))))
 rcases ifS hm with ⟨hc,hm⟩ | ⟨hc,hm⟩
 ·refine .cT R hc ?_
  refine .skip (.seqN ?_)
  refine .join1 (fun (l26:List (Int×Int×Int×Int))=>y1b st23 l26=some res23) (fun l26=>⟨[(15,.i st23.1),(14,.i (p0.1.2.2.2.length:Int)),(13,.f qT p0.1.2.2.2),(5,.h 0),(0,.o (lQ 289 [lF qI p0.1.1,lI p0.1.2.1,lF qI p0.1.2.2.1,lF qT p0.1.2.2.2,lF qI p0.2.1,lM kvI (rL qI) p0.2.2.1,lF rB p0.2.2.2] 0)),(1,.i p1)],[(0,ROW rE286 286 l26)],1⟩) ?_ ?_
  ·intro l26 hm
   unfold y1b at hm
   exact .reg (.bi R (.mv R (.nil ((ih23 _ (oi hm).symm).sub [] R))))
  ·intro Jj27
   refine .block (.seq (.reg (bS hm fun x28 ex28 hm=> .op (O.ix sl33 Z R R ex28 R) R (.op (O.lg (l':=[lI x28.1,lI x28.2.1,lI x28.2.2]) ag124 Z R (.E lv124) R R R) R (.op (O.al 1 R zz124 R Z R) R (.op (O.st ag124.sz Z R R R R R) R (.nil (.seqN (.seq ?_)))))))))
   refine .join1 (fun (b29:Bool)=>yC p1 st23 x28 b29=some res23) (fun b29=>⟨[(47,.b b29),(7,.q 0 0),(15,.i st23.1),(14,.i (p0.1.2.2.2.length:Int)),(13,.f qT p0.1.2.2.2),(5,.h 1),(0,.o (lQ 289 [lF qI p0.1.1,lI p0.1.2.1,lF qI p0.1.2.2.1,lF qT p0.1.2.2.2,lF qI p0.2.1,lM kvI (rL qI) p0.2.2.1,lF rB p0.2.2.2] 0)),(1,.i p1)],[(0,.bx 124 [lI x28.1,lI x28.2.1,lI x28.2.2]),(1,ROW rE286 286 st23.2)],2⟩) ?_ ?_
   ·intro b29 hm
    unfold yC at hm
    rcases ifS hm with ⟨hc,hm⟩ | ⟨hc,hm⟩
    ·refine .cT R hc ?_
     exact .exit (.seqX (.blkE ((Jj27 _ hm).sub [(0,1)] R)))
    ·refine .cF R hc ?_
     refine .skip (.seqN (.seq (.seq (.reg (.mv R (.op (O.lenH sl127 Z R R R) R (.sa R (.nil (.seqN ?_)))))))))
     refine .join1 (fun (b31:Bool)=>y1s p1 st23 x28 b31=some res23) (fun b31=>⟨[(62,.b b31),(7,.q 0 0),(15,.i st23.1),(14,.i (p0.1.2.2.2.length:Int)),(13,.f qT p0.1.2.2.2),(5,.h 1),(0,.o (lQ 289 [lF qI p0.1.1,lI p0.1.2.1,lF qI p0.1.2.2.1,lF qT p0.1.2.2.2,lF qI p0.2.1,lM kvI (rL qI) p0.2.2.1,lF rB p0.2.2.2] 0)),(1,.i p1)],[(0,.bx 124 [lI x28.1,lI x28.2.1,lI x28.2.2]),(1,ROW rE286 286 st23.2)],2⟩) ?_ ?_
     ·intro b31 hm
      unfold y1s at hm
      rcases ifS hm with ⟨hc,hm⟩ | ⟨hc,hm⟩
      ·refine .cT R hc ?_
       exact .exit (.seqX (.blkE ((Jj27 _ hm).sub [(0,1)] R)))
      ·refine .cF R hc ?_
       exact .skip (.seqN (.reg (.mv R (.op (O.faP y1W Z R R) R (.op (O.ld nag3 Z R (.B R) R R) R (.mv R (.op (O.faP y4L Z R R) R (.op (O.ld nag3 Z R (.B R) R R) R (.op (O.bu (l:=[lI x28.1,lI p1,lI 2,lI x28.2.1]) pl286 R Z R R R) R (.op (O.bsF (r:=rE286) (zs:=([(x28.1,p1,2,x28.2.1)]:List (Int×Int×Int×Int))) bs127 R R Z R R R (.c (.p .k (.p .k (.p .k .k))) .n) R R R) R (bS hm fun x33 ex33 hm=> .op (O.ap 2 Tryz.underlying127 el286 R R Z R R (.fr R) ex33 R) R (.sa R (.nil (.blkN ((Jj27 _ hm).sub [(0,2)] R)))))))))))))))
     ·intro Jj32
      refine .sub (τ:=⟨[(8,.i (st23.2.length:Int)),(7,.q 0 0),(15,.i st23.1),(14,.i (p0.1.2.2.2.length:Int)),(13,.f qT p0.1.2.2.2),(5,.h 1),(0,.o (lQ 289 [lF qI p0.1.1,lI p0.1.2.1,lF qI p0.1.2.2.1,lF qT p0.1.2.2.2,lF qI p0.2.1,lM kvI (rL qI) p0.2.2.1,lF rB p0.2.2.2] 0)),(1,.i p1)],[(0,.bx 124 [lI x28.1,lI x28.2.1,lI x28.2.2]),(1,ROW rE286 286 st23.2)],2⟩) ?_ [] R
      refine .drP 2 [(2,[]),(2,[oT])] [_,_] ⟨O.mv Z R R,O.bi Z R R R R,trivial⟩ fun hp34=>?_
      rcases ifS hm with ⟨hc35,hm⟩ | ⟨hc35,hm⟩
      ·skip
       exact bS hm fun x36 ex36 hm=> .drF hp34 [(2,[oT,oT]),(2,tT 3),(2,tT 3),(2,tA 3 (fA 1 (tT 1))),(2,tT 6),(2,tT 7),(2,tT 8),(2,tT 3),(2,tA 3 (fA 6 (tT 1))),(2,tT 11),(2,tT 12)] [_,_,_,_,_,_,_,_,_,_,_] ⟨[(62,.b (x36.1 == x28.1)),(7,.q 0 0),(15,.i st23.1),(14,.i (p0.1.2.2.2.length:Int)),(13,.f qT p0.1.2.2.2),(5,.h 1),(0,.o (lQ 289 [lF qI p0.1.1,lI p0.1.2.1,lF qI p0.1.2.2.1,lF qT p0.1.2.2.2,lF qI p0.2.1,lM kvI (rL qI) p0.2.2.1,lF rB p0.2.2.2] 0)),(1,.i p1)],[(0,.bx 124 [lI x28.1,lI x28.2.1,lI x28.2.2]),(1,ROW rE286 286 st23.2)],2⟩ ⟨O.kn (O.mv Z R R) hc35,O.mv (Gu.mk R R) R R,O.mv (Gu.mk R R) R R,O.bi (Gu.mk R R) R R R R,O.ir sl127 (Gu.mk R R) R R R ex36 R,O.faR ycM (Gu.mk R R) R R,O.ld nag3 (Gu.mk R R) R (.R R ex36 lv286) R R,O.faP y1W (Gu.mk R R) R R,O.ld nag3 (Gu.mk R R) R (.B R) R R,O.bi (Gu.mk R R) R R R R,O.pkT Z R R R R,trivial⟩ (by kernel_rfl) R ((Jj32 _ hm).sub [] R)
      ·skip
       exact .drF hp34 [(2,[oT,oT]),(2,tT 3),(2,tT 3),(2,tA 3 (fA 1 (tT 1))),(2,tT 6),(2,tT 7),(2,tT 8),(2,tT 3),(2,tA 3 (fA 6 (tT 1))),(2,tT 11),(2,tT 12)] [_,_,_,_,_,_,_,_,_,_,_] ⟨[(62,.b false),(7,.q 0 0),(15,.i st23.1),(14,.i (p0.1.2.2.2.length:Int)),(13,.f qT p0.1.2.2.2),(5,.h 1),(0,.o (lQ 289 [lF qI p0.1.1,lI p0.1.2.1,lF qI p0.1.2.2.1,lF qT p0.1.2.2.2,lF qI p0.2.1,lM kvI (rL qI) p0.2.2.1,lF rB p0.2.2.2] 0)),(1,.i p1)],[(0,.bx 124 [lI x28.1,lI x28.2.1,lI x28.2.2]),(1,ROW rE286 286 st23.2)],2⟩ ⟨O.kn (O.mv Z R R) hc35,O.skip R R R R,O.skip R R R R,O.skip R R R R,O.skip R R R R,O.skip R R R R,O.skip R R R R,O.skip R R R R,O.skip R R R R,O.skip R R R R,O.pkF Z R R R R,trivial⟩ (by kernel_rfl) R ((Jj32 _ hm).sub [] R)
   ·intro Jj30
    refine .sub (τ:=⟨[(7,.q 1 0),(15,.i st23.1),(14,.i (p0.1.2.2.2.length:Int)),(13,.f qT p0.1.2.2.2),(5,.h 0),(0,.o (lQ 289 [lF qI p0.1.1,lI p0.1.2.1,lF qI p0.1.2.2.1,lF qT p0.1.2.2.2,lF qI p0.2.1,lM kvI (rL qI) p0.2.2.1,lF rB p0.2.2.2] 0)),(1,.i p1)],[(1,.bx 124 [lI x28.1,lI x28.2.1,lI x28.2.2]),(0,ROW rE286 286 st23.2)],2⟩) ?_ [] R
    refine bS hm fun x37 ex37 hm=> .drP 9 [(2,[]),(2,[oT]),(2,[oT,oT]),(2,tT 3),(2,[]),(2,[oF,oF,oF,oF,oT]),(2,tT 6),(2,tT 7),(2,tT 8)] [_,_,_,_,_,_,_,_,_] ⟨O.mv Z R R,O.nc .Q Z R R,O.faQ y5u Z R R,O.ld y5H Z R .Q R R,O.faP y1W Z R R,O.ld nag3 Z R (.B R) R R,O.ix sl144 Z R R ex37 R,O.ld nag4 Z R (.E lv4) R R,O.not Z R R,trivial⟩ fun hp38=>?_
    rcases ifS hm with ⟨hc39,hm⟩ | ⟨hc39,hm⟩
    ·skip
     exact .drF hp38 [(2,tT 9),(2,tT 10),(2,tT 11),(2,tT 12),(2,tT 13),(2,tT 10),(2,tA 10 (fA 4 (tT 1))),(2,tT 16),(2,tT 17),(2,tT 18),(2,tT 19),(2,tT 20),(2,tT 21),(2,tT 22),(2,tT 23),(2,tT 20),(2,tA 20 (fA 4 (tT 1))),(2,tT 26),(2,tT 27),(2,tT 28)] [_,_,_,_,_,_,_,_,_,_,_,_,_,_,_,_,_,_,_,_] ⟨[(47,.b true),(7,.q 1 0),(15,.i st23.1),(14,.i (p0.1.2.2.2.length:Int)),(13,.f qT p0.1.2.2.2),(5,.h 0),(0,.o (lQ 289 [lF qI p0.1.1,lI p0.1.2.1,lF qI p0.1.2.2.1,lF qT p0.1.2.2.2,lF qI p0.2.1,lM kvI (rL qI) p0.2.2.1,lF rB p0.2.2.2] 0)),(1,.i p1)],[(1,.bx 124 [lI x28.1,lI x28.2.1,lI x28.2.2]),(0,ROW rE286 286 st23.2)],2⟩ ⟨O.kn (O.mv Z R R) hc39,O.skip R R R R,O.skip R R R R,O.skip R R R R,O.skip R R R R,O.skip R R R R,O.skip R R R R,O.skip R R R R,O.skip R R R R,O.pkT Z R R R R,O.mv Z R R,O.skip R R R R,O.skip R R R R,O.skip R R R R,O.skip R R R R,O.skip R R R R,O.skip R R R R,O.skip R R R R,O.skip R R R R,O.pkT Z R R R R,trivial⟩ (by kernel_rfl) R ((Jj30 _ hm).sub [(0,1),(1,0)] R)
    ·skip
     refine bS hm fun x40 ex40 hm=> .drX hp38 19 [(2,tT 9),(2,tT 10),(2,tT 11),(2,tT 12),(2,tT 13),(2,tT 10),(2,tA 10 (fA 4 (tT 1))),(2,tT 16),(2,tT 17),(2,tT 18)] [_,_,_,_,_,_,_,_,_,_] ⟨O.kn (O.mv Z R R) hc39,O.mv (Gu.mk R R) R R,O.nc .Q (Gu.mk R R) R R,O.faQ y5u (Gu.mk R R) R R,O.ld y5H (Gu.mk R R) R .Q R R,O.faP y2W (Gu.mk R R) R R,O.ld nag3 (Gu.mk R R) R (.B R) R R,O.ix sl144 (Gu.mk R R) R R ex40 R,O.ld nag4 (Gu.mk R R) R (.E lv4) R R,O.pkF Z R R R R,trivial⟩ (by kernel_rfl) fun hp41=>?_
     rcases ifS hm with ⟨hc42,hm⟩ | ⟨hc42,hm⟩
     ·skip
      exact .drF hp41 [(2,tT 19),(2,tT 20),(2,tT 21),(2,tT 22),(2,tT 23),(2,tT 20),(2,tA 20 (fA 4 (tT 1))),(2,tT 26),(2,tT 27),(2,tT 28)] [_,_,_,_,_,_,_,_,_,_] ⟨[(47,.b true),(7,.q 1 0),(15,.i st23.1),(14,.i (p0.1.2.2.2.length:Int)),(13,.f qT p0.1.2.2.2),(5,.h 0),(0,.o (lQ 289 [lF qI p0.1.1,lI p0.1.2.1,lF qI p0.1.2.2.1,lF qT p0.1.2.2.2,lF qI p0.2.1,lM kvI (rL qI) p0.2.2.1,lF rB p0.2.2.2] 0)),(1,.i p1)],[(1,.bx 124 [lI x28.1,lI x28.2.1,lI x28.2.2]),(0,ROW rE286 286 st23.2)],2⟩ ⟨O.kn (O.mv Z R R) hc42,O.skip R R R R,O.skip R R R R,O.skip R R R R,O.skip R R R R,O.skip R R R R,O.skip R R R R,O.skip R R R R,O.skip R R R R,O.pkT Z R R R R,trivial⟩ (by kernel_rfl) R ((Jj30 _ hm).sub [(0,1),(1,0)] R)
     ·skip
      exact bS hm fun r43 er43 hm=> .drF hp41 [(2,tT 19),(2,tT 20),(2,tT 21),(2,tT 22),(2,tT 23),(2,tT 20),(2,tA 20 (fA 4 (tT 1))),(2,tT 26),(2,tT 27),(2,tT 28)] [_,_,_,_,_,_,_,_,_,_] ⟨[(47,.b (!r43)),(7,.q 1 0),(15,.i st23.1),(14,.i (p0.1.2.2.2.length:Int)),(13,.f qT p0.1.2.2.2),(5,.h 0),(0,.o (lQ 289 [lF qI p0.1.1,lI p0.1.2.1,lF qI p0.1.2.2.1,lF qT p0.1.2.2.2,lF qI p0.2.1,lM kvI (rL qI) p0.2.2.1,lF rB p0.2.2.2] 0)),(1,.i p1)],[(1,.bx 124 [lI x28.1,lI x28.2.1,lI x28.2.2]),(0,ROW rE286 286 st23.2)],2⟩ ⟨O.kn (O.mv Z R R) hc42,O.mv (Gu.mk R R) R R,O.nc .Q (Gu.mk R R) R R,O.faQ yfv (Gu.mk R R) R R,O.ld nag32 (Gu.mk R R) R .Q R R,O.faP y4L (Gu.mk R R) R R,O.ld nag3 (Gu.mk R R) R (.B R) R R,O.ca0 (y2t er43) cf104 R R (Gu.mk R R) R R R,O.not (Gu.mk R R) R R,O.pkF Z R R R R,trivial⟩ (by kernel_rfl) R ((Jj30 _ hm).sub [(0,1),(1,0)] R)
 ·refine .cF R hc ?_
  exact .exit (.seqX (.seqX ((K25 _ (ho23 _ (oi hm).symm)).sub [] R)))
def yU (st98:Int×List Int×List Int) (l102:List Int) (l103:List Int):Option ((Int×List Int×List Int) ⊕ (List Int×List Int)):=
 some (.inl (W (st98.1 + 1),l102,l103))
def yV (p0:AutT×List Int×(List (Int×List Int))×List Bool) (st74:Int×List Int×List Int) (x77:Int) (st98:Int×List Int×List Int):Option ((Int×List Int×List Int) ⊕ (List Int×List Int)):=
 if decide (st98.1 < (((kget p0.2.2.1 x77).getD []).length:Int)) then
  (idx ((kget p0.2.2.1 x77).getD []) st98.1).bind fun x105=>
  (idx p0.2.2.2 x105).bind fun x106=>
  (if x106 then
   (idx st98.2.2 x105).bind fun x115=>
   some (decide (x115 < 0))
  else
   some false).bind fun b107=>
  if b107 then
   (idx st98.2.1 st74.1).bind fun x110=>
   (idx st98.2.2 x110).bind fun x111=>
   (idx st98.2.2 x105).bind fun x112=>
   (upd st98.2.2 x105 (W (x111 + 1))).bind fun x113=>
   (app st98.2.1 ([x105]:List Int)).bind fun x114=>
   yU st98 x114 x113
  else
   yU st98 st98.2.1 st98.2.2
 else
  some (.inr st98.2)
def yW (p0:AutT×List Int×(List (Int×List Int))×List Bool) (st74:Int×List Int×List Int):Option ((Int×List Int×List Int) ⊕ (List Int)):=
 if decide (st74.1 < (st74.2.1.length:Int)) then
  (idx st74.2.1 st74.1).bind fun x77=>
  (iter (yV p0 st74 x77) (0,st74.2)).bind fun o98=>
  some (.inl (W (st74.1 + 1),o98))
 else
  some (.inr st74.2.2)
def yX (st25:Int×List Int×List Int) (l116:List Int) (l117:List Int):Option ((Int×List Int×List Int) ⊕ (List Int×List Int)):=
 some (.inl (W (st25.1 + 1),l116,l117))
def yY (p0:AutT×List Int×(List (Int×List Int))×List Bool) (st25:Int×List Int×List Int):Option ((Int×List Int×List Int) ⊕ (List Int×List Int)):=
 if decide (st25.1 < (p0.1.2.2.1.length:Int)) then
  (idx p0.1.2.2.1 st25.1).bind fun x119=>
  (idx p0.2.2.2 x119).bind fun x120=>
  if x120 then
   (idx st25.2.2 x119).bind fun x121=>
   (upd st25.2.2 x119 0).bind fun x122=>
   (app st25.2.1 ([x119]:List Int)).bind fun x123=>
   yX st25 x123 x122
  else
   yX st25 st25.2.1 st25.2.2
 else
  some (.inr st25.2)
def yZ (x1:List Int) (st8:Int×List Int):Option ((Int×List Int) ⊕ (List Int)):=
 if decide (st8.1 < (x1.length:Int)) then
  (idx st8.2 st8.1).bind fun x124=>
  (upd st8.2 st8.1 (-1)).bind fun x125=>
  some (.inl (W (st8.1 + 1),x125))
 else
  some (.inr st8.2)
def y1i (p0:AutT×List Int×(List (Int×List Int))×List Bool):Option (List Int):=
 (mkL p0.1.2.1 (0:Int)).bind fun x1=>
 (iter (yZ x1) (0,x1)).bind fun o8=>
 (iter (yY p0) (0,([]:List Int),o8)).bind fun o25=>
 (iter (yW p0) (0,o25)).bind fun o74=>
 some o74
theorem y5r {p0:AutT×List Int×(List (Int×List Int))×List Bool} {r:List Int} (hm:y1i p0=some r):
  Fw Tryz.prog 201 ⟨0,[]⟩ [.o (lQ 289 [lF qI p0.1.1,lI p0.1.2.1,lF qI p0.1.2.2.1,lF qT p0.1.2.2.2,lF qI p0.2.1,lM kvI (rL qI) p0.2.2.1,lF rB p0.2.2.2] 0)] [] (.h 0) [ROW qI 3 r]:=by
 unfold y1i at hm
 refine Fw.mk' Tryz.func201 R Tryz.ntmps201 R R (fun C=>?_) R R
 refine .seq (.reg (.sa R (.nil (.seqN (.seq (.reg (.mv R (.op (O.nc .Q Z R R) R (.op (O.faQ y6w Z R R) R (.op (O.faQ y1g Z R R) R (.op (O.ld nag3 Z R .Q R R) R (bS hm fun x1 ex1 hm=> .op (O.mk (z:=(0:Int)) 0 Tryz.underlying32 zr3 R R Z R R ex1 R) R (.sa R (.nil (.seqN (.seq (.seq (.reg (.mv R (.op (O.lenH sl32 Z R R R) R (.mv R (.nil (.seqN (.block (bS hm fun o8 eo8 hm=>?_)))))))))))))))))))))))))
 refine .cut1 (z:= .exit 0) o8 (fun (o8:List Int)=>⟨[(3,.h 0),(0,.o (lQ 289 [lF qI p0.1.1,lI p0.1.2.1,lF qI p0.1.2.2.1,lF qT p0.1.2.2.2,lF qI p0.2.1,lM kvI (rL qI) p0.2.2.1,lF rB p0.2.2.2] 0))],[(0,ROW qI 3 o8)],1⟩) ?_ fun K10=>?_
 ·skip
  refine .blkE (.seqN (.seq (.reg (.sa R (.nil (.seqN (.seq (.seq (.reg (.mv R (.op (O.nc .Q Z R R) R (.op (O.faQ y6w Z R R) R (.op (O.faQ y3y Z R R) R (.op (O.ld nag32 Z R .Q R R) R (.op (O.len sl32 Z R R) R (.mv R (.nil (.seqN (.block (bS hm fun o25 eo25 hm=>?_))))))))))))))))))))
  refine .cut1 (z:= .exit 2) o25 (fun (o25:List Int×List Int)=>⟨[(5,.h 0),(3,.h 1),(0,.o (lQ 289 [lF qI p0.1.1,lI p0.1.2.1,lF qI p0.1.2.2.1,lF qT p0.1.2.2.2,lF qI p0.2.1,lM kvI (rL qI) p0.2.2.1,lF rB p0.2.2.2] 0))],[(0,ROW qI 3 o25.1),(1,ROW qI 3 o25.2)],2⟩) ?_ fun K28=>?_
  ·skip
   refine .blkE (.seqN (.seq (.seq (.reg (.sa R (.nil (.seqN (.block (bS hm fun o74 eo74 hm=>?_)))))))))
   refine .cut1 (z:= .exit 4) o74 (fun (o74:List Int)=>⟨[(3,.h 0)],[(0,ROW qI 3 o74)],1⟩) ?_ fun K76=>?_
   ·skip
    refine .blkE (.seqN (.seq (.reg (.mv R (.sa R (.nil (.seqN (.ret ?_))))))))
    obtain rfl:=oi hm
    exact WX.rt [0] (.inl R) Tryz.results201 (.tmp R .nil) R (fun _ _ _ h=>h) ⟨⟨_,R,fun _ _ _ _ h=>h⟩,trivial⟩
   refine .iter (fun (st74:Int×List Int×List Int)=>⟨[(8,.i st74.1),(5,.h 0),(3,.h 1),(0,.o (lQ 289 [lF qI p0.1.1,lI p0.1.2.1,lF qI p0.1.2.2.1,lF qT p0.1.2.2.2,lF qI p0.2.1,lM kvI (rL qI) p0.2.2.1,lF rB p0.2.2.2] 0))],[(0,ROW qI 3 st74.2.1),(1,ROW qI 3 st74.2.2)],2⟩) eo74 [] R ?_
   intro st74 res74 hm ih74 ho74
   unfold yW at hm
   refine .seq (.seq (.reg (.mv R (.mv R (.op (O.lenH sl32 Z R R R) R (.bi R (.nil (.seqN ?_))))))))
   rcases ifS hm with ⟨hc,hm⟩ | ⟨hc,hm⟩
   ·refine .cT R hc ?_
    refine .skip (.seqN (.seq (.block (.seq ?_))))
    refine .sub (τ:=⟨[(8,.i st74.1),(5,.h 0),(3,.h 1),(0,.o (lQ 289 [lF qI p0.1.1,lI p0.1.2.1,lF qI p0.1.2.2.1,lF qT p0.1.2.2.2,lF qI p0.2.1,lM kvI (rL qI) p0.2.2.1,lF rB p0.2.2.2] 0))],[(0,ROW qI 3 st74.2.1),(1,ROW qI 3 st74.2.2)],2⟩) ?_ [] R
    refine bS hm fun x77 ex77 hm=>?_
    refine .drw [(2,[]),(2,[oT]),(2,[oT,oT]),(2,tT 3),(2,[]),(2,[]),(2,[oF,oF,oF,oF,oT,oT]),(2,fA 4 (tT 3)),(2,tT 8),(2,tT 9),(2,[])] [_,_,_,_,_,_,_,_,_,_,_] ⟨[(67,.i 0),(66,.i (((kget p0.2.2.1 x77).getD []).length:Int)),(65,.f qI ((kget p0.2.2.1 x77).getD [])),(8,.i st74.1),(5,.h 0),(3,.h 1),(0,.o (lQ 289 [lF qI p0.1.1,lI p0.1.2.1,lF qI p0.1.2.2.1,lF qT p0.1.2.2.2,lF qI p0.2.1,lM kvI (rL qI) p0.2.2.1,lF rB p0.2.2.2] 0))],[(0,ROW qI 3 st74.2.1),(1,ROW qI 3 st74.2.2)],2⟩ ⟨O.mv Z R R,O.nc .Q Z R R,O.faQ yba Z R R,O.ld yc6 Z R .Q R R,O.mv Z R R,O.mv Z R R,O.ir sl32 Z R R R ex77 R,O.ld nag3 Z R (.R R ex77 lv3) R R,O.mlS (k:=x77) yfY Z R (.o R) R,O.len sl32 Z R R,O.mv Z R R,trivial⟩ (by kernel_rfl) R ?_
    refine .seqN (.block (bS hm fun o98 eo98 hm=>?_))
    refine .cut1 (z:= .exit 6) o98 (fun (o98:List Int×List Int)=>⟨[(8,.i st74.1),(5,.h 0),(3,.h 1),(0,.o (lQ 289 [lF qI p0.1.1,lI p0.1.2.1,lF qI p0.1.2.2.1,lF qT p0.1.2.2.2,lF qI p0.2.1,lM kvI (rL qI) p0.2.2.1,lF rB p0.2.2.2] 0))],[(0,ROW qI 3 o98.1),(1,ROW qI 3 o98.2)],2⟩) ?_ fun K101=>?_
    ·skip
     exact .blkE (.blkN (.seqN (.reg (.mv R (.bi R (.sa R (.nil ((ih74 _ (oi hm).symm).sub [] R))))))))
    refine .iter (fun (st98:Int×List Int×List Int)=>⟨[(67,.i st98.1),(66,.i (((kget p0.2.2.1 x77).getD []).length:Int)),(65,.f qI ((kget p0.2.2.1 x77).getD [])),(8,.i st74.1),(5,.h 0),(3,.h 1),(0,.o (lQ 289 [lF qI p0.1.1,lI p0.1.2.1,lF qI p0.1.2.2.1,lF qT p0.1.2.2.2,lF qI p0.2.1,lM kvI (rL qI) p0.2.2.1,lF rB p0.2.2.2] 0))],[(0,ROW qI 3 st98.2.1),(1,ROW qI 3 st98.2.2)],2⟩) eo98 [] R ?_
    intro st98 res98 hm ih98 ho98
    unfold yV at hm
    refine .seq (.reg (.bi R (.nil (.seqN (.seq ?_)))))
    rcases ifS hm with ⟨hc,hm⟩ | ⟨hc,hm⟩
    ·refine .cT R hc ?_
     refine .skip (.seqN ?_)
     refine .join2 (fun (l102:List Int) (l103:List Int)=>yU st98 l102 l103=some res98) (fun l102 l103=>⟨[(5,.h 0),(67,.i st98.1),(66,.i (((kget p0.2.2.1 x77).getD []).length:Int)),(65,.f qI ((kget p0.2.2.1 x77).getD [])),(8,.i st74.1),(3,.h 1),(0,.o (lQ 289 [lF qI p0.1.1,lI p0.1.2.1,lF qI p0.1.2.2.1,lF qT p0.1.2.2.2,lF qI p0.2.1,lM kvI (rL qI) p0.2.2.1,lF rB p0.2.2.2] 0))],[(0,ROW qI 3 l102),(1,ROW qI 3 l103)],2⟩) ?_ ?_
     ·intro l102 l103 hm
      unfold yU at hm
      exact .reg (.bi R (.mv R (.nil ((ih98 _ (oi hm).symm).sub [] R))))
     ·intro Jj104
      refine .block (.seq (.reg (bS hm fun x105 ex105 hm=> .op (O.ix sl32 Z R R ex105 R) R (.op (O.ld nag3 Z R (.E lv3) R R) R (.sa R (.nil (.seqN (.seq (.reg (.mv R (.op (O.nc .Q Z R R) R (.op (O.faQ y5u Z R R) R (.op (O.ld y5H Z R .Q R R) R (.mv R (bS hm fun x106 ex106 hm=> .op (O.ix sl144 Z R R ex106 R) R (.op (O.ld nag4 Z R (.E lv4) R R) R (.mv R (bS hm fun b107 eb107 hm=>?_))))))))))))))))))
      refine .cut 6 (fun (v108:Bool)=>b107=v108) (fun v108=>⟨[(84,.b v108),(10,.i x105),(67,.i st98.1),(66,.i (((kget p0.2.2.1 x77).getD []).length:Int)),(65,.f qI ((kget p0.2.2.1 x77).getD [])),(8,.i st74.1),(5,.h 0),(3,.h 1),(0,.o (lQ 289 [lF qI p0.1.1,lI p0.1.2.1,lF qI p0.1.2.2.1,lF qT p0.1.2.2.2,lF qI p0.2.1,lM kvI (rL qI) p0.2.2.1,lF rB p0.2.2.2] 0))],[(0,ROW qI 3 st98.2.1),(1,ROW qI 3 st98.2.2)],2⟩) ?_ ?_
      ·rintro _ rfl
       refine .nil (.seqN ?_)
       rcases ifS hm with ⟨hc,hm⟩ | ⟨hc,hm⟩
       ·refine .cT R hc ?_
        exact .seq (.reg (.mv R (.mv R (.mv R (.mv R (.mv R (bS hm fun x110 ex110 hm=> .op (O.ir sl32 Z R R R ex110 R) R (.op (O.ld nag3 Z R (.R R ex110 lv3) R R) R (bS hm fun x111 ex111 hm=> .op (O.ir sl32 Z R R R ex111 R) R (.op (O.ld nag3 Z R (.R R ex111 lv3) R R) R (.bi R (bS hm fun x112 ex112 hm=> .op (O.ir sl32 Z R R R ex112 R) R (bS hm fun x113 ex113 hm=> .op (O.su (z:=W (x111 + 1)) nag3.sz Z R R ex112 ex113 R R R lv3 R .k) R (.nil (.seqN (.reg (.mv R (.mv R (.op (O.bsF (r:=qI) (zs:=([x105]:List Int)) bs32 R R Z R R R (.c .k .n) R R R) R (bS hm fun x114 ex114 hm=> .op (O.ap 2 Tryz.underlying32 el3 R R Z R R (.fr R) ex114 R) R (.sa R (.nil (.blkN ((Jj104 _ _ hm).sub [(0,2)] R))))))))))))))))))))))))
       ·refine .cF R hc ?_
        exact .skip (.blkN ((Jj104 _ _ hm).sub [] R))
      ·intro J109
       rcases ifS eb107 with ⟨hc,hm⟩ | ⟨hc,hm⟩
       ·refine .know (d:=78) R hc ?_
        exact .op (O.mv (Gu.mk R R) R R) R (.op (O.mv (Gu.mk R R) R R) R (bS hm fun x115 ex115 hm=> .op (O.ir sl32 (Gu.mk R R) R R R ex115 R) R (.op (O.ld nag3 (Gu.mk R R) R (.R R ex115 lv3) R R) R (.op (O.bi (Gu.mk R R) R R R R) R (.op (O.pkT Z R R R R) R ((J109 (decide (x115 < 0)) (oi hm).symm).sub [] R))))))
       ·refine .know (d:=78) R hc ?_
        exact .sk R (.sk R (.sk R (.sk R (.sk R (.op (O.pkF Z R R R R) R ((J109 false (oi hm).symm).sub [] R))))))
    ·refine .cF R hc ?_
     exact .exit (.seqX (.seqX ((K101 _ (ho98 _ (oi hm).symm)).sub [] R)))
   ·refine .cF R hc ?_
    exact .exit (.seqX (.seqX ((K76 _ (ho74 _ (oi hm).symm)).sub [(0,1)] R)))
  refine .nlg qI 3 5 0 R R (.iter (fun (st25:Int×List Int×List Int)=>⟨[(32,.i st25.1),(31,.i (p0.1.2.2.1.length:Int)),(30,.f qI p0.1.2.2.1),(5,.h 0),(3,.h 1),(0,.o (lQ 289 [lF qI p0.1.1,lI p0.1.2.1,lF qI p0.1.2.2.1,lF qT p0.1.2.2.2,lF qI p0.2.1,lM kvI (rL qI) p0.2.2.1,lF rB p0.2.2.2] 0))],[(0,ROW qI 3 st25.2.1),(1,ROW qI 3 st25.2.2)],2⟩) eo25 [(0,1),(1,0)] R ?_)
  intro st25 res25 hm ih25 ho25
  unfold yY at hm
  refine .seq (.reg (.bi R (.nil (.seqN (.seq ?_)))))
  rcases ifS hm with ⟨hc,hm⟩ | ⟨hc,hm⟩
  ·refine .cT R hc ?_
   refine .skip (.seqN ?_)
   refine .join2 (fun (l116:List Int) (l117:List Int)=>yX st25 l116 l117=some res25) (fun l116 l117=>⟨[(5,.h 0),(32,.i st25.1),(31,.i (p0.1.2.2.1.length:Int)),(30,.f qI p0.1.2.2.1),(3,.h 1),(0,.o (lQ 289 [lF qI p0.1.1,lI p0.1.2.1,lF qI p0.1.2.2.1,lF qT p0.1.2.2.2,lF qI p0.2.1,lM kvI (rL qI) p0.2.2.1,lF rB p0.2.2.2] 0))],[(0,ROW qI 3 l116),(1,ROW qI 3 l117)],2⟩) ?_ ?_
   ·intro l116 l117 hm
    unfold yX at hm
    exact .reg (.bi R (.mv R (.nil ((ih25 _ (oi hm).symm).sub [] R))))
   ·intro Jj118
    refine .block (.seq (.reg (bS hm fun x119 ex119 hm=> .op (O.ix sl32 Z R R ex119 R) R (.op (O.ld nag3 Z R (.E lv3) R R) R (.sa R (.nil (.seqN (.seq (.reg (.mv R (.op (O.nc .Q Z R R) R (.op (O.faQ y5u Z R R) R (.op (O.ld y5H Z R .Q R R) R (.mv R (bS hm fun x120 ex120 hm=> .op (O.ix sl144 Z R R ex120 R) R (.op (O.ld nag4 Z R (.E lv4) R R) R (.nil (.seqN ?_))))))))))))))))))
    rcases ifS hm with ⟨hc,hm⟩ | ⟨hc,hm⟩
    ·refine .cT R hc ?_
     exact .seq (.reg (.mv R (.mv R (bS hm fun x121 ex121 hm=> .op (O.ir sl32 Z R R R ex121 R) R (bS hm fun x122 ex122 hm=> .op (O.su (z:=0) nag3.sz Z R R ex121 ex122 R R R lv3 R .k) R (.nil (.seqN (.reg (.mv R (.mv R (.op (O.bsF (r:=qI) (zs:=([x119]:List Int)) bs32 R R Z R R R (.c .k .n) R R R) R (bS hm fun x123 ex123 hm=> .op (O.ap 2 Tryz.underlying32 el3 R R Z R R (.fr R) ex123 R) R (.sa R (.nil (.blkN ((Jj118 _ _ hm).sub [(0,2)] R))))))))))))))))
    ·refine .cF R hc ?_
     exact .skip (.blkN ((Jj118 _ _ hm).sub [] R))
  ·refine .cF R hc ?_
   exact .exit (.seqX (.seqX ((K28 _ (ho25 _ (oi hm).symm)).sub [] R)))
 refine .iter (fun (st8:Int×List Int)=>⟨[(19,.i st8.1),(18,.i (x1.length:Int)),(3,.h 0),(0,.o (lQ 289 [lF qI p0.1.1,lI p0.1.2.1,lF qI p0.1.2.2.1,lF qT p0.1.2.2.2,lF qI p0.2.1,lM kvI (rL qI) p0.2.2.1,lF rB p0.2.2.2] 0))],[(0,ROW qI 3 st8.2)],1⟩) eo8 [] R ?_
 intro st8 res8 hm ih8 ho8
 unfold yZ at hm
 refine .seq (.reg (.bi R (.nil (.seqN (.seq ?_)))))
 rcases ifS hm with ⟨hc,hm⟩ | ⟨hc,hm⟩
 ·refine .cT R hc ?_
  exact .skip (.seqN (.seq (.block (.seq (.reg (.mv R (.sa R (.nil (.seqN (.reg (.mv R (.mv R (bS hm fun x124 ex124 hm=> .op (O.ir sl32 Z R R R ex124 R) R (bS hm fun x125 ex125 hm=> .op (O.su (z:=(-1)) nag3.sz Z R R ex124 ex125 R R R lv3 R .k) R (.nil (.blkN (.seqN (.reg (.bi R (.mv R (.nil ((ih8 _ (oi hm).symm).sub [] R))))))))))))))))))))))
 ·refine .cF R hc ?_
  exact .exit (.seqX (.seqX ((K10 _ (ho8 _ (oi hm).symm)).sub [] R)))
def y1e (st13:Int×(List (Int×Int×Int×Int))) (l16:List (Int×Int×Int×Int)):Option ((Int×(List (Int×Int×Int×Int))) ⊕ (List (Int×Int×Int×Int))):=
 some (.inl (W (st13.1 + 1),l16))
def y1A (p0:AutT×List Int×(List (Int×List Int))×List Bool) (p1:Int) (r1:List Int) (st13:Int×(List (Int×Int×Int×Int))):Option ((Int×(List (Int×Int×Int×Int))) ⊕ (List (Int×Int×Int×Int))):=
 if decide (st13.1 < (r1.length:Int)) then
  (idx r1 st13.1).bind fun x18=>
  (idx p0.2.2.2 st13.1).bind fun x19=>
  if(x19 && (decide (x18 < 0))) then
   (app st13.2 ([(st13.1,p1,3,(-1))]:List (Int×Int×Int×Int))).bind fun x22=>
   y1e st13 x22
  else
   y1e st13 st13.2
 else
  some (.inr st13.2)
def y2q (p0:AutT×List Int×(List (Int×List Int))×List Bool) (p1:Int):Option (List (Int×Int×Int×Int)):=
 (y1i p0).bind fun r1=>
 (iter (y1A p0 p1 r1) (0,([]:List (Int×Int×Int×Int)))).bind fun o13=>
 some o13
theorem y6R {p0:AutT×List Int×(List (Int×List Int))×List Bool} {p1:Int} {r:(List (Int×Int×Int×Int))} (hm:y2q p0 p1=some r):
  Fw Tryz.prog 232 ⟨0,[]⟩ [.o (lQ 289 [lF qI p0.1.1,lI p0.1.2.1,lF qI p0.1.2.2.1,lF qT p0.1.2.2.2,lF qI p0.2.1,lM kvI (rL qI) p0.2.2.1,lF rB p0.2.2.2] 0),.i p1] [] (.h 0) [ROW rE286 286 r]:=by
 unfold y2q at hm
 refine Fw.mk' Tryz.func232 R Tryz.ntmps232 R R (fun C=>?_) R R
 refine .seq (.reg (.sa R (.nil (.seqN (.seq (.reg (.sa R (.nil (.seqN (.seq (.seq (.reg (.mv R (bS hm fun r1 er1 hm=> .op (O.ca (r':= .h 0) [0] [(0,ROW qI 3 r1)] (some 1) (y5r er1) cf201 R R Z R R R R ⟨⟨_,R,fun _ _ _ _ h=>h⟩,trivial⟩ (fun _ _ _ h=>h) R) R (.op (O.lenH sl32 Z R R R) R (.mv R (.nil (.seqN (.block (bS hm fun o13 eo13 hm=>?_))))))))))))))))))))
 refine .cut1 (z:= .exit 0) o13 (fun (o13:(List (Int×Int×Int×Int)))=>⟨[(5,.h 0)],[(0,ROW rE286 286 o13)],1⟩) ?_ fun K15=>?_
 ·skip
  refine .blkE (.seqN (.seq (.reg (.mv R (.sa R (.nil (.seqN (.ret ?_))))))))
  obtain rfl:=oi hm
  exact WX.rt [0] (.inl R) Tryz.results232 (.tmp R .nil) R (fun _ _ _ h=>h) ⟨⟨_,R,fun _ _ _ _ h=>h⟩,trivial⟩
 refine .nlg rE286 286 5 0 R R (.iter (fun (st13:Int×(List (Int×Int×Int×Int)))=>⟨[(11,.i st13.1),(10,.i (r1.length:Int)),(9,.h 0),(5,.h 1),(0,.o (lQ 289 [lF qI p0.1.1,lI p0.1.2.1,lF qI p0.1.2.2.1,lF qT p0.1.2.2.2,lF qI p0.2.1,lM kvI (rL qI) p0.2.2.1,lF rB p0.2.2.2] 0)),(1,.i p1)],[(0,ROW qI 3 r1),(1,ROW rE286 286 st13.2)],2⟩) eo13 [] R ?_)
 intro st13 res13 hm ih13 ho13
 unfold y1A at hm
 refine .seq (.reg (.bi R (.nil (.seqN (.seq ?_)))))
 rcases ifS hm with ⟨hc,hm⟩ | ⟨hc,hm⟩
 ·refine .cT R hc ?_
  refine .skip (.seqN ?_)
  refine .join1 (fun (l16:List (Int×Int×Int×Int))=>y1e st13 l16=some res13) (fun l16=>⟨[(5,.h 0),(11,.i st13.1),(10,.i (r1.length:Int)),(9,.h 1),(0,.o (lQ 289 [lF qI p0.1.1,lI p0.1.2.1,lF qI p0.1.2.2.1,lF qT p0.1.2.2.2,lF qI p0.2.1,lM kvI (rL qI) p0.2.2.1,lF rB p0.2.2.2] 0)),(1,.i p1)],[(0,ROW rE286 286 l16),(1,ROW qI 3 r1)],2⟩) ?_ ?_
  ·intro l16 hm
   unfold y1e at hm
   exact .reg (.bi R (.mv R (.nil ((ih13 _ (oi hm).symm).sub [(0,1),(1,0)] R))))
  ·intro Jj17
   refine .block (.seq (.reg (.mv R (bS hm fun x18 ex18 hm=> .op (O.ir sl32 Z R R R ex18 R) R (.op (O.ld nag3 Z R (.R R ex18 lv3) R R) R (.sa R (.sa R (.nil (.seqN (.seq (.reg (.mv R (.op (O.nc .Q Z R R) R (.op (O.faQ y5u Z R R) R (.op (O.ld y5H Z R .Q R R) R (.mv R (bS hm fun x19 ex19 hm=> .op (O.ix sl144 Z R R ex19 R) R (.op (O.ld nag4 Z R (.E lv4) R R) R (.mv R ?_)))))))))))))))))))
   refine .cut 3 (fun (v20:Bool)=>(x19 && (decide (x18 < 0)))=v20) (fun v20=>⟨[(26,.b v20),(6,.i st13.1),(11,.i st13.1),(10,.i (r1.length:Int)),(9,.h 0),(5,.h 1),(0,.o (lQ 289 [lF qI p0.1.1,lI p0.1.2.1,lF qI p0.1.2.2.1,lF qT p0.1.2.2.2,lF qI p0.2.1,lM kvI (rL qI) p0.2.2.1,lF rB p0.2.2.2] 0)),(1,.i p1)],[(0,ROW qI 3 r1),(1,ROW rE286 286 st13.2)],2⟩) ?_ ?_
   ·rintro _ rfl
    refine .nil (.seqN ?_)
    rcases ifS hm with ⟨hc,hm⟩ | ⟨hc,hm⟩
    ·refine .cT R hc ?_
     exact .reg (.mv R (.mv R (.mv R (.op (O.bu (l:=[lI st13.1,lI p1,lI 3,lI (-1)]) pl286 R Z R R R) R (.op (O.bsF (r:=rE286) (zs:=([(st13.1,p1,3,(-1))]:List (Int×Int×Int×Int))) bs127 R R Z R R R (.c (.p .k (.p .k (.p .k .k))) .n) R R R) R (bS hm fun x22 ex22 hm=> .op (O.ap 2 Tryz.underlying127 el286 R R Z R R (.fr R) ex22 R) R (.sa R (.nil (.blkN ((Jj17 _ hm).sub [(0,2),(1,0)] R))))))))))
    ·refine .cF R hc ?_
     exact .skip (.blkN ((Jj17 _ hm).sub [(0,1),(1,0)] R))
   ·intro J21
    rcases Bool.eq_false_or_eq_true x19 with hc | hc
    ·refine .know (d:=23) R hc ?_
     exact .op (O.mv (Gu.mk R R) R R) R (.op (O.bi (Gu.mk R R) R R R R) R (.op (O.pkT Z R R R R) R ((J21 (decide (x18 < 0)) (andT hc).symm).sub [] R)))
    ·refine .know (d:=23) R hc ?_
     exact .sk R (.sk R (.op (O.pkF Z R R R R) R ((J21 false (andF hc).symm).sub [] R)))
 ·refine .cF R hc ?_
  exact .exit (.seqX (.seqX ((K15 _ (ho13 _ (oi hm).symm)).sub [(0,1)] R)))
def y3o (p0:AutT×List Int×(List (Int×List Int))×List Bool) (p1:Int) (p2:Bool):Option (List (Int×Int×Int×Int)):=
 (y3n p0 p1).bind fun r1=>
 if((decide ((r1.length:Int) > 0)) || (!p2)) then
  some r1
 else
  (y2q p0 p1).bind fun r4=>
  some r4
theorem y7u {p0:AutT×List Int×(List (Int×List Int))×List Bool} {p1:Int} {p2:Bool} {r:(List (Int×Int×Int×Int))} (hm:y3o p0 p1 p2=some r):
  Fw Tryz.prog 198 ⟨0,[]⟩ [.o (lQ 289 [lF qI p0.1.1,lI p0.1.2.1,lF qI p0.1.2.2.1,lF qT p0.1.2.2.2,lF qI p0.2.1,lM kvI (rL qI) p0.2.2.1,lF rB p0.2.2.2] 0),.i p1,.b p2] [] (.h 0) [ROW rE286 286 r]:=by
 unfold y3o at hm
 refine Fw.mk' Tryz.func198 R Tryz.ntmps198 R R (fun C=>?_) R R
 refine .seq (.reg (.sa R (.nil (.seqN (.seq (.seq (.reg (.mv R (.mv R (bS hm fun r1 er1 hm=> .op (O.ca (r':= .h 0) [0] [(0,ROW rE286 286 r1)] (some 1) (y7t er1) cf231 R R Z R R R R ⟨⟨_,R,fun _ _ _ _ h=>h⟩,trivial⟩ (fun _ _ _ h=>h) R) R (.sa R (.nil (.seqN (.seq (.reg (.mv R (.op (O.lenH sl127 Z R R R) R (.bi R (.mv R ?_)))))))))))))))))))
 refine .cut 3 (fun (v2:Bool)=>((decide ((r1.length:Int) > 0)) || (!p2))=v2) (fun v2=>⟨[(17,.b v2),(7,.h 0),(0,.o (lQ 289 [lF qI p0.1.1,lI p0.1.2.1,lF qI p0.1.2.2.1,lF qT p0.1.2.2.2,lF qI p0.2.1,lM kvI (rL qI) p0.2.2.1,lF rB p0.2.2.2] 0)),(1,.i p1)],[(0,ROW rE286 286 r1)],1⟩) ?_ ?_
 ·rintro _ rfl
  refine .nil (.seqN ?_)
  rcases ifS hm with ⟨hc,hm⟩ | ⟨hc,hm⟩
  ·refine .cT R hc ?_
   refine .seq (.reg (.mv R (.sa R (.nil (.seqN (.ret (.seqR ?_)))))))
   obtain rfl:=oi hm
   exact WX.rt [0] (.inl R) Tryz.results198 (.tmp R .nil) R (fun _ _ _ h=>h) ⟨⟨_,R,fun _ _ _ _ h=>h⟩,trivial⟩
  ·refine .cF R hc ?_
   refine .skip (.seqN (.seq (.reg (.mv R (.mv R (bS hm fun r4 er4 hm=> .op (O.ca (r':= .h 1) [1] [(0,ROW rE286 286 r4)] (some 2) (y6R er4) cf232 R R Z R R R R ⟨⟨_,R,fun _ _ _ _ h=>h⟩,trivial⟩ (fun _ _ _ h=>h) R) R (.sa R (.nil (.seqN (.ret ?_))))))))))
   obtain rfl:=oi hm
   exact WX.rt [1] (.inl R) Tryz.results198 (.tmp R .nil) R (fun _ _ _ h=>h) ⟨⟨_,R,fun _ _ _ _ h=>h⟩,trivial⟩
 ·intro J3
  rcases Bool.eq_false_or_eq_true (decide ((r1.length:Int) > 0)) with hc | hc
  ·refine .know (d:=14) R hc ?_
   exact .sk R (.sk R (.op (O.pkT Z R R R R) R ((J3 true (orT hc).symm).sub [] R)))
  ·refine .know (d:=14) R hc ?_
   exact .op (O.mv (Gu.mk R R) R R) R (.op (O.not (Gu.mk R R) R R) R (.op (O.pkF Z R R R R) R ((J3 (!p2) (orF hc).symm).sub [] R)))
def yK (st68:Int×List Int×(List (Int×Int))×List Int×EdgL) (l73:List Int) (l74:List (Int×Int)) (l75:List Int) (l76:List (Int×Int×Int)):Option ((Int×List Int×(List (Int×Int))×List Int×EdgL) ⊕ (List Int×List Int×EdgL)):=
 some (.inl (W (st68.1 + 1),l73,l74,l75,l76))
def yL (st68:Int×List Int×(List (Int×Int))×List Int×EdgL) (x103:Int×Int×Int) (st95:Int×List Int×(List (Int×Int))×EdgL) (l104:List Int) (n105:Int) (l106:List (Int×Int)):Option ((Int×List Int×(List (Int×Int))×EdgL) ⊕ (List Int×(List (Int×Int))×EdgL)):=
 (app st95.2.2.2 ([(st68.1,x103.2.1,n105)]:List (Int×Int×Int))).bind fun x108=>
 some (.inl (W (st95.1 + 1),l104,l106,x108))
def yM (st68:Int×List Int×(List (Int×Int))×List Int×EdgL) (x79:List (Int×Int×Int)) (st95:Int×List Int×(List (Int×Int))×EdgL):Option ((Int×List Int×(List (Int×Int))×EdgL) ⊕ (List Int×(List (Int×Int))×EdgL)):=
 if decide (st95.1 < (x79.length:Int)) then
  (idx x79 st95.1).bind fun x103=>
  if(!((kget st95.2.2.1 x103.2.2).isSome)) then
   (app st95.2.1 ([x103.2.2]:List Int)).bind fun x109=>
   yL st68 x103 st95 x109 (st95.2.1.length:Int) (kput st95.2.2.1 x103.2.2 (st95.2.1.length:Int))
  else
   yL st68 x103 st95 st95.2.1 ((kget st95.2.2.1 x103.2.2).getD 0) st95.2.2.1
 else
  some (.inr st95.2)
def yN (p0:AutT×List Int×(List (Int×List Int))×List Bool) (o18:(List EdgL)) (st68:Int×List Int×(List (Int×Int))×List Int×EdgL):Option ((Int×List Int×(List (Int×Int))×List Int×EdgL) ⊕ (List Int×List Int×EdgL)):=
 if decide (st68.1 < (st68.2.1.length:Int)) then
  (idx st68.2.1 st68.1).bind fun x78=>
  (idx o18 x78).bind fun x79=>
  (iter (yM st68 x79) (0,st68.2.1,st68.2.2.1,st68.2.2.2.2)).bind fun o95=>
  (idx o95.1 st68.1).bind fun x100=>
  (yA p0.1.2.2.1 x100).bind fun r101=>
  if r101 then
   (app st68.2.2.2.1 ([st68.1]:List Int)).bind fun x102=>
   yK st68 o95.1 o95.2.1 x102 o95.2.2
  else
   yK st68 o95.1 o95.2.1 st68.2.2.2.1 o95.2.2
 else
  some (.inr (st68.2.1,st68.2.2.2))
def yO (st18:Int×(List EdgL)) (l110:List EdgL):Option ((Int×(List EdgL)) ⊕ (List EdgL)):=
 some (.inl (W (st18.1 + 1),l110))
def yP (p0:AutT×List Int×(List (Int×List Int))×List Bool) (st18:Int×(List EdgL)):Option ((Int×(List EdgL)) ⊕ (List EdgL)):=
 if decide (st18.1 < (p0.1.2.2.2.length:Int)) then
  (idx p0.1.2.2.2 st18.1).bind fun x112=>
  (idx p0.2.2.2 x112.2.2).bind fun x113=>
  if x113 then
   (idx st18.2 x112.1).bind fun x114=>
   (app x114 ([x112]:List (Int×Int×Int))).bind fun x115=>
   (idx st18.2 x112.1).bind fun x116=>
   (upd st18.2 x112.1 x115).bind fun x117=>
   yO st18 x117
  else
   yO st18 st18.2
 else
  some (.inr st18.2)
def y1B (p0:AutT×List Int×(List (Int×List Int))×List Bool):Option (AutT×List Int):=
 (y1a p0.1.1).bind fun r1=>
 (if (p0.1.2.1 == 0) then
  some true
 else
  (idx p0.2.2.2 0).bind fun x118=>
  some (!x118)).bind fun b2=>
 if b2 then
  some ((r1,0,([]:List Int),([]:List (Int×Int×Int))),([]:List Int))
 else
  (mkL p0.1.2.1 ([]:List (Int×Int×Int))).bind fun x5=>
  (iter (yP p0) (0,x5)).bind fun o18=>
  (iter (yN p0 o18) (0,([0]:List Int),(kput ([]:List (Int×Int)) 0 0),([]:List Int),([]:List (Int×Int×Int)))).bind fun o68=>
  some ((r1,(o68.1.length:Int),o68.2),o68.1)
theorem y6t {p0:AutT×List Int×(List (Int×List Int))×List Bool} {r:AutT×List Int} (hm:y1B p0=some r):
  Fw Tryz.prog 202 ⟨0,[]⟩ [.o (lQ 289 [lF qI p0.1.1,lI p0.1.2.1,lF qI p0.1.2.2.1,lF qT p0.1.2.2.2,lF qI p0.2.1,lM kvI (rL qI) p0.2.2.1,lF rB p0.2.2.2] 0)] [] (.tp [.a [lH 0,lI r.1.2.1,lH 1,lH 2],.h 3]) [ROW qI 3 r.1.1,ROW qI 3 r.1.2.2.1,ROW qT 124 r.1.2.2.2,ROW qI 3 r.2]:=by
 unfold y1B at hm
 refine Fw.mk' Tryz.func202 R Tryz.ntmps202 R R (fun C=>?_) R R
 refine .seq (.reg (.op (O.al 0 R zz35 R Z R) R (.sa R (.nil (.seqN (.seq (.reg (.mv R (.op (O.nc .Q Z R R) R (.op (O.faQ y6w Z R R) R (.op (O.faQ y1R Z R R) R (.op (O.ld nag32 Z R .Q R R) R (bS hm fun r1 er1 hm=> .op (O.ca (r':= .h 1) [1] [(0,ROW qI 3 r1)] (some 2) (y4p er1) cf103 R R Z R R R R ⟨⟨_,R,fun _ _ _ _ h=>h⟩,trivial⟩ (fun _ _ _ h=>h) R) R (.op (O.bu (l:=[lH 1,lI 0,lN,lN]) pl35 R Z R R R) R (.op (O.al 2 R zz35 R Z R) R (.op (O.st ag35.sz Z R R R R R) R (.nil (.seqN (.seq (.seq (.reg (.mv R (.op (O.nc .Q Z R R) R (.op (O.faQ y6w Z R R) R (.op (O.faQ y1g Z R R) R (.op (O.ld nag3 Z R .Q R R) R (.bi R (.mv R (bS hm fun b2 eb2 hm=>?_)))))))))))))))))))))))))))))
 refine .cut 8 (fun (v3:Bool)=>b2=v3) (fun v3=>⟨[(36,.b v3),(4,.q 2 0),(2,.q 0 0),(0,.o (lQ 289 [lF qI p0.1.1,lI p0.1.2.1,lF qI p0.1.2.2.1,lF qT p0.1.2.2.2,lF qI p0.2.1,lM kvI (rL qI) p0.2.2.1,lF rB p0.2.2.2] 0))],[(2,.bx 35 [lH 1,lI 0,lN,lN]),(1,ROW qI 3 r1),(0,.bx 35 [lN,lI 0,lN,lN])],3⟩) ?_ ?_
 ·rintro _ rfl
  refine .nil (.seqN ?_)
  rcases ifS hm with ⟨hc,hm⟩ | ⟨hc,hm⟩
  ·refine .cT R hc ?_
   refine .seq (.reg (.op (O.lg (l':=[lH 1,lI 0,lN,lN]) ag35 Z R (.B R) R R R) R (.op (O.st ag35.sz Z R R R R R) R (.sa R (.nil (.seqN (.ret (.seqR (.nlb qI 3 0 2 R R (.nlb qT 124 0 3 R R (.nlg qI 3 3 0 R R ?_)))))))))))
   obtain rfl:=oi hm
   exact WX.rt [1,3,4,5] (.inl R) Tryz.results202 (.cell R R ag35 R (.tmp R .nil)) R (fun _ _ _ h=>h) ⟨⟨_,R,fun _ _ _ _ h=>h⟩,⟨_,R,fun _ _ _ _ h=>h⟩,⟨_,R,fun _ _ _ _ h=>h⟩,⟨_,R,fun _ _ _ _ h=>h⟩,trivial⟩
  ·refine .cF R hc ?_
   refine .skip (.seqN (.seq (.reg (.mv R (.op (O.nc .Q Z R R) R (.op (O.faQ y6w Z R R) R (.op (O.faQ y1g Z R R) R (.op (O.ld nag3 Z R .Q R R) R (bS hm fun x5 ex5 hm=> .op (O.mkT y5m 124 3 Tryz.underlying314 zv33 R R Z R R ex5 R) R (.sa R (.nil (.seqN (.seq (.seq (.reg (.mv R (.op (O.nc .Q Z R R) R (.op (O.faQ y6w Z R R) R (.op (O.faQ yG Z R R) R (.op (O.ld nag33 Z R .Q R R) R (.op (O.len sl33 Z R R) R (.mv R (.nil (.seqN (.block (bS hm fun o18 eo18 hm=>?_))))))))))))))))))))))))))
   refine .cut1 (z:= .exit 0) o18 (fun (o18:(List EdgL))=>⟨[(5,.h 0),(4,.q 1 0),(2,.q 3 0),(0,.o (lQ 289 [lF qI p0.1.1,lI p0.1.2.1,lF qI p0.1.2.2.1,lF qT p0.1.2.2.2,lF qI p0.2.1,lM kvI (rL qI) p0.2.2.1,lF rB p0.2.2.2] 0))],[(0,TAB y5m 33 124 none o18),(1,.bx 35 [lH 2,lI 0,lN,lN]),(2,ROW qI 3 r1),(3,.bx 35 [lN,lI 0,lN,lN])],4⟩) ?_ fun K20=>?_
   ·skip
    refine .blkE (.seqN (.seq (.reg (.op (O.mk2 (kv:=kvI) (r:=qI) 4 R Z R) R (.op (O.ins (k:=0) (v:=0) md229 (fun _ _=>eqI) Z R R (.o R) R .k) R (.mv R (.sa R (.nil (.seqN (.seq (.reg (.op (O.bsO (r:=qI) (zs:=([0]:List Int)) 5 R bs32 R R Z R R R (.c .k .n) R R R) R (.sa R (.nil (.seqN (.seq (.seq (.reg (.sa R (.nil (.seqN (.block (bS hm fun o68 eo68 hm=>?_)))))))))))))))))))))))
    refine .cut1 (z:= .exit 2) o68 (fun (o68:List Int×List Int×EdgL)=>⟨[(9,.h 0),(4,.q 1 0),(2,.q 5 0)],[(0,ROW qI 3 o68.1),(1,.bx 35 [lH 2,lI 0,lH 3,lH 4]),(2,ROW qI 3 r1),(3,ROW qI 3 o68.2.1),(4,ROW qT 124 o68.2.2),(5,.bx 35 [lN,lI 0,lN,lN])],6⟩) ?_ fun K72=>?_
    ·skip
     refine .blkE (.seqN (.seq (.reg (.mv R (.op (O.lenH sl32 Z R R R) R (.op (O.faP y1g Z R R) R (.op (O.st nag3.sz Z R R R R R) R (.nil (.seqN (.seq (.reg (.op (O.lg (l':=[lH 2,lI (o68.1.length:Int),lH 3,lH 4]) ag35 Z R (.B R) R R R) R (.mv R (.op (O.st ag35.sz Z R R R R R) R (.sa R (.nil (.seqN (.ret ?_))))))))))))))))))
     obtain rfl:=oi hm
     exact WX.rt [2,3,4,0] (.inl R) Tryz.results202 (.cell R R ag35 R (.tmp R .nil)) R (fun _ _ _ h=>h) ⟨⟨_,R,fun _ _ _ _ h=>h⟩,⟨_,R,fun _ _ _ _ h=>h⟩,⟨_,R,fun _ _ _ _ h=>h⟩,⟨_,R,fun _ _ _ _ h=>h⟩,trivial⟩
    refine .fz 0 [5] [] R R fTb R R (.nlb qI 3 1 2 R R (.nlb qT 124 1 3 R R (.iter (fun (st68:Int×List Int×(List (Int×Int))×List Int×EdgL)=>⟨[(10,.i st68.1),(9,.h 0),(8,.h 1),(5,.f (rL qT) o18),(4,.q 2 0),(2,.q 6 0),(0,.o (lQ 289 [lF qI p0.1.1,lI p0.1.2.1,lF qI p0.1.2.2.1,lF qT p0.1.2.2.2,lF qI p0.2.1,lM kvI (rL qI) p0.2.2.1,lF rB p0.2.2.2] 0))],[(0,ROW qI 3 st68.2.1),(1,MAP kvI qI 229 st68.2.2.1),(2,.bx 35 [lH 3,lI 0,lH 4,lH 5]),(3,ROW qI 3 r1),(4,ROW qI 3 st68.2.2.2.1),(5,ROW qT 124 st68.2.2.2.2),(6,.bx 35 [lN,lI 0,lN,lN])],7⟩) eo68 [(0,5),(1,4),(2,1),(3,2),(4,6),(5,7),(6,3)] R ?_)))
    intro st68 res68 hm ih68 ho68
    unfold yN at hm
    refine .seq (.seq (.reg (.mv R (.mv R (.op (O.lenH sl32 Z R R R) R (.bi R (.nil (.seqN ?_))))))))
    rcases ifS hm with ⟨hc,hm⟩ | ⟨hc,hm⟩
    ·refine .cT R hc ?_
     refine .skip (.seqN ?_)
     refine .join4 (fun (l73:List Int) (l74:List (Int×Int)) (l75:List Int) (l76:List (Int×Int×Int))=>yK st68 l73 l74 l75 l76=some res68) (fun l73 l74 l75 l76=>⟨[(10,.i st68.1),(9,.h 0),(8,.h 1),(5,.f (rL qT) o18),(4,.q 2 0),(2,.q 6 0),(0,.o (lQ 289 [lF qI p0.1.1,lI p0.1.2.1,lF qI p0.1.2.2.1,lF qT p0.1.2.2.2,lF qI p0.2.1,lM kvI (rL qI) p0.2.2.1,lF rB p0.2.2.2] 0))],[(0,ROW qI 3 l73),(1,MAP kvI qI 229 l74),(2,.bx 35 [lH 3,lI 0,lH 4,lH 5]),(3,ROW qI 3 r1),(4,ROW qI 3 l75),(5,ROW qT 124 l76),(6,.bx 35 [lN,lI 0,lN,lN])],7⟩) ?_ ?_
     ·intro l73 l74 l75 l76 hm
      unfold yK at hm
      exact .reg (.mv R (.bi R (.sa R (.nil ((ih68 _ (oi hm).symm).sub [] R)))))
     ·intro Jj77
      refine .block (.seq (.seq (.reg (.mv R (.mv R (.mv R (bS hm fun x78 ex78 hm=> .op (O.ir sl32 Z R R R ex78 R) R (.op (O.ld nag3 Z R (.R R ex78 lv3) R R) R (bS hm fun x79 ex79 hm=> .op (O.ix sl314 Z R R ex79 R) R (.op (O.ld nag33 Z R (.E lv33) R R) R (.op (O.len sl33 Z R R) R (.mv R (.nil (.seqN (.block (bS hm fun o95 eo95 hm=>?_))))))))))))))))
      refine .cut1 (z:= .exit 4) o95 (fun (o95:List Int×(List (Int×Int))×EdgL)=>⟨[(10,.i st68.1),(9,.h 0),(8,.h 1),(5,.f (rL qT) o18),(4,.q 2 0),(2,.q 6 0),(0,.o (lQ 289 [lF qI p0.1.1,lI p0.1.2.1,lF qI p0.1.2.2.1,lF qT p0.1.2.2.2,lF qI p0.2.1,lM kvI (rL qI) p0.2.2.1,lF rB p0.2.2.2] 0))],[(0,ROW qI 3 o95.1),(1,MAP kvI qI 229 o95.2.1),(2,.bx 35 [lH 3,lI 0,lH 4,lH 5]),(3,ROW qI 3 r1),(4,ROW qI 3 st68.2.2.2.1),(5,ROW qT 124 o95.2.2),(6,.bx 35 [lN,lI 0,lN,lN])],7⟩) ?_ fun K99=>?_
      ·skip
       refine .blkE (.seqN (.seq ?_))
       refine .sub (τ:=⟨[(10,.i st68.1),(9,.h 0),(8,.h 1),(5,.f (rL qT) o18),(4,.q 2 0),(2,.q 6 0),(0,.o (lQ 289 [lF qI p0.1.1,lI p0.1.2.1,lF qI p0.1.2.2.1,lF qT p0.1.2.2.2,lF qI p0.2.1,lM kvI (rL qI) p0.2.2.1,lF rB p0.2.2.2] 0))],[(0,ROW qI 3 o95.1),(1,MAP kvI qI 229 o95.2.1),(2,.bx 35 [lH 3,lI 0,lH 4,lH 5]),(3,ROW qI 3 r1),(4,ROW qI 3 st68.2.2.2.1),(5,ROW qT 124 o95.2.2),(6,.bx 35 [lN,lI 0,lN,lN])],7⟩) ?_ [] R
       refine bS hm fun x100 ex100 hm=>bS hm fun r101 er101 hm=>?_
       refine .drw [(7,[]),(7,[oT]),(7,[oT,oT]),(7,tT 3),(7,tT 4),(7,[]),(7,[]),(7,[oF,oF,oF,oF,oF,oT,oT]),(7,fA 5 (tT 3)),(7,tT 9)] [_,_,_,_,_,_,_,_,_,_] ⟨[(136,.b r101),(10,.i st68.1),(9,.h 0),(8,.h 1),(5,.f (rL qT) o18),(4,.q 2 0),(2,.q 6 0),(0,.o (lQ 289 [lF qI p0.1.1,lI p0.1.2.1,lF qI p0.1.2.2.1,lF qT p0.1.2.2.2,lF qI p0.2.1,lM kvI (rL qI) p0.2.2.1,lF rB p0.2.2.2] 0))],[(0,ROW qI 3 o95.1),(1,MAP kvI qI 229 o95.2.1),(2,.bx 35 [lH 3,lI 0,lH 4,lH 5]),(3,ROW qI 3 r1),(4,ROW qI 3 st68.2.2.2.1),(5,ROW qT 124 o95.2.2),(6,.bx 35 [lN,lI 0,lN,lN])],7⟩ ⟨O.mv Z R R,O.nc .Q Z R R,O.faQ y6w Z R R,O.faQ y3y Z R R,O.ld nag32 Z R .Q R R,O.mv Z R R,O.mv Z R R,O.ir sl32 Z R R R ex100 R,O.ld nag3 Z R (.R R ex100 lv3) R R,O.ca0 (y2t er101) cf104 R R Z R R R,trivial⟩ (by kernel_rfl) R ?_
       refine .seqN ?_
       rcases ifS hm with ⟨hc,hm⟩ | ⟨hc,hm⟩
       ·refine .cT R hc ?_
        exact .reg (.op (O.faP y3y Z R R) R (.op (O.ld nag32 Z R (.B R) R R) R (.mv R (.op (O.bsF (r:=qI) (zs:=([st68.1]:List Int)) bs32 R R Z R R R (.c .k .n) R R R) R (bS hm fun x102 ex102 hm=> .op (O.ap 7 Tryz.underlying32 el3 R R Z R R (.fr R) ex102 R) R (.op (O.faP y3y Z R R) R (.op (O.st nag32.sz Z R R R R R) R (.nil (.blkN ((Jj77 _ _ _ _ hm).sub [(4,7)] R))))))))))
       ·refine .cF R hc ?_
        exact .skip (.blkN ((Jj77 _ _ _ _ hm).sub [] R))
      refine .iter (fun (st95:Int×List Int×(List (Int×Int))×EdgL)=>⟨[(92,.i st95.1),(91,.i (x79.length:Int)),(90,.f qT x79),(10,.i st68.1),(9,.h 0),(8,.h 1),(5,.f (rL qT) o18),(4,.q 2 0),(2,.q 6 0),(0,.o (lQ 289 [lF qI p0.1.1,lI p0.1.2.1,lF qI p0.1.2.2.1,lF qT p0.1.2.2.2,lF qI p0.2.1,lM kvI (rL qI) p0.2.2.1,lF rB p0.2.2.2] 0))],[(0,ROW qI 3 st95.2.1),(1,MAP kvI qI 229 st95.2.2.1),(2,.bx 35 [lH 3,lI 0,lH 4,lH 5]),(3,ROW qI 3 r1),(4,ROW qI 3 st68.2.2.2.1),(5,ROW qT 124 st95.2.2.2),(6,.bx 35 [lN,lI 0,lN,lN])],7⟩) eo95 [] R ?_
      intro st95 res95 hm ih95 ho95
      unfold yM at hm
      refine .seq (.reg (.bi R (.nil (.seqN (.seq ?_)))))
      rcases ifS hm with ⟨hc,hm⟩ | ⟨hc,hm⟩
      ·refine .cT R hc ?_
       refine .skip (.seqN (.seq (.block (.seq (.reg (bS hm fun x103 ex103 hm=> .op (O.ix sl33 Z R R ex103 R) R (.op (O.lg (l':=[lI x103.1,lI x103.2.1,lI x103.2.2]) ag124 Z R (.E lv124) R R R) R (.op (O.al 7 R zz124 R Z R) R (.op (O.st ag124.sz Z R R R R R) R (.nil (.seqN (.seq (.reg (.mv R (.op (O.faP y2W Z R R) R (.op (O.ld nag3 Z R (.B R) R R) R (.op (O.mi2 (k:=x103.2.2) md229 Z (.ow R R) (.o R) R) R (.mv R (.op (O.ex Z R R R) R (.op (O.ex Z R R R) R (.sa R (.sa R (.nil (.seqN ?_))))))))))))))))))))))))
       refine .join3 (fun (l104:List Int) (n105:Int) (l106:List (Int×Int))=>yL st68 x103 st95 l104 n105 l106=some res95) (fun l104 n105 l106=>⟨[(9,.h 0),(13,.i n105),(12,.q 1 0),(92,.i st95.1),(91,.i (x79.length:Int)),(90,.f qT x79),(10,.i st68.1),(8,.h 2),(5,.f (rL qT) o18),(4,.q 3 0),(2,.q 7 0),(0,.o (lQ 289 [lF qI p0.1.1,lI p0.1.2.1,lF qI p0.1.2.2.1,lF qT p0.1.2.2.2,lF qI p0.2.1,lM kvI (rL qI) p0.2.2.1,lF rB p0.2.2.2] 0))],[(0,ROW qI 3 l104),(1,.bx 124 [lI x103.1,lI x103.2.1,lI x103.2.2]),(2,MAP kvI qI 229 l106),(3,.bx 35 [lH 4,lI 0,lH 5,lH 6]),(4,ROW qI 3 r1),(5,ROW qI 3 st68.2.2.2.1),(6,ROW qT 124 st95.2.2.2),(7,.bx 35 [lN,lI 0,lN,lN])],8⟩) ?_ ?_
       ·intro l104 n105 l106 hm
        unfold yL at hm
        exact .reg (.op (O.faP yG Z R R) R (.op (O.ld nag33 Z R (.B R) R R) R (.mv R (.op (O.faP y4L Z R R) R (.op (O.ld nag3 Z R (.B R) R R) R (.mv R (.op (O.bu (l:=[lI st68.1,lI x103.2.1,lI n105]) pl124 R Z R R R) R (.op (O.bsF (r:=qT) (zs:=([(st68.1,x103.2.1,n105)]:List (Int×Int×Int))) bs33 R R Z R R R (.c (.p .k (.p .k .k)) .n) R R R) R (bS hm fun x108 ex108 hm=> .op (O.ap 8 Tryz.underlying33 el124 R R Z R R (.fr R) ex108 R) R (.op (O.faP yG Z R R) R (.op (O.st nag33.sz Z R R R R R) R (.nil (.blkN (.seqN (.reg (.bi R (.mv R (.nil ((ih95 _ (oi hm).symm).sub [(1,2),(2,3),(3,4),(4,5),(5,8),(6,7)] R)))))))))))))))))))
       ·intro Jj107
        refine .seq (.reg (.mv R (.op (O.not Z R R) R (.nil (.seqN ?_)))))
        rcases ifS hm with ⟨hc,hm⟩ | ⟨hc,hm⟩
        ·refine .cT R hc ?_
         exact .seq (.reg (.mv R (.op (O.lenH sl32 Z R R R) R (.sa R (.nil (.seqN (.seq (.reg (.mv R (.op (O.faP y2W Z R R) R (.op (O.ld nag3 Z R (.B R) R R) R (.mv R (.op (O.mu (k:=x103.2.2) (v:=(st95.2.1.length:Int)) md229 (fun _ _=>eqI) Z R R (.o R) R .k) R (.nil (.seqN (.reg (.mv R (.op (O.faP y2W Z R R) R (.op (O.ld nag3 Z R (.B R) R R) R (.op (O.bsF (r:=qI) (zs:=([x103.2.2]:List Int)) bs32 R R Z R R R (.c .k .n) R R R) R (bS hm fun x109 ex109 hm=> .op (O.ap 8 Tryz.underlying32 el3 R R Z R R (.fr R) ex109 R) R (.sa R (.nil ((Jj107 _ _ _ hm).sub [(0,8),(1,7),(2,1),(3,2),(4,3),(5,4),(6,5),(7,6)] R))))))))))))))))))))))))
        ·refine .cF R hc ?_
         exact .skip ((Jj107 _ _ _ hm).sub [(1,7),(2,1),(3,2),(4,3),(5,4),(6,5),(7,6)] R)
      ·refine .cF R hc ?_
       exact .exit (.seqX (.seqX ((K99 _ (ho95 _ (oi hm).symm)).sub [] R)))
    ·refine .cF R hc ?_
     exact .exit (.seqX (.seqX ((K72 _ (ho68 _ (oi hm).symm)).sub [(1,2),(2,3),(3,4),(4,5),(5,6)] R)))
   refine .iter (fun (st18:Int×(List EdgL))=>⟨[(50,.i st18.1),(49,.i (p0.1.2.2.2.length:Int)),(48,.f qT p0.1.2.2.2),(5,.h 0),(4,.q 1 0),(2,.q 3 0),(0,.o (lQ 289 [lF qI p0.1.1,lI p0.1.2.1,lF qI p0.1.2.2.1,lF qT p0.1.2.2.2,lF qI p0.2.1,lM kvI (rL qI) p0.2.2.1,lF rB p0.2.2.2] 0))],[(0,TAB y5m 33 124 none st18.2),(1,.bx 35 [lH 2,lI 0,lN,lN]),(2,ROW qI 3 r1),(3,.bx 35 [lN,lI 0,lN,lN])],4⟩) eo18 [(0,3),(1,2),(2,1),(3,0)] R ?_
   intro st18 res18 hm ih18 ho18
   unfold yP at hm
   refine .seq (.reg (.bi R (.nil (.seqN (.seq ?_)))))
   rcases ifS hm with ⟨hc,hm⟩ | ⟨hc,hm⟩
   ·refine .cT R hc ?_
    refine .skip (.seqN ?_)
    refine .join1 (fun (l110:List EdgL)=>yO st18 l110=some res18) (fun l110=>⟨[(50,.i st18.1),(49,.i (p0.1.2.2.2.length:Int)),(48,.f qT p0.1.2.2.2),(5,.h 0),(4,.q 1 0),(2,.q 3 0),(0,.o (lQ 289 [lF qI p0.1.1,lI p0.1.2.1,lF qI p0.1.2.2.1,lF qT p0.1.2.2.2,lF qI p0.2.1,lM kvI (rL qI) p0.2.2.1,lF rB p0.2.2.2] 0))],[(0,TAB y5m 33 124 none l110),(1,.bx 35 [lH 2,lI 0,lN,lN]),(2,ROW qI 3 r1),(3,.bx 35 [lN,lI 0,lN,lN])],4⟩) ?_ ?_
    ·intro l110 hm
     unfold yO at hm
     exact .reg (.bi R (.mv R (.nil ((ih18 _ (oi hm).symm).sub [] R))))
    ·intro Jj111
     refine .block (.seq (.reg (bS hm fun x112 ex112 hm=> .op (O.ix sl33 Z R R ex112 R) R (.op (O.lg (l':=[lI x112.1,lI x112.2.1,lI x112.2.2]) ag124 Z R (.E lv124) R R R) R (.op (O.al 4 R zz124 R Z R) R (.op (O.st ag124.sz Z R R R R R) R (.nil (.seqN (.seq ?_)))))))))
     refine .sub (τ:=⟨[(7,.q 4 0),(50,.i st18.1),(49,.i (p0.1.2.2.2.length:Int)),(48,.f qT p0.1.2.2.2),(5,.h 0),(4,.q 1 0),(2,.q 3 0),(0,.o (lQ 289 [lF qI p0.1.1,lI p0.1.2.1,lF qI p0.1.2.2.1,lF qT p0.1.2.2.2,lF qI p0.2.1,lM kvI (rL qI) p0.2.2.1,lF rB p0.2.2.2] 0))],[(4,.bx 124 [lI x112.1,lI x112.2.1,lI x112.2.2]),(0,TAB y5m 33 124 none st18.2),(1,.bx 35 [lH 2,lI 0,lN,lN]),(2,ROW qI 3 r1),(3,.bx 35 [lN,lI 0,lN,lN])],5⟩) ?_ [] R
     refine bS hm fun x113 ex113 hm=>?_
     refine .drw [(5,[]),(5,[oT]),(5,[oT,oT]),(5,tT 3),(5,[]),(5,[oF,oF,oF,oF,oT]),(5,tT 6),(5,tT 7)] [_,_,_,_,_,_,_,_] ⟨[(61,.b x113),(7,.q 4 0),(50,.i st18.1),(49,.i (p0.1.2.2.2.length:Int)),(48,.f qT p0.1.2.2.2),(5,.h 0),(4,.q 1 0),(2,.q 3 0),(0,.o (lQ 289 [lF qI p0.1.1,lI p0.1.2.1,lF qI p0.1.2.2.1,lF qT p0.1.2.2.2,lF qI p0.2.1,lM kvI (rL qI) p0.2.2.1,lF rB p0.2.2.2] 0))],[(4,.bx 124 [lI x112.1,lI x112.2.1,lI x112.2.2]),(0,TAB y5m 33 124 none st18.2),(1,.bx 35 [lH 2,lI 0,lN,lN]),(2,ROW qI 3 r1),(3,.bx 35 [lN,lI 0,lN,lN])],5⟩ ⟨O.mv Z R R,O.nc .Q Z R R,O.faQ y5u Z R R,O.ld y5H Z R .Q R R,O.faP y2W Z R R,O.ld nag3 Z R (.B R) R R,O.ix sl144 Z R R ex113 R,O.ld nag4 Z R (.E lv4) R R,trivial⟩ (by kernel_rfl) R ?_
     refine .seqN ?_
     rcases ifS hm with ⟨hc,hm⟩ | ⟨hc,hm⟩
     ·refine .cT R hc ?_
      refine .sub (τ:=⟨[(7,.q 4 0),(50,.i st18.1),(49,.i (p0.1.2.2.2.length:Int)),(48,.f qT p0.1.2.2.2),(5,.h 0),(4,.q 1 0),(2,.q 3 0),(0,.o (lQ 289 [lF qI p0.1.1,lI p0.1.2.1,lF qI p0.1.2.2.1,lF qT p0.1.2.2.2,lF qI p0.2.1,lM kvI (rL qI) p0.2.2.1,lF rB p0.2.2.2] 0))],[(4,.bx 124 [lI x112.1,lI x112.2.1,lI x112.2.2]),(0,TAB y5m 33 124 none st18.2),(1,.bx 35 [lH 2,lI 0,lN,lN]),(2,ROW qI 3 r1),(3,.bx 35 [lN,lI 0,lN,lN])],5⟩) ?_ [] R
      refine bS hm fun x114 ex114 hm=>bS hm fun x115 ex115 hm=>bS hm fun x116 ex116 hm=>bS hm fun x117 ex117 hm=>?_
      refine .drz 7 [(7,0),(7,5),(10,6)] [(5,[],[0],[]),(5,[],[0],[]),(5,[oF,oT],[0],[]),(5,[],[],[]),(5,[],[],[]),(5,[oF,oF,oF,oF,oT],[],[]),(5,[oF,oF,oF,oT,oT,oT],[],[]),(5,[oF,oF,oF,oT,oT,oT,oT],[],[]),(5,[],[0],[]),(5,[oF,oF,oF,oF,oF,oF,oF,oF,oT],[0],[]),(6,[oF,oF,oF,oT,oT,oT,oT,oT,oT,oT],[],[]),(7,[oT,oT,oT,oT,oT,oT,oT,oT,oT,oT,oT],[],[(7,5)]),(7,[oT,oT,oT,oT,oT,oT,oT,oT,oT,oT,oT,oT],[],[(7,5)])] [_,_,_,_,_,_,_,_,_,_,_,_,_] ⟨[(50,.i st18.1),(49,.i (p0.1.2.2.2.length:Int)),(48,.f qT p0.1.2.2.2),(5,.h 0),(4,.q 1 0),(2,.q 3 0),(0,.o (lQ 289 [lF qI p0.1.1,lI p0.1.2.1,lF qI p0.1.2.2.1,lF qT p0.1.2.2.2,lF qI p0.2.1,lM kvI (rL qI) p0.2.2.1,lF rB p0.2.2.2] 0))],[(0,TAB y5m 33 124 none x117),(1,.bx 35 [lH 2,lI 0,lN,lN]),(2,ROW qI 3 r1),(3,.bx 35 [lN,lI 0,lN,lN])],7⟩ ⟨O.mv Z R R,O.faP y1W Z R R,O.ld nag3 Z R (.B R) R R,O.mv Z R R,O.faP y1W Z R R,O.ld nag3 Z R (.B R) R R,O.irT sl314 Z R R R ex114 R,O.ldT 5 nag33 R Z R R ex114 R,O.lg (l':=[lI x112.1,lI x112.2.1,lI x112.2.2]) ag124 Z R (.B R) R R R,O.bsF (r:=qT) (zs:=([x112]:List (Int×Int×Int))) bs33 R R Z R R R (.c (.p .k (.p .k .k)) .n) R R R,O.ap 6 Tryz.underlying33 el124 R R Z R R (.fr R) ex115 R,O.irT sl314 Z R R R ex116 R,O.stT nag33.sz Z R R ex117 R R R (fun _ e=>by cases e;rfl),trivial⟩ (by kernel_rfl) R ?_
      exact .blkN ((Jj111 _ hm).sub [] R)
     ·refine .cF R hc ?_
      exact .skip (.blkN ((Jj111 _ hm).sub [] R))
   ·refine .cF R hc ?_
    exact .exit (.seqX (.seqX ((K20 _ (ho18 _ (oi hm).symm)).sub [] R)))
 ·intro J4
  rcases ifS eb2 with ⟨hc,hm⟩ | ⟨hc,hm⟩
  ·refine .know (d:=28) R hc ?_
   exact .sk R (.sk R (.sk R (.sk R (.sk R (.sk R (.sk R (.op (O.pkT Z R R R R) R ((J4 true (oi hm).symm).sub [] R))))))))
  ·refine .know (d:=28) R hc ?_
   exact .op (O.mv (Gu.mk R R) R R) R (.op (O.nc .Q (Gu.mk R R) R R) R (.op (O.faQ y5u (Gu.mk R R) R R) R (.op (O.ld y5H (Gu.mk R R) R .Q R R) R (bS hm fun x118 ex118 hm=> .op (O.ix sl144 (Gu.mk R R) R R ex118 R) R (.op (O.ld nag4 (Gu.mk R R) R (.E lv4) R R) R (.op (O.not (Gu.mk R R) R R) R (.op (O.pkF Z R R R R) R ((J4 (!x118) (oi hm).symm).sub [] R))))))))
end
end Go.Proofs.YtecmobjeeonmaaaGreatDoor
