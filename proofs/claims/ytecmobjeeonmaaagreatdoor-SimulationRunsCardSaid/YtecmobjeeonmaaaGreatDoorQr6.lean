/- Parts of the proof, without what nothing here names. -/
import Derived.Test.YtecmobjeeonmaaaGreatDoorProg
import Derived.Test.YtecmobjeeonmaaaGreatDoorQr5
set_option maxRecDepth 100000
set_option maxHeartbeats 8000000
namespace Go.Proofs.YtecmobjeeonmaaaGreatDoor
open Go Go.RowKit
noncomputable section
def y1F(e:List Int×Bool×(PbT×Int×Int×Bool))(d:List Int)(a:Int)(b:List Int×Bool×(PbT×Int×Int×Bool))(c:PbT×Int×Int×Bool):Option (StpT×(PbT×Int×Int×Bool)):=
 some ((e.1,b.1,d,a,((decide (a≥0))&&b.2.1),c.2.2),c)
def y1G(a:Int×Int)(b:Int):Option ((Int×Int)⊕Int):=
 some (.inl (W (a.1+1),b))
def y1H(h:(PbT×Int×Int×Bool))(b:List Int)(a:Int×Int):Option ((Int×Int)⊕Int):=
 if((decide (a.1<(b.length:Int)))&&(decide (a.2<0))) then
  (idx b a.1).bind fun e=>
  (if decide (e≥0) then
   (idx b a.1).bind fun g=>
   (y2c h g).bind fun d=>
   some d
  else
   some false).bind fun c=>
  if c then
   (idx b a.1).bind fun f=>
   y1G a f
  else
   y1G a a.2
 else
  some (.inr a.2)
def y1I(p1:CycT)(f:List Int×Bool×(PbT×Int×Int×Bool))(g:(PbT×Int×Int×Bool))(d:List Int)(e:List Int):Option (StpT×(PbT×Int×Int×Bool)):=
 (iter (y1H g e) (0,(-1))).bind fun a=>
 (y3f g p1.2.1 a).bind fun b=>
 (y1p b.2.2 b.1).bind fun c=>
 if((decide (a≥0))&&b.2.1) then
  (yo c.1.1 c.2.1 a).bind fun h=>
  (y1p (c.1,h,c.2.2) ([a]:List Int)).bind fun i=>
  y1F f d a b i
 else
  y1F f d a b c
def y1J(a:Int×List Int)(b:List Int):Option ((Int×List Int)⊕(List Int)):=
 some (.inl (W (a.1+1),b))
def y1K(c:(PbT×Int×Int×Bool))(b:List Int)(a:Int×List Int):Option ((Int×List Int)⊕(List Int)):=
 if decide (a.1<(b.length:Int)) then
  (idx b a.1).bind fun e=>
  (yo c.1.2.1 c.2.2.1 e).bind fun d=>
  if decide (d≥0) then
   (idx b a.1).bind fun f=>
   (app a.2 ([f]:List Int)).bind fun g=>
   y1J a g
  else
   y1J a a.2
 else
  some (.inr a.2)
def y2A(p0:PbT×Int×Int×Bool)(p1:CycT)(p2:List Int)(p3:Bool):Option (StpT×(PbT×Int×Int×Bool)):=
 (y3f p0 p1.1 (-1)).bind fun a=>
 (y1p a.2.2 a.1).bind fun b=>
 (y2R b.1).bind fun d=>
 (iter (y1K b d) (0,([]:List Int))).bind fun c=>
 if(!p3) then
  y1I p1 a b c ([p1.2.2]:List Int)
 else
  y1I p1 a b c p2
theorem y9j{p0:PbT×Int×Int×Bool}{p1:CycT}{p2:List Int}{p3:Bool}{r:StpT×(PbT×Int×Int×Bool)}(hm:y2A p0 p1 p2 p3=some r):
  Fw Tryz.prog 125 ⟨1,[0]⟩ [.o (lP 0 0),.a [lF qI p1.1,lF qI p1.2.1,lI p1.2.2],.f qI p2,.b p3] [.bx 206 (lx206 p0)] (.g [lF qI r.1.1,lF qI r.1.2.1,lH 1,lI r.1.2.2.2.1,lB r.1.2.2.2.2.1,lI r.1.2.2.2.2.2.1,lB r.1.2.2.2.2.2.2]) [.bx 206 (lx206 r.2),ROW qI 3 r.1.2.2.1]:=by
 unfold y2A at hm;refine Fw.mk2 Tryz.func125 Tryz.ntmps125 R (fun C=>?_) R;refine .sr (.bo 1 R (.al 2 zz100 R (.nr (.op (O.bu (l:=[lN,lN,lN,lI (-1),lB false,lI 0,lB false]) pl100 R Z R R R) R (.al 3 zz100 R (.st ag100.sz R (.nr (.mv R (.fa ydb R (.lb nag32 R (bS hm fun s b6 hm=> .op (O.ca (r':= .tp [.h 4,.b s.2.1]) [0,4] [(0,.bx 206 (lx206 s.2.2)),(1,ROW qI 3 s.1)] (some 5) (y7v b6) cf188 R R Z R R R R ⟨⟨_,R,I4⟩,⟨_,R,I4⟩,trivial⟩ I3 R) R (.mv R (.ex R (.ex R (.fa y6W R (.st nag32.sz R (.nr (.mv R (.fa y6W R (.lb nag32 R (.fz 4 [25] [3] R R fR R R (bS hm fun v b7 hm=> .op (O.ca (r':= .tp []) [0] [(0,.bx 206 (lx206 v))] none (y5T b7) cf189 R R Z R R R R ⟨⟨_,R,I4⟩,trivial⟩ I3 R) R (.nr (.mv R ?_))))))))))))))))))))))));refine .op (O.nc .B Z R R) R (.fa y6X R (.op (O.lg (l':=(lx37 v.1)) ag37 Z R (.B R) R R R) R (bS hm fun y b8 hm=> .op (O.ca (r':= .h 5) [5] [(0,ROW qI 3 y)] (some 6) (y7l b8) cf121 R R Z R R R R ⟨⟨_,R,I4⟩,trivial⟩ I3 R) R (.an R (.seq (.sr (.an R (.block (bS hm fun p W hm=>?_)))))))));refine .cut1 (z:= .exit 0) p (fun (p:List Int)=>⟨[(9,.q 1 0),(8,.q 3 0),(5,.q 4 0),(0,.q 0 0),(2,.f qI p2),(3,.b p3)],[(0,.bx 206 (lx206 v)),(1,.bx 100 [lF qI s.1,lN,lH 2,lI (-1),lB false,lI 0,lB false]),(2,ROW qI 3 p),(3,.bx 100 [lN,lN,lN,lI 0,lB false,lI 0,lB false]),(4,.bx 114 [lF qI p1.1,lF qI p1.2.1,lI p1.2.2])],5⟩) ?_ fun b3=>?_
 ·skip
  refine .blkE (.seqN ?_);refine .join1 (fun (w:List Int)=>y1I p1 s v p w=some r) (fun w=>⟨[(2,.f qI w),(9,.q 1 0),(8,.q 3 0),(5,.q 4 0),(0,.q 0 0)],[(0,.bx 206 (lx206 v)),(1,.bx 100 [lF qI s.1,lN,lH 2,lI (-1),lB false,lI 0,lB false]),(2,ROW qI 3 p),(3,.bx 100 [lN,lN,lN,lI 0,lB false,lI 0,lB false]),(4,.bx 114 [lF qI p1.1,lF qI p1.2.1,lI p1.2.2])],5⟩) ?_ ?_
  ·intro w hm;unfold y1I at hm;refine .seq (.sr (.an R (.block (bS hm fun e X hm=>?_))));refine .cut1 (z:= .exit 2) e (fun (e:Int)=>⟨[(9,.q 1 0),(8,.q 3 0),(5,.q 4 0),(0,.q 0 0)],[(0,.bx 206 (lx206 v)),(1,.bx 100 [lF qI s.1,lN,lH 2,lI e,lB false,lI 0,lB false]),(2,ROW qI 3 p),(3,.bx 100 [lN,lN,lN,lI 0,lB false,lI 0,lB false]),(4,.bx 114 [lF qI p1.1,lF qI p1.2.1,lI p1.2.2])],5⟩) ?_ fun b4=>?_
   ·skip
    refine .blkE (.seqN (.sr (.an R (.sr (.mv R (.fa ydc R (.lb nag32 R (.fa y5f R (.lb nag3 R (bS hm fun j Y hm=> .op (O.ca (r':= .tp [.h 5,.b j.2.1]) [0,5] [(0,.bx 206 (lx206 j.2.2)),(1,ROW qI 3 j.1)] (some 6) (y7v Y) cf188 R R Z R R R R ⟨⟨_,R,I4⟩,⟨_,R,I4⟩,trivial⟩ I3 R) R (.mv R (.ex R (.ex R (.fa y7o R (.st nag32.sz R (.an R (.sr (.fa y5f R (.lb nag3 R (.bi R (.mv R ?_)))))))))))))))))))));refine .cut 2 (fun (M:Bool)=>((decide (e≥0))&&j.2.1)=M) (fun M=>⟨[(111,.b M),(9,.q 1 0),(8,.q 3 0),(0,.q 0 0)],[(0,.bx 206 (lx206 j.2.2)),(1,.bx 100 [lF qI s.1,lH 5,lH 2,lI e,lB false,lI 0,lB false]),(5,ROW qI 3 j.1),(2,ROW qI 3 p),(3,.bx 100 [lN,lN,lN,lI 0,lB false,lI 0,lB false])],6⟩) ?_ ?_
    ·rintro _ rfl;refine .fa y6K R (.st nag4.sz R (.nr (.mv R (.fa y7o R (.lb nag32 R (.fz 5 [115] [1] R R fR R R (bS hm fun u a0 hm=> .op (O.ca (r':= .tp []) [0] [(0,.bx 206 (lx206 u))] none (y5T a0) cf189 R R Z R R R R ⟨⟨_,R,I4⟩,trivial⟩ I3 R) R (.ns ?_))))))));refine .join1 (fun (x:PbT×Int×Int×Bool)=>y1F s p e j x=some r) (fun x=>⟨[(9,.q 1 0),(8,.q 3 0),(0,.q 0 0)],[(0,.bx 206 (lx206 x)),(1,.bx 100 [lF qI s.1,lF qI j.1,lH 2,lI e,lB ((decide (e≥0))&&j.2.1),lI 0,lB false]),(2,ROW qI 3 p),(3,.bx 100 [lN,lN,lN,lI 0,lB false,lI 0,lB false])],4⟩) ?_ ?_
     ·intro x hm;unfold y1F at hm;refine .seq ?_;refine .sub (τ:=⟨[(9,.q 1 0),(8,.q 3 0),(0,.q 0 0)],[(0,.bx 206 (lx206 x)),(1,.bx 100 [lF qI s.1,lF qI j.1,lH 2,lI e,lB ((decide (e≥0))&&j.2.1),lI 0,lB false]),(2,ROW qI 3 p),(3,.bx 100 [lN,lN,lN,lI 0,lB false,lI 0,lB false])],4⟩) ?_ [] R;refine .drz 4 [(9,1)] [(4,[],[],[]),(4,[oT],[],[]),(4,[oT,oT],[],[]),(4,[oT,oT,oT],[],[]),(4,[],[1],[]),(4,[oF,oF,oF,oF,oT],[1],[]),(4,[oF,oF,oF,oF,oT,oT],[1],[]),(4,[oF,oF,oF,oF,oT,oT,oT],[1],[]),(4,[oT,oT,oT,oT],[],[]),(4,[oT,oT,oT,oT,oF,oF,oF,oF,oT],[],[]),(4,[oT,oT,oT,oT,oT,oT,oT,oT,oT,oT],[],[]),(4,[oT,oT,oT,oT,oT,oT,oT,oT,oT,oT,oT],[],[])] [_,_,_,_,_,_,_,_,_,_,_,_] ⟨[(9,.q 1 0),(8,.q 3 0)],[(0,.bx 206 (lx206 x)),(1,.bx 100 [lF qI s.1,lF qI j.1,lH 2,lI e,lB ((decide (e≥0))&&j.2.1),lI x.2.2.1,lB x.2.2.2]),(2,ROW qI 3 p),(3,.bx 100 [lN,lN,lN,lI 0,lB false,lI 0,lB false])],4⟩ ⟨O.mv Z R R,O.nc .B Z R R,O.faP yaz Z R R,O.ld nag3 Z R (.B R) R R,O.mv Z R R,O.nc .B Z R R,O.faP yfc Z R R,O.ld nag4 Z R (.B R) R R,O.faP yay Z R R,O.st nag3.sz Z R R R R R,O.faP y8C Z R R,O.st nag4.sz Z R R R R R,trivial⟩ (by kernel_rfl) R ?_;refine .seqN (.sr (.op (O.lg (l':=[lF qI s.1,lF qI j.1,lH 2,lI e,lB ((decide (e≥0))&&j.2.1),lI x.2.2.1,lB x.2.2.2]) ag100 Z R (.B R) R R R) R (.st ag100.sz R (.ns (.ret ?_)))));cases hm;exact .rr [0,2] Tryz.results125 (.cell R R ag100 R .nil) R I3 ⟨⟨_,R,I4⟩,⟨_,R,I4⟩,trivial⟩
     ·intro H;refine .sr (.fa y6K R (.lb nag4 R (.ns ?_)));refine .cc hm R (fun hm=>?_) fun hm=> .skip ((H _ hm).sub [] R);refine .seq ?_;refine .sub (τ:=⟨[(9,.q 1 0),(8,.q 3 0),(0,.q 0 0)],[(0,.bx 206 (lx206 u)),(1,.bx 100 [lF qI s.1,lF qI j.1,lH 2,lI e,lB ((decide (e≥0))&&j.2.1),lI 0,lB false]),(2,ROW qI 3 p),(3,.bx 100 [lN,lN,lN,lI 0,lB false,lI 0,lB false])],6⟩) ?_ [] R;refine bS hm fun b9 a1 hm=>?_;refine .drg 6 [(6,[]),(6,[]),(6,[oF,oT]),(6,[oF,oT,oT]),(6,fA 1 (tT 3)),(6,fA 1 (tT 4)),(6,[]),(6,[oF,oF,oF,oF,oF,oF,oT]),(6,[oF,oF,oF,oF,oF,oF,oT,oT]),(6,fA 6 (tT 3)),(6,[]),(6,[oF,oF,oF,oF,oF,oF,oF,oF,oF,oF,oT]),(6,fA 1 (tT 11)),(6,tT 13),(6,tT 14),(6,tT 15)] [_,_,_,_,_,_,_,_,_,_,_,_,_,_,_,_] ⟨[(9,.q 1 0),(8,.q 3 0),(0,.q 0 0)],[(0,.bx 206 [lF qI u.1.1.1,lI u.1.1.2.1,lF qI u.1.1.2.2.1,lF qT u.1.1.2.2.2,lF qI u.1.2.1.1,lI u.1.2.1.2.1,lF qI u.1.2.1.2.2.1,lF qT u.1.2.1.2.2.2,lF qI u.1.2.2,lI b9,lI u.2.2.1,lB u.2.2.2]),(1,.bx 100 [lF qI s.1,lF qI j.1,lH 2,lI e,lB ((decide (e≥0))&&j.2.1),lI 0,lB false]),(2,ROW qI 3 p),(3,.bx 100 [lN,lN,lN,lI 0,lB false,lI 0,lB false])],6⟩ ⟨O.mv Z R R,O.mv Z R R,O.nc .B Z R R,O.faP y6X Z R R,O.faP y3k Z R R,O.lg (l':=(lx35 u.1.1)) ag35 Z R (.B R) R R R,O.mv Z R R,O.nc .B Z R R,O.faP y8D Z R R,O.ld nag3 Z R (.B R) R R,O.faP y5f Z R R,O.ld nag3 Z R (.B R) R R,O.ca0 (yE a1) cf55 R R Z R R R,O.nc .B Z R R,O.faP y8D Z R R,O.st nag3.sz Z R R R R R,trivial⟩ (by kernel_rfl) R ?_;exact .seqN (.reg (.mv R (.fa y5f R (.lb nag3 R (.op (O.bsF (r:=qI) (zs:=([e]:List Int)) bs32 R R Z R R R (.c .k .n) R R R) R (bS hm fun c0 a2 hm=> .op (O.ca (r':= .tp []) [0] [(0,.bx 206 (lx206 c0))] none (y5T a2) cf189 R R Z R R R R ⟨⟨_,R,I4⟩,trivial⟩ I3 R) R (.nil ((H _ hm).sub [] R))))))))
    ·intro T;rcases Bool.eq_false_or_eq_true (decide (e≥0)) with hc|hc
     ·refine .know (d:=109) R hc ?_;exact .op (O.mv (Gu.mk R R) R R) R (.op (O.pkT Z R R R R) R ((T j.2.1 (andT hc).symm).sub [] R))
     ·refine .know (d:=109) R hc ?_;exact .sk R (.op (O.pkF Z R R R R) R ((T false (andF hc).symm).sub [] R))
   refine .iter (fun (m:Int×Int)=>⟨[(12,.i m.1),(2,.f qI w),(9,.q 1 0),(8,.q 3 0),(5,.q 4 0),(0,.q 0 0)],[(0,.bx 206 (lx206 v)),(1,.bx 100 [lF qI s.1,lN,lH 2,lI m.2,lB false,lI 0,lB false]),(2,ROW qI 3 p),(3,.bx 100 [lN,lN,lN,lI 0,lB false,lI 0,lB false]),(4,.bx 114 [lF qI p1.1,lF qI p1.2.1,lI p1.2.2])],5⟩) X [] R ?_;intro m S hm b2 b0;unfold y1H at hm;refine .seq (.sr (.mv R (.mv R (.ln sl32 R (.bi R (.mv R ?_))))));refine .cut 4 (fun (N:Bool)=>((decide (m.1<(w.length:Int)))&&(decide (m.2<0)))=N) (fun N=>⟨[(75,.b N),(12,.i m.1),(2,.f qI w),(9,.q 1 0),(8,.q 3 0),(5,.q 4 0),(0,.q 0 0)],[(0,.bx 206 (lx206 v)),(1,.bx 100 [lF qI s.1,lN,lH 2,lI m.2,lB false,lI 0,lB false]),(2,ROW qI 3 p),(3,.bx 100 [lN,lN,lN,lI 0,lB false,lI 0,lB false]),(4,.bx 114 [lF qI p1.1,lF qI p1.2.1,lI p1.2.2])],5⟩) ?_ ?_
   ·rintro _ rfl;refine .ns ?_;refine .cc hm R (fun hm=>?_) fun hm=> .exit (.seqX (.seqX ((b4 _ (b0 _ (oi hm).symm)).sub [] R)));refine .skip (.seqN ?_);refine .join1 (fun (F:Int)=>y1G m F=some S) (fun F=>⟨[(12,.i m.1),(2,.f qI w),(9,.q 1 0),(8,.q 3 0),(5,.q 4 0),(0,.q 0 0)],[(0,.bx 206 (lx206 v)),(1,.bx 100 [lF qI s.1,lN,lH 2,lI F,lB false,lI 0,lB false]),(2,ROW qI 3 p),(3,.bx 100 [lN,lN,lN,lI 0,lB false,lI 0,lB false]),(4,.bx 114 [lF qI p1.1,lF qI p1.2.1,lI p1.2.2])],5⟩) ?_ ?_
    ·intro F hm;unfold y1G at hm;exact .reg (.mv R (.bi R (.sa R (.nil ((b2 _ (oi hm).symm).sub [] R)))))
    ·intro I;refine .block (.sr (.mv R (.mv R (bS hm fun c5 a5 hm=> .ix sl32 a5 R (.le nag3 lv3 R (.bi R (.mv R (bS hm fun b5 eb50 hm=>?_))))))));refine .cut 7 (fun (P:Bool)=>b5=P) (fun P=>⟨[(90,.b P),(12,.i m.1),(2,.f qI w),(9,.q 1 0),(8,.q 3 0),(5,.q 4 0),(0,.q 0 0)],[(0,.bx 206 (lx206 v)),(1,.bx 100 [lF qI s.1,lN,lH 2,lI m.2,lB false,lI 0,lB false]),(2,ROW qI 3 p),(3,.bx 100 [lN,lN,lN,lI 0,lB false,lI 0,lB false]),(4,.bx 114 [lF qI p1.1,lF qI p1.2.1,lI p1.2.2])],5⟩) ?_ ?_
     ·rintro _ rfl;exact .ns (.cc hm R (fun hm=> .reg (.mv R (.mv R (bS hm fun c6 a6 hm=> .ix sl32 a6 R (.le nag3 lv3 R (.fa y5f R (.st nag3.sz R (.nil (.blkN ((I _ hm).sub [] R)))))))))) fun hm=> .skip (.blkN ((I _ hm).sub [] R)))
     ·intro V;rcases ifS eb50 with ⟨hc,hm⟩|⟨hc,hm⟩
      ·refine .know (d:=83) R hc ?_;exact .op (O.mv (Gu.mk R R) R R) R (.op (O.mv (Gu.mk R R) R R) R (.op (O.mv (Gu.mk R R) R R) R (bS hm fun c7 a7 hm=> .op (O.ix sl32 (Gu.mk R R) R R a7 R) R (.op (O.ld nag3 (Gu.mk R R) R (.E lv3) R R) R (bS hm fun c1 a3 hm=> .op (O.caZ (y8y a3) cf190 R R (Gu.mk R R) R ⟨⟨R,(.q R LnL.rf),trivial⟩,⟨R,LnL.rf⟩,trivial⟩ (fun _ _ _ _ _ h=>h) R) R (.op (O.pkT Z R R R R) R ((V c1 (oi hm).symm).sub [] R)))))))
      ·refine .know (d:=83) R hc ?_;exact .sk R (.sk R (.sk R (.sk R (.sk R (.sk R (.op (O.pkF Z R R R R) R ((V false (oi hm).symm).sub [] R)))))))
   ·intro U;rcases Bool.eq_false_or_eq_true (decide (m.1<(w.length:Int))) with hc|hc
    ·refine .know (d:=71) R hc ?_;exact .op (O.faP y5f (Gu.mk R R) R R) R (.op (O.ld nag3 (Gu.mk R R) R (.B R) R R) R (.op (O.bi (Gu.mk R R) R R R R) R (.op (O.pkT Z R R R R) R ((U (decide (m.2<0)) (andT hc).symm).sub [] R))))
    ·refine .know (d:=71) R hc ?_;exact .sk R (.sk R (.sk R (.op (O.pkF Z R R R R) R ((U false (andF hc).symm).sub [] R))))
  ·intro G;refine .sr (.mv R (.op (O.not Z R R) R (.ns ?_)));exact .cc hm R (fun hm=> .reg (.fa y8c R (.lb nag3 R (.op (O.bsF (r:=qI) (zs:=([p1.2.2]:List Int)) bs32 R R Z R R R (.c .k .n) R R R) R (.sa R (.nil ((G _ hm).sub [] R))))))) fun hm=> .skip ((G _ hm).sub [] R)
 refine .nlb qI 3 3 2 R R (.iter (fun (t:Int×List Int)=>⟨[(11,.i t.1),(10,.h 1),(9,.q 2 0),(8,.q 4 0),(5,.q 5 0),(0,.q 0 0),(2,.f qI p2),(3,.b p3)],[(0,.bx 206 (lx206 v)),(1,ROW qI 3 y),(2,.bx 100 [lF qI s.1,lN,lH 3,lI (-1),lB false,lI 0,lB false]),(3,ROW qI 3 t.2),(4,.bx 100 [lN,lN,lN,lI 0,lB false,lI 0,lB false]),(5,.bx 114 [lF qI p1.1,lF qI p1.2.1,lI p1.2.2])],6⟩) W [(1,5),(2,3),(3,6),(4,2),(5,1)] R ?_);intro t Q hm b1 a9;unfold y1K at hm;refine .seq (.sr (.mv R (.mv R (.op (O.lenH sl32 Z R R R) R (.bi R (.ns ?_))))));refine .cc hm R (fun hm=>?_) fun hm=> .exit (.seqX (.seqX ((b3 _ (a9 _ (oi hm).symm)).sub [(1,2),(2,3),(3,4),(4,5)] R)));refine .skip (.seqN ?_);refine .join1 (fun (D:List Int)=>y1J t D=some Q) (fun D=>⟨[(11,.i t.1),(10,.h 1),(9,.q 2 0),(8,.q 4 0),(5,.q 5 0),(0,.q 0 0),(2,.f qI p2),(3,.b p3)],[(0,.bx 206 (lx206 v)),(1,ROW qI 3 y),(2,.bx 100 [lF qI s.1,lN,lH 3,lI (-1),lB false,lI 0,lB false]),(3,ROW qI 3 D),(4,.bx 100 [lN,lN,lN,lI 0,lB false,lI 0,lB false]),(5,.bx 114 [lF qI p1.1,lF qI p1.2.1,lI p1.2.2])],6⟩) ?_ ?_
 ·intro D hm;unfold y1J at hm;exact .reg (.mv R (.bi R (.sa R (.nil ((b1 _ (oi hm).symm).sub [] R)))))
 ·intro J;refine .block (.seq ?_);refine .sub (τ:=⟨[(11,.i t.1),(10,.h 1),(9,.q 2 0),(8,.q 4 0),(5,.q 5 0),(0,.q 0 0),(2,.f qI p2),(3,.b p3)],[(0,.bx 206 (lx206 v)),(1,ROW qI 3 y),(2,.bx 100 [lF qI s.1,lN,lH 3,lI (-1),lB false,lI 0,lB false]),(3,ROW qI 3 t.2),(4,.bx 100 [lN,lN,lN,lI 0,lB false,lI 0,lB false]),(5,.bx 114 [lF qI p1.1,lF qI p1.2.1,lI p1.2.2])],6⟩) ?_ [] R;refine bS hm fun c8 K hm=>bS hm fun c2 a4 hm=>?_;refine .drw [(6,[]),(6,[oT]),(6,[oT,oT]),(6,tT 3),(6,tT 4),(6,[]),(6,[oF,oF,oF,oF,oF,oT]),(6,[oF,oF,oF,oF,oF,oT,oT]),(6,fA 5 (tT 3)),(6,[]),(6,[]),(6,[oF,oF,oF,oF,oF,oF,oF,oF,oF,oT,oT]),(6,fA 9 (tT 3)),(6,tT 13),(6,tT 14)] [_,_,_,_,_,_,_,_,_,_,_,_,_,_,_] ⟨[(52,.b (decide (c2≥0))),(11,.i t.1),(10,.h 1),(9,.q 2 0),(8,.q 4 0),(5,.q 5 0),(0,.q 0 0),(2,.f qI p2),(3,.b p3)],[(0,.bx 206 (lx206 v)),(1,ROW qI 3 y),(2,.bx 100 [lF qI s.1,lN,lH 3,lI (-1),lB false,lI 0,lB false]),(3,ROW qI 3 t.2),(4,.bx 100 [lN,lN,lN,lI 0,lB false,lI 0,lB false]),(5,.bx 114 [lF qI p1.1,lF qI p1.2.1,lI p1.2.2])],6⟩ ⟨O.mv Z R R,O.nc .B Z R R,O.faP y6X Z R R,O.faP y4K Z R R,O.lg (l':=(lx35 v.1.2.1)) ag35 Z R (.B R) R R R,O.mv Z R R,O.nc .B Z R R,O.faP yaz Z R R,O.ld nag3 Z R (.B R) R R,O.mv Z R R,O.mv Z R R,O.ir sl32 Z R R R K R,O.ld nag3 Z R (.R R K lv3) R R,O.ca0 (yE a4) cf55 R R Z R R R,O.bi Z R R R R,trivial⟩ (by kernel_rfl) R ?_;refine .seqN ?_;refine .cc hm R (fun hm=>?_) fun hm=> .skip (.blkN ((J _ hm).sub [] R));refine .sub (τ:=⟨[(11,.i t.1),(10,.h 1),(9,.q 2 0),(8,.q 4 0),(5,.q 5 0),(0,.q 0 0),(2,.f qI p2),(3,.b p3)],[(0,.bx 206 (lx206 v)),(1,ROW qI 3 y),(2,.bx 100 [lF qI s.1,lN,lH 3,lI (-1),lB false,lI 0,lB false]),(3,ROW qI 3 t.2),(4,.bx 100 [lN,lN,lN,lI 0,lB false,lI 0,lB false]),(5,.bx 114 [lF qI p1.1,lF qI p1.2.1,lI p1.2.2])],6⟩) ?_ [] R;refine bS hm fun c3 L hm=>bS hm fun c4 a8 hm=>?_;refine .drg 7 [(6,[]),(6,[oT]),(6,[]),(6,[]),(6,[oF,oF,oT,oT]),(6,fA 2 (tT 3)),(6,fA 2 (tT 4)),(6,tT 7),(7,tT 8),(7,tT 9)] [_,_,_,_,_,_,_,_,_,_] ⟨[(11,.i t.1),(10,.h 1),(9,.q 2 0),(8,.q 4 0),(5,.q 5 0),(0,.q 0 0),(2,.f qI p2),(3,.b p3)],[(0,.bx 206 (lx206 v)),(1,ROW qI 3 y),(2,.bx 100 [lF qI s.1,lN,lH 6,lI (-1),lB false,lI 0,lB false]),(6,ROW qI 3 c4),(4,.bx 100 [lN,lN,lN,lI 0,lB false,lI 0,lB false]),(5,.bx 114 [lF qI p1.1,lF qI p1.2.1,lI p1.2.2])],7⟩ ⟨O.faP y8B Z R R,O.ld nag32 Z R (.B R) R R,O.mv Z R R,O.mv Z R R,O.ir sl32 Z R R R L R,O.ld nag3 Z R (.R R L lv3) R R,O.bsF (r:=qI) (zs:=([c3]:List Int)) bs32 R R Z R R R (.c .k .n) R R R,O.ap 6 Tryz.underlying32 el3 R R Z R R (.fr R) a8 R,O.faP y8B Z R R,O.st nag32.sz Z R R R R R,trivial⟩ (by kernel_rfl) R ?_;exact .blkN ((J _ hm).sub [(3,6)] R)
def y4b(p1:List CycT)(p2:List Int)(p3:Bool)(a:Int×(List StpT)×(PbT×Int×Int×Bool)):Option ((Int×(List StpT)×(PbT×Int×Int×Bool))⊕(List StpT)):=
 if decide (a.1<(p1.length:Int)) then
  (idx p1 a.1).bind fun c=>
  (y2A a.2.2 c p2 p3).bind fun b=>
  (app a.2.1 ([b.1]:List StpT)).bind fun d=>
  some (.inl (W (a.1+1),d,b.2))
 else
  some (.inr a.2.1)
def y5o(p0:PbT)(p1:List CycT)(p2:List Int)(p3:Bool):Option (List StpT):=
 (iter (y4b p1 p2 p3) (0,([]:List StpT),p0,0,0,false)).bind fun a=>
 some a
theorem ya7{p0:PbT}{p1:List CycT}{p2:List Int}{p3:Bool}{r:(List StpT)}(hm:y5o p0 p1 p2 p3=some r):
  F0 51 [.a (lx37 p0),.f rE114 p1,.f qI p2,.b p3] [] (.h 0) [ROW rE100 100 r]:=by
 unfold y5o at hm;refine Fw.mk2 Tryz.func51 Tryz.ntmps51 R (fun C=>?_) R;refine .sr (.bo 0 R (.an R (.sr (.op (O.lg (l':=(lx37 p0)) ag37 Z R (.B R) R R R) R (.op (O.bu (l:=[lF qI p0.1.1,lI p0.1.2.1,lF qI p0.1.2.2.1,lF qT p0.1.2.2.2,lF qI p0.2.1.1,lI p0.2.1.2.1,lF qI p0.2.1.2.2.1,lF qT p0.2.1.2.2.2,lF qI p0.2.2,lI 0,lI 0,lB false]) pl206 R Z R R R) R (.bo 1 R (.an R (.sr (.an R (.seq (.sr (.an R (.block (bS hm fun j o hm=>?_))))))))))))));refine .cut1 (z:= .exit 0) j (fun (j:(List StpT))=>⟨[(10,.h 0)],[(0,ROW rE100 100 j)],1⟩) ?_ fun x=>?_
 ·skip
  refine .blkE (.seqN (.sr (.mv R (.an R (.ret ?_)))));cases hm;exact .rr [0] Tryz.results51 (.tmp R .nil) R I3 ⟨⟨_,R,I4⟩,trivial⟩
 refine .nlg rE100 100 10 0 R R (.iter (fun (e:Int×(List StpT)×(PbT×Int×Int×Bool))=>⟨[(11,.i e.1),(10,.h 0),(9,.q 1 0),(1,.f rE114 p1),(2,.f qI p2),(3,.b p3)],[(0,ROW rE100 100 e.2.1),(1,.bx 206 (lx206 e.2.2))],2⟩) o [(0,2)] R ?_);intro e y hm w v;unfold y4b at hm;refine .seq (.sr (.mv R (.mv R (.ln sl94 R (.bi R (.ns ?_))))));exact .cc hm R (fun hm=> .skip (.seqN (.seq (.block (.reg (.mv R (.mv R (.mv R (.mv R (bS hm fun m t hm=> .ix sl94 t R (.op (O.lg (l':=[lF qI m.1,lF qI m.2.1,lI m.2.2]) ag114 Z R (.E lv114) R R R) R (.mv R (.mv R (bS hm fun d s hm=> .op (O.ca (r':= .g [lF qI d.1.1,lF qI d.1.2.1,lH 2,lI d.1.2.2.2.1,lB d.1.2.2.2.2.1,lI d.1.2.2.2.2.2.1,lB d.1.2.2.2.2.2.2]) [1,2] [(0,.bx 206 (lx206 d.2)),(1,ROW qI 3 d.1.2.2.1)] (some 3) (y9j s) cf125 R R Z R R R R ⟨⟨_,R,I4⟩,⟨_,R,I4⟩,trivial⟩ I3 R) R (.fz 2 [29] [] R R fR R R (.op (O.bsF (r:=rE100) (zs:=([d.1]:List StpT)) bs91 R R Z R R R (.c (.p .l (.p .l (.p .l (.p .k (.p .b (.p .k .b)))))) .n) R R R) R (bS hm fun D u hm=> .op (O.ap 3 Tryz.underlying91 el100 R R Z R R (.fr R) u R) R (.sa R (.nil (.blkN (.seqN (.reg (.mv R (.bi R (.sa R (.nil ((w _ (oi hm).symm).sub [(0,3)] R))))))))))))))))))))))))))) fun hm=> .exit (.seqX (.seqX ((x _ (v _ (oi hm).symm)).sub [] R)))
def y3g(p0:List StpT)(p1:List StpT)(c:Int):Option (Int⊕(Unit⊕Unit)):=
 if decide (c<(p0.length:Int)) then
  (idx p0 c).bind fun a=>
  (idx p1 c).bind fun b=>
  (yG a.1 b.1).bind fun f=>
  (if (!f) then
   some true
  else
   (yG a.2.1 b.2.1).bind fun h=>
   some (!h)).bind fun d=>
  (if d then
   some true
  else
   (yG a.2.2.1 b.2.2.1).bind fun g=>
   some (!g)).bind fun e=>
  if((((e||(a.2.2.2.1 != b.2.2.2.1))||(a.2.2.2.2.1 != b.2.2.2.2.1))||(a.2.2.2.2.2.1 != b.2.2.2.2.2.1))||(a.2.2.2.2.2.2 != b.2.2.2.2.2.2)) then
   some (.inr (.inr (())))
  else
   some (.inl (W (c+1)))
 else
  some (.inr (.inl ()))
def y5C(p0:List StpT)(p1:List StpT):Option Bool:=
 if((p0.length:Int) != (p1.length:Int)) then
  some false
 else
  (iter (y3g p0 p1) 0).bind fun a=>
  match a with
  | .inl b=>
   some true
  | .inr (c)=>
   some false
theorem yag{p0:List StpT}{p1:List StpT}{r:Bool}(hm:y5C p0 p1=some r):
    F0 58 [.f rE100 p0,.f rE100 p1] [] (.b r) []:=by
  unfold y5C at hm;refine Fw.mk2 Tryz.func58 Tryz.ntmps58 R (fun C=>?_) R;refine .sr (.an R (.seq (.sr (.mv R (.ln sl91 R (.mv R (.ln sl91 R (.bi R (.ns ?_)))))))));refine .cc hm R (fun hm=>?_) fun hm=>?_
  ·refine .sr (.an R (.ret (.seqR ?_)));cases hm;exact .rr [] Tryz.results58 (.tmp R .nil) R I3 trivial
  ·refine .skip (.seqN (.seq (.sr (.an R (.block (bS hm fun F G hm=>?_))))));refine .cutU (z:= .exit 0) (fun j=> .inl j=F) (fun (j:Unit)=>⟨[],[],0⟩) ?_ fun N=>?_
   · rintro j rfl;dsimp only at hm;refine .blkE (.seqN (.sr (.an R (.ret ?_))));cases hm;exact .rr [] Tryz.results58 (.tmp R .nil) R I3 trivial
   refine .cutU (z:= .ret) (fun k=> .inr (k)=F) (fun (k:Unit)=>⟨[(4,.b false)],[],0⟩) ?_ fun P=>?_
   · rintro k rfl;dsimp only at hm;refine .blkR (.seqR ?_);cases hm;exact .rr [] Tryz.results58 (.tmp R .nil) R I3 trivial
   refine .iter (fun (e:Int)=>⟨[(5,.i e),(0,.f rE100 p0),(1,.f rE100 p1)],[],0⟩) G [] R ?_;intro e U hm M h;unfold y3g at hm;refine .seq (.sr (.mv R (.mv R (.ln sl91 R (.bi R (.ns ?_))))));refine .cc hm R (fun hm=>?_) fun hm=> .exit (.seqX (.seqX ((N _ (h _ (oi hm).symm)).sub [] R)));refine .skip (.seqN (.seq (.block (.seq ?_))));refine .sub (τ:=⟨[(5,.i e),(0,.f rE100 p0),(1,.f rE100 p1)],[],0⟩) ?_ [] R;refine bS hm fun a K hm=>bS hm fun c L hm=>?_;refine .drz 2 [(8,0),(9,1)] [(0,[],[],[]),(0,[],[],[]),(0,[oT,oT],[],[]),(0,[oT,oT,oT],[],[]),(0,[],[],[]),(0,[],[],[]),(0,[oF,oF,oF,oF,oT,oT],[],[]),(0,[oF,oF,oF,oF,oT,oT,oT],[],[]),(0,[],[],[]),(0,[],[],[]),(2,[oT,oT,oT,oT,oF,oF,oF,oF,oT,oT],[],[]),(2,[oT,oT,oT,oT,oT,oT,oT,oT,oT,oT,oT],[],[(8,0)])] [_,_,_,_,_,_,_,_,_,_,_,_] ⟨[(7,.q 1 0),(6,.q 0 0),(5,.i e),(0,.f rE100 p0),(1,.f rE100 p1)],[(1,.bx 100 (lx100 c)),(0,.bx 100 (lx100 a))],2⟩ ⟨O.mv Z R R,O.mv Z R R,O.ix sl91 Z R R K R,O.lg (l':=(lx100 a)) ag100 Z R (.E lv100) R R R,O.mv Z R R,O.mv Z R R,O.ix sl91 Z R R L R,O.lg (l':=(lx100 c)) ag100 Z R (.E lv100) R R R,O.al 0 R zz100 R Z R,O.al 1 R zz100 R Z R,O.st ag100.sz Z R R R R R,O.st ag100.sz Z R R R R R,trivial⟩ (by kernel_rfl) R ?_;refine .seqN (.sr (.fa y6W R (.lb nag32 R (.fa y6W R (.lb nag32 R (bS hm fun V H hm=> .c0 (y3m H) cf59 R (.op (O.not Z R R) R (.mv R (bS hm fun Q eb30 hm=>?_)))))))));refine .cut 7 (fun (m:Bool)=>Q=m) (fun m=>⟨[(40,.b m),(7,.q 1 0),(6,.q 0 0),(5,.i e),(0,.f rE100 p0),(1,.f rE100 p1)],[(1,.bx 100 (lx100 c)),(0,.bx 100 (lx100 a))],2⟩) ?_ ?_
   · rintro _ rfl;refine .mv R (bS hm fun g eb33 hm=>?_);refine .cut 7 (fun (n:Bool)=>g=n) (fun n=>⟨[(48,.b n),(7,.q 1 0),(6,.q 0 0),(5,.i e),(0,.f rE100 p0),(1,.f rE100 p1)],[(1,.bx 100 (lx100 c)),(0,.bx 100 (lx100 a))],2⟩) ?_ ?_
     · rintro _ rfl;refine .mv R ?_;refine .cut 6 (fun (o:Bool)=>(g||(a.2.2.2.1 != c.2.2.2.1))=o) (fun o=>⟨[(55,.b o),(7,.q 1 0),(6,.q 0 0),(5,.i e),(0,.f rE100 p0),(1,.f rE100 p1)],[(1,.bx 100 (lx100 c)),(0,.bx 100 (lx100 a))],2⟩) ?_ ?_
       · rintro _ rfl;refine .mv R ?_;refine .cut 6 (fun (p:Bool)=>((g||(a.2.2.2.1 != c.2.2.2.1))||(a.2.2.2.2.1 != c.2.2.2.2.1))=p) (fun p=>⟨[(62,.b p),(7,.q 1 0),(6,.q 0 0),(5,.i e),(0,.f rE100 p0),(1,.f rE100 p1)],[(1,.bx 100 (lx100 c)),(0,.bx 100 (lx100 a))],2⟩) ?_ ?_
         · rintro _ rfl;refine .mv R ?_;refine .cut 6 (fun (s:Bool)=>(((g||(a.2.2.2.1 != c.2.2.2.1))||(a.2.2.2.2.1 != c.2.2.2.2.1))||(a.2.2.2.2.2.1 != c.2.2.2.2.2.1))=s) (fun s=>⟨[(69,.b s),(7,.q 1 0),(6,.q 0 0),(5,.i e),(0,.f rE100 p0),(1,.f rE100 p1)],[(1,.bx 100 (lx100 c)),(0,.bx 100 (lx100 a))],2⟩) ?_ ?_
           · rintro _ rfl;refine .mv R ?_;refine .cut 6 (fun (t:Bool)=>((((g||(a.2.2.2.1 != c.2.2.2.1))||(a.2.2.2.2.1 != c.2.2.2.2.1))||(a.2.2.2.2.2.1 != c.2.2.2.2.2.1))||(a.2.2.2.2.2.2 != c.2.2.2.2.2.2))=t) (fun t=>⟨[(76,.b t),(5,.i e),(0,.f rE100 p0),(1,.f rE100 p1)],[],2⟩) ?_ ?_
             · rintro _ rfl;exact .ns (.cc hm R (fun hm=> .sr (.an R (.ret (.blkR (.seqR (.seqR ((P _ (h _ (oi hm).symm)).sub [] R))))))) fun hm=> .skip (.blkN (.seqN (.reg (.mv R (.bi R (.sa R (.nil ((M _ (oi hm).symm).sub [] R)))))))))
             · intro D;rcases Bool.eq_false_or_eq_true (((g||(a.2.2.2.1 != c.2.2.2.1))||(a.2.2.2.2.1 != c.2.2.2.2.1))||(a.2.2.2.2.2.1 != c.2.2.2.2.2.1)) with hc|hc
               · refine .know (d:=70) R hc ?_;exact .sk R (.sk R (.sk R (.sk R (.sk R (.op (O.pkT Z R R R R) R ((D true (orT hc).symm).sub [] R))))))
               · refine .know (d:=70) R hc ?_;exact .op (O.faP y8C (Gu.mk R R) R R) R (.op (O.ld nag4 (Gu.mk R R) R (.B R) R R) R (.op (O.faP y8C (Gu.mk R R) R R) R (.op (O.ld nag4 (Gu.mk R R) R (.B R) R R) R (.op (O.bne Tryz.underlying4 (Gu.mk R R) R R R) R (.op (O.pkF Z R R R R) R ((D (a.2.2.2.2.2.2 != c.2.2.2.2.2.2) (orF hc).symm).sub [] R))))))
           · intro y;rcases Bool.eq_false_or_eq_true ((g||(a.2.2.2.1 != c.2.2.2.1))||(a.2.2.2.2.1 != c.2.2.2.2.1)) with hc|hc
             · refine .know (d:=63) R hc ?_;exact .sk R (.sk R (.sk R (.sk R (.sk R (.op (O.pkT Z R R R R) R ((y true (orT hc).symm).sub [] R))))))
             · refine .know (d:=63) R hc ?_;exact .op (O.faP yay (Gu.mk R R) R R) R (.op (O.ld nag3 (Gu.mk R R) R (.B R) R R) R (.op (O.faP yay (Gu.mk R R) R R) R (.op (O.ld nag3 (Gu.mk R R) R (.B R) R R) R (.op (O.bi (Gu.mk R R) R R R R) R (.op (O.pkF Z R R R R) R ((y (a.2.2.2.2.2.1 != c.2.2.2.2.2.1) (orF hc).symm).sub [] R))))))
         · intro x;rcases Bool.eq_false_or_eq_true (g||(a.2.2.2.1 != c.2.2.2.1)) with hc|hc
           · refine .know (d:=56) R hc ?_;exact .sk R (.sk R (.sk R (.sk R (.sk R (.op (O.pkT Z R R R R) R ((x true (orT hc).symm).sub [] R))))))
           · refine .know (d:=56) R hc ?_;exact .op (O.faP y6K (Gu.mk R R) R R) R (.op (O.ld nag4 (Gu.mk R R) R (.B R) R R) R (.op (O.faP y6K (Gu.mk R R) R R) R (.op (O.ld nag4 (Gu.mk R R) R (.B R) R R) R (.op (O.bne Tryz.underlying4 (Gu.mk R R) R R R) R (.op (O.pkF Z R R R R) R ((x (a.2.2.2.2.1 != c.2.2.2.2.1) (orF hc).symm).sub [] R))))))
       · intro w;rcases Bool.eq_false_or_eq_true g with hc|hc
         · refine .know (d:=49) R hc ?_;exact .sk R (.sk R (.sk R (.sk R (.sk R (.op (O.pkT Z R R R R) R ((w true (orT hc).symm).sub [] R))))))
         · refine .know (d:=49) R hc ?_;exact .op (O.faP y5f (Gu.mk R R) R R) R (.op (O.ld nag3 (Gu.mk R R) R (.B R) R R) R (.op (O.faP y5f (Gu.mk R R) R R) R (.op (O.ld nag3 (Gu.mk R R) R (.B R) R R) R (.op (O.bi (Gu.mk R R) R R R R) R (.op (O.pkF Z R R R R) R ((w (a.2.2.2.1 != c.2.2.2.1) (orF hc).symm).sub [] R))))))
     · intro v;rcases ifS eb33 with ⟨hc,hm⟩|⟨hc,hm⟩
       · refine .know (d:=41) R hc ?_;exact .sk R (.sk R (.sk R (.sk R (.sk R (.sk R (.op (O.pkT Z R R R R) R ((v true (oi hm).symm).sub [] R)))))))
       · refine .know (d:=41) R hc ?_;exact .op (O.faP y8B (Gu.mk R R) R R) R (.op (O.ld nag32 (Gu.mk R R) R (.B R) R R) R (.op (O.faP y8B (Gu.mk R R) R R) R (.op (O.ld nag32 (Gu.mk R R) R (.B R) R R) R (bS hm fun S I hm=> .op (O.ca0 (y3m I) cf59 R R (Gu.mk R R) R R R) R (.op (O.not (Gu.mk R R) R R) R (.op (O.pkF Z R R R R) R ((v (!S) (oi hm).symm).sub [] R)))))))
   · intro u;rcases ifS eb30 with ⟨hc,hm⟩|⟨hc,hm⟩
     · refine .know (d:=33) R hc ?_;exact .sk R (.sk R (.sk R (.sk R (.sk R (.sk R (.op (O.pkT Z R R R R) R ((u true (oi hm).symm).sub [] R)))))))
     · refine .know (d:=33) R hc ?_;exact .op (O.faP y7o (Gu.mk R R) R R) R (.op (O.ld nag32 (Gu.mk R R) R (.B R) R R) R (.op (O.faP y7o (Gu.mk R R) R R) R (.op (O.ld nag32 (Gu.mk R R) R (.B R) R R) R (bS hm fun T J hm=> .op (O.ca0 (y3m J) cf59 R R (Gu.mk R R) R R R) R (.op (O.not (Gu.mk R R) R R) R (.op (O.pkF Z R R R R) R ((u (!T) (oi hm).symm).sub [] R)))))))
def y4t(a:Int×(Int×Int×Int×Int×Int×Int))(b:StpT)(g:List Int)(c:Int)(d:Int)(e:Int)(f:Int):Option ((Int×(Int×Int×Int×Int×Int×Int))⊕(Int×Int×Int×Int×Int×Int)):=
 some (.inl (W (a.1+1),W (a.2.1+(g.length:Int)),d,e,c,f,(if (if a.2.2.2.2.2.2<(b.1.length:Int) then(b.1.length:Int) else a.2.2.2.2.2.2)<(b.2.1.length:Int) then(b.2.1.length:Int) else(if a.2.2.2.2.2.2<(b.1.length:Int) then(b.1.length:Int) else a.2.2.2.2.2.2))))
def y3h(a:Int×(Int×Int×Int×Int×Int×Int))(b:StpT)(f:List Int)(c:Int)(d:Int)(e:Int):Option ((Int×(Int×Int×Int×Int×Int×Int))⊕(Int×Int×Int×Int×Int×Int)):=
 if b.2.2.2.2.2.2 then
  y4t a b f c d e (W (a.2.2.2.2.2.1+1))
 else
  y4t a b f c d e a.2.2.2.2.2.1
def y4u(a:Int×(Int×Int×Int×Int×Int×Int))(b:StpT)(d:List Int)(c:Int):Option ((Int×(Int×Int×Int×Int×Int×Int))⊕(Int×Int×Int×Int×Int×Int)):=
 if(b.2.2.2.1 != (-1)) then
  if(!b.2.2.2.2.1) then
   y3h a b d c (W (a.2.2.1+1)) (W (a.2.2.2.1+1))
  else
   y3h a b d c (W (a.2.2.1+1)) a.2.2.2.1
 else
  y3h a b d c a.2.2.1 a.2.2.2.1
def y3i(p0:List StpT)(a:Int×(Int×Int×Int×Int×Int×Int)):Option ((Int×(Int×Int×Int×Int×Int×Int))⊕(Int×Int×Int×Int×Int×Int)):=
 if decide (a.1<(p0.length:Int)) then
  (idx p0 a.1).bind fun c=>
  (y2v c).bind fun b=>
  if((b.length:Int)==0) then
   y4u a c b (W (a.2.2.2.2.1+1))
  else
   y4u a c b a.2.2.2.2.1
 else
  some (.inr a.2)
def y5D(p0:List StpT):Option (Int×Int×Int×Int×Int×Int):=
 (iter (y3i p0) (0,0,0,0,0,0,0)).bind fun a=>
 some a
theorem yah{p0:List StpT}{r:(Int×Int×Int×Int×Int×Int)}(hm:y5D p0=some r):
  F0 60 [.f rE100 p0] [] (.g (lx105 r)) []:=by
 unfold y5D at hm;refine Fw.mk2 Tryz.func60 Tryz.ntmps60 R (fun C=>?_) R;refine .sr (.al 0 zz105 R (.nr (.al 1 zz105 R (.ns (.seq (.sr (.mv R (.ln sl91 R (.mv R (.ns (.block (bS hm fun b t hm=>?_))))))))))));refine .cut1 (z:= .exit 0) b (fun (b:(Int×Int×Int×Int×Int×Int))=>⟨[(3,.q 0 0),(2,.q 1 0)],[(0,.bx 105 (lx105 b)),(1,.bx 105 [lI 0,lI 0,lI 0,lI 0,lI 0,lI 0])],2⟩) ?_ fun y=>?_
 ·skip
  refine .blkE (.seqN (.sr (.op (O.lg (l':=[lI b.1,lI b.2.1,lI b.2.2.1,lI b.2.2.2.1,lI b.2.2.2.2.1,lI b.2.2.2.2.2]) ag105 Z R (.B R) R R R) R (.st ag105.sz R (.ns (.ret ?_))))));cases hm;exact .rr [] Tryz.results60 (.cell R R ag105 R .nil) R I3 trivial
 refine .iter (fun (a:Int×(Int×Int×Int×Int×Int×Int))=>⟨[(9,.i a.1),(8,.i (p0.length:Int)),(7,.f rE100 p0),(3,.q 0 0),(2,.q 1 0)],[(0,.bx 105 (lx105 a.2)),(1,.bx 105 [lI 0,lI 0,lI 0,lI 0,lI 0,lI 0])],2⟩) t [(0,1),(1,0)] R ?_;intro a m hm x w;unfold y3i at hm;refine .sr (.bi R (.ns (.seq ?_)));refine .cc hm R (fun hm=>?_) fun hm=> .exit (.seqX (.seqX ((y _ (w _ (oi hm).symm)).sub [] R)));refine .skip (.seqN (.seq (.block (.sr (bS hm fun d v hm=> .ix sl91 v R (.op (O.lg (l':=(lx100 d)) ag100 Z R (.E lv100) R R R) R (.al 2 zz100 R (.st ag100.sz R (.nr (.op (O.lg (l':=(lx100 d)) ag100 Z R (.B R) R R R) R (bS hm fun e u hm=> .op (O.ca (r':= .h 3) [3] [(0,ROW qI 3 e)] (some 4) (y6D u) cf123 R R Z R R R R ⟨⟨_,R,I4⟩,trivial⟩ I3 R) R (.op (O.lenH sl32 Z R R R) R (.an R (.sr (.fa ydg R (.lb nag3 R (.mv R (.bi R (.fa ydg R (.st nag3.sz R (.ns ?_)))))))))))))))))))));refine .join1 (fun (c:Int)=>y4u a d e c=some m) (fun c=>⟨[(5,.q 0 0),(9,.i a.1),(8,.i (p0.length:Int)),(7,.f rE100 p0),(3,.q 1 0),(2,.q 2 0)],[(0,.bx 100 (lx100 d)),(1,.bx 105 [lI (W (a.2.1+(e.length:Int))),lI a.2.2.1,lI a.2.2.2.1,lI c,lI a.2.2.2.2.2.1,lI a.2.2.2.2.2.2]),(2,.bx 105 [lI 0,lI 0,lI 0,lI 0,lI 0,lI 0])],3⟩) ?_ ?_
 ·intro c hm;unfold y4u at hm;refine .join2 (fun (j:Int) (k:Int)=>y3h a d e c j k=some m) (fun j k=>⟨[(5,.q 0 0),(9,.i a.1),(8,.i (p0.length:Int)),(7,.f rE100 p0),(3,.q 1 0),(2,.q 2 0)],[(0,.bx 100 (lx100 d)),(1,.bx 105 [lI (W (a.2.1+(e.length:Int))),lI j,lI k,lI c,lI a.2.2.2.2.2.1,lI a.2.2.2.2.2.2]),(2,.bx 105 [lI 0,lI 0,lI 0,lI 0,lI 0,lI 0])],3⟩) ?_ ?_
  ·intro j k hm;unfold y3h at hm;refine .join1 (fun (o:Int)=>y4t a d e c j k o=some m) (fun o=>⟨[(5,.q 0 0),(9,.i a.1),(8,.i (p0.length:Int)),(7,.f rE100 p0),(3,.q 1 0),(2,.q 2 0)],[(0,.bx 100 (lx100 d)),(1,.bx 105 [lI (W (a.2.1+(e.length:Int))),lI j,lI k,lI c,lI o,lI a.2.2.2.2.2.2]),(2,.bx 105 [lI 0,lI 0,lI 0,lI 0,lI 0,lI 0])],3⟩) ?_ ?_
   ·intro o hm;unfold y4t at hm;exact .reg (.fa ybO R (.lb nag3 R (.fa y6W R (.lb nag32 R (.ln sl32 R (.fa y7o R (.lb nag32 R (.ln sl32 R (.op (O.max3 Z R R R R) R (.fa ybO R (.st nag3.sz R (.nil (.blkN (.seqN (.reg (.bi R (.mv R (.nil ((x _ (oi hm).symm).sub [(0,1),(1,2)] R)))))))))))))))))))
   ·intro s;refine .sr (.fa y8C R (.lb nag4 R (.ns ?_)));exact .cc hm R (fun hm=> .reg (.fa ybN R (.lb nag3 R (.bi R (.fa ybN R (.st nag3.sz R (.nil ((s _ hm).sub [] R)))))))) fun hm=> .skip ((s _ hm).sub [] R)
  ·intro n;refine .sr (.fa y5f R (.lb nag3 R (.bi R (.ns ?_))));refine .cc hm R (fun hm=>?_) fun hm=> .skip ((n _ _ hm).sub [] R);refine .sr (.fa ybK R (.lb nag3 R (.bi R (.fa ybK R (.st nag3.sz R (.nr (.fa y6K R (.lb nag4 R (.op (O.not Z R R) R (.ns ?_))))))))));exact .cc hm R (fun hm=> .reg (.fa ybL R (.lb nag3 R (.bi R (.fa ybL R (.st nag3.sz R (.nil ((n _ _ hm).sub [] R)))))))) fun hm=> .skip ((n _ _ hm).sub [] R)
 ·intro p;refine .sr (.mv R (.bi R (.ns ?_)));exact .cc hm R (fun hm=> .reg (.fa ybM R (.lb nag3 R (.bi R (.fa ybM R (.st nag3.sz R (.nil ((p _ hm).sub [(0,2),(1,0),(2,1)] R)))))))) fun hm=> .skip ((p _ hm).sub [(0,2),(1,0),(2,1)] R)
def yz(a:Bool):Option Bool:=
 some a
def y1w(a:Int×(Int×Int×Int×Int×Int×Int)×List Int)(b:StpT)(c:List Int)(d:Int)(e:Int)(f:Int)(g:Int):Option ((Int×(Int×Int×Int×Int×Int×Int)×List Int)⊕((Int×Int×Int×Int×Int×Int)×List Int)):=
 some (.inl (W (a.1+1),(a.2.1.1,d,e,f,g,(if (if a.2.1.2.2.2.2.2<(b.1.length:Int) then(b.1.length:Int) else a.2.1.2.2.2.2.2)<(b.2.1.length:Int) then(b.2.1.length:Int) else(if a.2.1.2.2.2.2.2<(b.1.length:Int) then(b.1.length:Int) else a.2.1.2.2.2.2.2))),c))
def y1x(a:Int×(Int×Int×Int×Int×Int×Int)×List Int)(b:StpT)(c:List Int)(d:Int)(e:Int)(f:Int):Option ((Int×(Int×Int×Int×Int×Int×Int)×List Int)⊕((Int×Int×Int×Int×Int×Int)×List Int)):=
 if b.2.2.2.2.2.2 then
  y1w a b c d e f (W (a.2.1.2.2.2.2.1+1))
 else
  y1w a b c d e f a.2.1.2.2.2.2.1
def yQ(a:Int×(Int×Int×Int×Int×Int×Int)×List Int)(e:StpT)(b:List Int)(c:Int)(d:Int):Option ((Int×(Int×Int×Int×Int×Int×Int)×List Int)⊕((Int×Int×Int×Int×Int×Int)×List Int)):=
 if((b.length:Int)==(a.2.2.length:Int)) then
  y1x a e b c d (W (a.2.1.2.2.2.1+1))
 else
  y1x a e b c d a.2.1.2.2.2.1
def yR(a:Int×(Int×Int×Int×Int×Int×Int)×List Int)(b:StpT)(c:List Int):Option ((Int×(Int×Int×Int×Int×Int×Int)×List Int)⊕((Int×Int×Int×Int×Int×Int)×List Int)):=
 if decide (b.2.2.2.1≥0) then
  if(!b.2.2.2.2.1) then
   yQ a b c (W (a.2.1.2.1+1)) (W (a.2.1.2.2.1+1))
  else
   yQ a b c (W (a.2.1.2.1+1)) a.2.1.2.2.1
 else
  yQ a b c a.2.1.2.1 a.2.1.2.2.1
def yS(d:(List StpT))(a:Int×(Int×Int×Int×Int×Int×Int)×List Int):Option ((Int×(Int×Int×Int×Int×Int×Int)×List Int)⊕((Int×Int×Int×Int×Int×Int)×List Int)):=
 if decide (a.1<(d.length:Int)) then
  (idx d a.1).bind fun b=>
  (app a.2.2 b.1).bind fun e=>
  (app e b.2.1).bind fun c=>
  if b.2.2.2.2.1 then
   (app c ([b.2.2.2.1]:List Int)).bind fun f=>
   yR a b f
  else
   yR a b c
 else
  some (.inr a.2)
def y3I(p0:((Int×y1L)×(Int×y1L)×Int)×Bool)(p1:List (Int×Int×Int×Int)):Option Bool:=
 (y6j).bind fun k=>
 if(!k) then
  some false
 else
  (y3H p0).bind fun d=>
  (y3q p1 d).bind fun e=>
  (y5a d e).bind fun c=>
  (y2S d).bind fun i=>
  if(i != 0) then
   some (((c.1.length:Int)==0)&&(c.2==i))
  else
   (y5o d e ([]:List Int) false).bind fun j=>
   (iter (yS j) (0,(0,0,0,0,0,0),([]:List Int))).bind fun a=>
   if(c.2==0) then
    (y5C c.1 j).bind fun f=>
    if f then
     (y4w c.1).bind fun g=>
     (yG g a.2).bind fun h=>
     if h then
      (y5D c.1).bind fun b=>
      yz (b.1==(a.2.length:Int)&&(b.2.1==a.1.2.1&&(b.2.2.1==a.1.2.2.1&&(b.2.2.2.1==a.1.2.2.2.1&&(b.2.2.2.2.1==a.1.2.2.2.2.1&&(b.2.2.2.2.2==a.1.2.2.2.2.2&&true))))))
     else
      yz false
    else
     yz false
   else
    yz false
theorem y8a{p0:((Int×y1L)×(Int×y1L)×Int)×Bool}{p1:List (Int×Int×Int×Int)}{r:Bool}(hm:y3I p0 p1=some r):
    F0 10 [.a (lx84 p0),.f rE209 p1] [] (.b r) []:=by
  unfold y3I at hm;refine Fw.mk2 Tryz.func10 Tryz.ntmps10 R (fun C=>?_) R;refine .sr (.bo 0 R (.an R (.seq (.sr (bS hm fun r1 a6 hm=> .c0 (ya5 a6) cf46 R (.op (O.not Z R R) R (.ns ?_)))))));refine .cc hm R (fun hm=>?_) fun hm=>?_
  ·refine .sr (.an R (.ret (.seqR ?_)));cases hm;exact .rr [] Tryz.results10 (.tmp R .nil) R I3 trivial
  ·refine .skip (.seqN (.sr (.op (O.lg (l':=(lx84 p0)) ag84 Z R (.B R) R R R) R (bS hm fun s a7 hm=> .op (O.ca (r':= .g [lF qI s.1.1,lI s.1.2.1,lF qI s.1.2.2.1,lF qT s.1.2.2.2,lH 1,lI s.2.1.2.1,lH 2,lH 3,lH 4]) [1,2,3,4] [(0,ROW qI 3 s.2.1.1),(1,ROW qI 3 s.2.1.2.2.1),(2,ROW qT 124 s.2.1.2.2.2),(3,ROW qI 3 s.2.2)] (some 5) (y9i a7) cf47 R R Z R R R R ⟨⟨_,R,I4⟩,⟨_,R,I4⟩,⟨_,R,I4⟩,⟨_,R,I4⟩,trivial⟩ I3 R) R (.al 5 zz37 R (.st ag37.sz R (.nr (.mv R (.op (O.lg (l':=[lF qI s.1.1,lI s.1.2.1,lF qI s.1.2.2.1,lF qT s.1.2.2.2,lH 1,lI s.2.1.2.1,lH 2,lH 3,lH 4]) ag37 Z R (.B R) R R R) R (.fz 1 [21] [5] R R fR R R (.fz 2 [21] [5] R R fR R R (.fz 3 [21] [5] R R fR R R (.fz 4 [21] [5] R R fR R R (bS hm fun r3 a8 hm=> .op (O.ca (r':= .h 6) [6] [(0,ROW rE114 114 r3)] (some 7) (y8U a8) cf52 R R Z R R R R ⟨⟨_,R,I4⟩,trivial⟩ I3 R) R (.an R (.sr (.op (O.lg (l':=(lx37 s)) ag37 Z R (.B R) R R R) R (.mv R (.fz 6 [25,6] [] R R fR R R (bS hm fun o a9 hm=> .op (O.ca (r':= .tp [.h 7,.i o.2]) [7] [(0,ROW rE100 100 o.1)] (some 8) (y7F a9) cf57 R R Z R R R R ⟨⟨_,R,I4⟩,trivial⟩ I3 R) R (.mv R (.ex R (.ex R (.sa R (.an R (.seq (.seq ?_)))))))))))))))))))))))))));refine .reg (.op (O.lg (l':=(lx37 s)) ag37 Z R (.B R) R R R) R (bS hm fun r5 b0 hm=> .c0 (ya6 b0) cf48 R (.an R (.sr (.mv R (.bi R (.ns ?_)))))));refine .cc hm R (fun hm=>?_) fun hm=>?_
   ·refine .sr (.mv R (.op (O.lenH sl91 Z R R R) R (.bi R (.mv R ?_))));refine .cut 4 (fun (v6:Bool)=>(((o.1.length:Int)==0)&&(o.2==r5))=v6) (fun v6=>⟨[(40,.b v6)],[],8⟩) ?_ ?_
    · rintro _ rfl;refine .an R (.ret (.seqR ?_));cases hm;exact .rr [] Tryz.results10 (.tmp R .nil) R I3 trivial
    · intro J7;rcases Bool.eq_false_or_eq_true ((o.1.length:Int)==0) with hc|hc
      · refine .know (d:=36) R hc ?_;exact .op (O.mv (Gu.mk R R) R R) R (.op (O.mv (Gu.mk R R) R R) R (.op (O.bi (Gu.mk R R) R R R R) R (.op (O.pkT Z R R R R) R ((J7 (o.2==r5) (andT hc).symm).sub [] R))))
      · refine .know (d:=36) R hc ?_;exact .sk R (.sk R (.sk R (.op (O.pkF Z R R R R) R ((J7 false (andF hc).symm).sub [] R))))
   ·refine .skip (.seqN (.sr (.op (O.lg (l':=(lx37 s)) ag37 Z R (.B R) R R R) R (.mv R (bS hm fun y b1 hm=> .op (O.cac (r':= .h 8) [8] [(0,ROW rE100 100 y)] (some 9) (ya7 b1) cf51 R R Z R R ⟨⟨R,.rf⟩,⟨R,.rf⟩,⟨R,(.c (.nf (r:=qI)) .n)⟩,⟨R,.rf⟩,trivial⟩ R ⟨⟨_,R,I4⟩,trivial⟩ I3 R) R (.an R (.sr (.an R (.sr (.al 9 zz105 R (.ns (.seq (.sr (.an R (.block (bS hm fun j U hm=>?_))))))))))))))));refine .cut1 (z:= .exit 0) j (fun (j:(Int×Int×Int×Int×Int×Int)×List Int)=>⟨[(12,.q 0 0),(11,.h 1),(10,.h 2),(8,.i o.2),(7,.h 3)],[(0,.bx 105 (lx105 j.1)),(1,ROW qI 3 j.2),(2,ROW rE100 100 y),(3,ROW rE100 100 o.1)],4⟩) ?_ fun a5=>?_
    · skip
      refine .blkE (.seqN (.sr (.mv R (.op (O.lenH sl32 Z R R R) R (.fa ydg R (.st nag3.sz R (.ns ?_)))))));refine .join1 (fun (J:Bool)=>yz J=some r) (fun J=>⟨[(4,.b J)],[],0⟩) ?_ ?_
      · intro J hm;unfold yz at hm;refine .ret ?_;cases hm;exact .rr [] Tryz.results10 (.tmp R .nil) R I3 trivial
      · intro E;refine .sub (τ:=⟨[(12,.q 0 0),(11,.h 1),(10,.h 2),(8,.i o.2),(7,.h 3)],[(0,.bx 105 [lI (j.2.length:Int),lI j.1.2.1,lI j.1.2.2.1,lI j.1.2.2.2.1,lI j.1.2.2.2.2.1,lI j.1.2.2.2.2.2]),(1,ROW qI 3 j.2),(2,ROW rE100 100 y),(3,ROW rE100 100 o.1)],4⟩) ?_ [] R;refine .drP 2 [(4,[]),(4,[oT])] [_,_] ⟨O.mv Z R R,O.bi Z R R R R,trivial⟩ fun Q=>?_;rcases ifS hm with ⟨G,hm⟩|⟨G,hm⟩
        · skip
          refine bS hm fun b4 V hm=> .drX Q 7 [(4,[oT,oT]),(4,tT 3),(4,tT 3),(4,tT 5),(4,tT 6)] [_,_,_,_,_] ⟨O.kn (O.mv Z R R) G,O.mv (Gu.mk R R) R R,O.mv (Gu.mk R R) R R,O.caZ (yag V) cf58 R R (Gu.mk R R) R ⟨⟨R,.hr R,trivial⟩,⟨R,.hr R,trivial⟩,trivial⟩ (fun _ _ _ _ _ h=>h) R,O.pkT Z R R R R,trivial⟩ (by kernel_rfl) fun S=>?_;rcases ifS hm with ⟨H,hm⟩|⟨H,hm⟩
          · skip
            refine bS hm fun b2 W hm=>bS hm fun b5 X hm=> .drX S 13 [(4,tT 7),(4,tT 8),(4,tT 9),(4,tT 8),(5,tT 11),(5,tT 12)] [_,_,_,_,_,_] ⟨O.kn (O.mv Z R R) H,O.mv (Gu.mk R R) R R,O.caY (r':= .h 4) [4] [(0,ROW qI 3 b2)] (some 5) (y7s W) cf53 R R (Gu.mk R R) R R ⟨⟨R,.hr R,trivial⟩,trivial⟩ R ⟨.row flr3,trivial⟩ (fun _ _ _ _ h=>h) ⟨⟨_,R,I4⟩,trivial⟩ I3 R,O.mv (Gu.mk R R) R R,O.caZ (y3m X) cf59 R R (Gu.mk R R) R ⟨⟨R,.hr R,trivial⟩,⟨R,.hr R,trivial⟩,trivial⟩ (fun _ _ _ _ _ h=>h) R,O.pkT Z R R R R,trivial⟩ (by kernel_rfl) fun T=>?_;rcases ifS hm with ⟨I,hm⟩|⟨I,hm⟩
            · skip
              exact bS hm fun m Y hm=> .drF T [(5,tT 13),(5,tT 14),(5,tT 15),(5,tT 14),(5,tT 17),(5,tT 18),(5,tT 19)] [_,_,_,_,_,_,_] ⟨[(4,.b (m.1==(j.2.length:Int)&&(m.2.1==j.1.2.1&&(m.2.2.1==j.1.2.2.1&&(m.2.2.2.1==j.1.2.2.2.1&&(m.2.2.2.2.1==j.1.2.2.2.2.1&&(m.2.2.2.2.2==j.1.2.2.2.2.2&&true)))))))],[],5⟩ ⟨O.kn (O.mv Z R R) I,O.mv (Gu.mk R R) R R,O.caZ (yah Y) cf60 R R (Gu.mk R R) R ⟨⟨R,.hr R,trivial⟩,trivial⟩ (fun _ _ _ _ _ h=>h) R,O.lg (l':=[lI (j.2.length:Int),lI j.1.2.1,lI j.1.2.2.1,lI j.1.2.2.2.1,lI j.1.2.2.2.2.1,lI j.1.2.2.2.2.2]) ag105 (Gu.mk R R) R (.B R) R R R,O.eqs (us:=[.int .i64 m.1,.int .i64 m.2.1,.int .i64 m.2.2.1,.int .i64 m.2.2.2.1,.int .i64 m.2.2.2.2.1,.int .i64 m.2.2.2.2.2]) (vs:=[.int .i64 (j.2.length:Int),.int .i64 j.1.2.1,.int .i64 j.1.2.2.1,.int .i64 j.1.2.2.2.1,.int .i64 j.1.2.2.2.2.1,.int .i64 j.1.2.2.2.2.2]) (b:=(m.1==(j.2.length:Int)&&(m.2.1==j.1.2.1&&(m.2.2.1==j.1.2.2.1&&(m.2.2.2.1==j.1.2.2.2.1&&(m.2.2.2.2.1==j.1.2.2.2.2.1&&(m.2.2.2.2.2==j.1.2.2.2.2.2&&true))))))) (Eqs.mk Tryz.underlying105 (by kernel_rfl) fun w=>(y6T rfl nag3.agg nag3.sz rfl rfl (run_equalIn_int _ _ _ _ _ _ _ Tryz.underlying3) (y6T rfl nag3.agg nag3.sz rfl rfl (run_equalIn_int _ _ _ _ _ _ _ Tryz.underlying3) (y6T rfl nag3.agg nag3.sz rfl rfl (run_equalIn_int _ _ _ _ _ _ _ Tryz.underlying3) (y6T rfl nag3.agg nag3.sz rfl rfl (run_equalIn_int _ _ _ _ _ _ _ Tryz.underlying3) (y6T rfl nag3.agg nag3.sz rfl rfl (run_equalIn_int _ _ _ _ _ _ _ Tryz.underlying3) (y6T rfl nag3.agg nag3.sz rfl rfl (run_equalIn_int _ _ _ _ _ _ _ Tryz.underlying3) rfl))))))) (by kernel_rfl) (Gu.mk R R) R R R R,O.pkT Z R R R R,O.as Z R R,trivial⟩ (by kernel_rfl) R ((E _ hm).sub [] R)
            · skip
              exact .drF T [(5,tT 13),(5,tT 14),(5,tT 15),(5,tT 14),(5,tT 17),(5,tT 18),(5,tT 19)] [_,_,_,_,_,_,_] ⟨[(4,.b false)],[],5⟩ ⟨O.kn (O.mv Z R R) I,O.skip R R R R,O.skip R R R R,O.skip R R R R,O.skip R R R R,O.pkF Z R R R R,O.as Z R R,trivial⟩ (by kernel_rfl) R ((E _ hm).sub [] R)
          · skip
            exact .drF S [(4,tT 7),(4,tT 8),(4,tT 9),(4,tT 8),(4,tT 11),(4,tT 12),(4,tT 13),(4,tT 14),(4,tT 15),(4,tT 14),(4,tT 17),(4,tT 18),(4,tT 19)] [_,_,_,_,_,_,_,_,_,_,_,_,_] ⟨[(4,.b false)],[],4⟩ ⟨O.kn (O.mv Z R R) H,O.skip R R R R,O.skip R R R R,O.skip R R R R,O.skip R R R R,O.pkF Z R R R R,O.mv Z R R,O.skip R R R R,O.skip R R R R,O.skip R R R R,O.skip R R R R,O.pkF Z R R R R,O.as Z R R,trivial⟩ (by kernel_rfl) R ((E _ hm).sub [] R)
        · skip
          exact .drF Q [(4,[oT,oT]),(4,tT 3),(4,tT 3),(4,tT 5),(4,tT 6),(4,tT 7),(4,tT 8),(4,tT 9),(4,tT 8),(4,tT 11),(4,tT 12),(4,tT 13),(4,tT 14),(4,tT 15),(4,tT 14),(4,tT 17),(4,tT 18),(4,tT 19)] [_,_,_,_,_,_,_,_,_,_,_,_,_,_,_,_,_,_] ⟨[(4,.b false)],[],4⟩ ⟨O.kn (O.mv Z R R) G,O.skip R R R R,O.skip R R R R,O.skip R R R R,O.pkF Z R R R R,O.mv Z R R,O.skip R R R R,O.skip R R R R,O.skip R R R R,O.skip R R R R,O.pkF Z R R R R,O.mv Z R R,O.skip R R R R,O.skip R R R R,O.skip R R R R,O.skip R R R R,O.pkF Z R R R R,O.as Z R R,trivial⟩ (by kernel_rfl) R ((E _ hm).sub [] R)
    refine .nlg qI 3 11 0 R R (.iter (fun (e:Int×(Int×Int×Int×Int×Int×Int)×List Int)=>⟨[(13,.i e.1),(12,.q 0 0),(11,.h 1),(10,.h 2),(8,.i o.2),(7,.h 3)],[(0,.bx 105 (lx105 e.2.1)),(1,ROW qI 3 e.2.2),(2,ROW rE100 100 y),(3,ROW rE100 100 o.1)],4⟩) U [(0,9),(1,10),(2,8),(3,7)] R ?_);intro e x hm a4 a3;unfold yS at hm;refine .seq (.sr (.mv R (.mv R (.op (O.lenH sl91 Z R R R) R (.bi R (.ns ?_))))));refine .cc hm R (fun hm=>?_) fun hm=> .exit (.seqX (.seqX ((a5 _ (a3 _ (oi hm).symm)).sub [] R)));refine .skip (.seqN (.seq (.block (.sr (.mv R (.mv R (bS hm fun p P hm=> .op (O.ir sl91 Z R R R P R) R (.op (O.lg (l':=(lx100 p)) ag100 Z R (.R R P lv100) R R R) R (.al 4 zz100 R (.st ag100.sz R (.nr (.mv R (.op (O.lenH sl32 Z R R R) R (.an R (.seq ?_)))))))))))))));refine .sub (τ:=⟨[(15,.i (e.2.2.length:Int)),(14,.q 4 0),(13,.i e.1),(12,.q 0 0),(11,.h 1),(10,.h 2),(8,.i o.2),(7,.h 3)],[(4,.bx 100 (lx100 p)),(0,.bx 105 (lx105 e.2.1)),(1,ROW qI 3 e.2.2),(2,ROW rE100 100 y),(3,ROW rE100 100 o.1)],5⟩) ?_ [] R;refine bS hm fun b6 a0 hm=>bS hm fun b3 a1 hm=>?_;refine .drz 7 [(3,5)] [(5,[],[],[]),(5,[],[],[]),(5,[oF,oT],[],[]),(5,[oT,oT,oT],[],[]),(5,[],[1],[]),(5,[oF,oF,oF,oF,oT],[1],[]),(6,[oT,oT,oT,oT,oT,oT],[],[]),(7,[oT,oT,oT,oT,oT,oT,oT],[],[(3,5)])] [_,_,_,_,_,_,_,_] ⟨[(11,.h 6),(15,.i (e.2.2.length:Int)),(14,.q 4 0),(13,.i e.1),(12,.q 0 0),(10,.h 2),(8,.i o.2),(7,.h 3)],[(6,ROW qI 3 b3),(4,.bx 100 (lx100 p)),(0,.bx 105 (lx105 e.2.1)),(2,ROW rE100 100 y),(3,ROW rE100 100 o.1)],7⟩ ⟨O.mv Z R R,O.faP y6W Z R R,O.ld nag32 Z R (.B R) R R,O.ap 5 Tryz.underlying32 el3 R R Z R R (.fr R) a0 R,O.faP y7o Z R R,O.ld nag32 Z R (.B R) R R,O.ap 6 Tryz.underlying32 el3 R R Z R R (.fr R) a1 R,O.as Z R R,trivial⟩ (by kernel_rfl) R ?_;refine .seqN ?_;refine .join1 (fun (t:List Int)=>yR e p t=some x) (fun t=>⟨[(11,.h 0),(15,.i (e.2.2.length:Int)),(14,.q 1 0),(13,.i e.1),(12,.q 2 0),(10,.h 3),(8,.i o.2),(7,.h 4)],[(0,ROW qI 3 t),(1,.bx 100 (lx100 p)),(2,.bx 105 (lx105 e.2.1)),(3,ROW rE100 100 y),(4,ROW rE100 100 o.1)],5⟩) ?_ ?_
    · intro t hm;unfold yR at hm;refine .join2 (fun (u:Int) (v:Int)=>yQ e p t u v=some x) (fun u v=>⟨[(11,.h 0),(15,.i (e.2.2.length:Int)),(14,.q 1 0),(13,.i e.1),(12,.q 2 0),(10,.h 3),(8,.i o.2),(7,.h 4)],[(0,ROW qI 3 t),(1,.bx 100 (lx100 p)),(2,.bx 105 [lI e.2.1.1,lI u,lI v,lI e.2.1.2.2.2.1,lI e.2.1.2.2.2.2.1,lI e.2.1.2.2.2.2.2]),(3,ROW rE100 100 y),(4,ROW rE100 100 o.1)],5⟩) ?_ ?_
      · intro u v hm;unfold yQ at hm;refine .join1 (fun (D:Int)=>y1x e p t u v D=some x) (fun D=>⟨[(11,.h 0),(14,.q 1 0),(13,.i e.1),(12,.q 2 0),(10,.h 3),(8,.i o.2),(7,.h 4)],[(0,ROW qI 3 t),(1,.bx 100 (lx100 p)),(2,.bx 105 [lI e.2.1.1,lI u,lI v,lI D,lI e.2.1.2.2.2.2.1,lI e.2.1.2.2.2.2.2]),(3,ROW rE100 100 y),(4,ROW rE100 100 o.1)],5⟩) ?_ ?_
        · intro D hm;unfold y1x at hm;refine .join1 (fun (K:Int)=>y1w e p t u v D K=some x) (fun K=>⟨[(11,.h 0),(14,.q 1 0),(13,.i e.1),(12,.q 2 0),(10,.h 3),(8,.i o.2),(7,.h 4)],[(0,ROW qI 3 t),(1,.bx 100 (lx100 p)),(2,.bx 105 [lI e.2.1.1,lI u,lI v,lI D,lI K,lI e.2.1.2.2.2.2.2]),(3,ROW rE100 100 y),(4,ROW rE100 100 o.1)],5⟩) ?_ ?_
          · intro K hm;unfold y1w at hm;exact .reg (.fa ybO R (.lb nag3 R (.fa y6W R (.lb nag32 R (.ln sl32 R (.fa y7o R (.lb nag32 R (.ln sl32 R (.op (O.max3 Z R R R R) R (.fa ybO R (.st nag3.sz R (.nil (.blkN (.seqN (.reg (.mv R (.bi R (.sa R (.nil ((a4 _ (oi hm).symm).sub [(0,2),(1,0),(2,3),(3,4)] R))))))))))))))))))))
          · intro N;refine .sr (.fa y8C R (.lb nag4 R (.ns ?_)));exact .cc hm R (fun hm=> .reg (.fa ybN R (.lb nag3 R (.bi R (.fa ybN R (.st nag3.sz R (.nil ((N _ hm).sub [] R)))))))) fun hm=> .skip ((N _ hm).sub [] R)
        · intro M;refine .sr (.mv R (.op (O.lenH sl32 Z R R R) R (.mv R (.bi R (.ns ?_)))));exact .cc hm R (fun hm=> .reg (.fa ybM R (.lb nag3 R (.bi R (.fa ybM R (.st nag3.sz R (.nil ((M _ hm).sub [] R)))))))) fun hm=> .skip ((M _ hm).sub [] R)
      · intro F;refine .sr (.fa y5f R (.lb nag3 R (.bi R (.ns ?_))));refine .cc hm R (fun hm=>?_) fun hm=> .skip ((F _ _ hm).sub [] R);refine .sr (.fa ybK R (.lb nag3 R (.bi R (.fa ybK R (.st nag3.sz R (.nr (.fa y6K R (.lb nag4 R (.op (O.not Z R R) R (.ns ?_))))))))));exact .cc hm R (fun hm=> .reg (.fa ybL R (.lb nag3 R (.bi R (.fa ybL R (.st nag3.sz R (.nil ((F _ _ hm).sub [] R)))))))) fun hm=> .skip ((F _ _ hm).sub [] R)
    · intro L;refine .sr (.fa y6K R (.lb nag4 R (.ns ?_)));exact .cc hm R (fun hm=> .reg (.mv R (.fa y5f R (.lb nag3 R (.op (O.bsF (r:=qI) (zs:=([p.2.2.2.1]:List Int)) bs32 R R Z R R R (.c .k .n) R R R) R (bS hm fun b7 a2 hm=> .op (O.ap 7 Tryz.underlying32 el3 R R Z R R (.fr R) a2 R) R (.sa R (.nil ((L _ hm).sub [(0,7),(1,4),(2,0),(3,2),(4,3)] R))))))))) fun hm=> .skip ((L _ hm).sub [(0,6),(1,4),(2,0),(3,2),(4,3)] R)
end
end Go.Proofs.YtecmobjeeonmaaaGreatDoor
namespace Go.Proofs.YtecmobjeeonmaaaGreatDoor
open Go.RowKit Go.Shelf
structure St where
 s:Int
 p:Int
 e:Int
def St.cells(x:St):List Value:=[.int .i64 x.s,.int .i64 x.p,.int .i64 x.e]
end Go.Proofs.YtecmobjeeonmaaaGreatDoor
namespace Go.Proofs.YtecmobjeeonmaaaGreatDoor
def wval(u:List Int):Int:=u.foldl (fun acc e=>33*acc+e+1) 0
theorem ybz(u:List Int)(e:Int):wval (u++[e])=33*wval u+e+1:=by simp [wval,List.foldl_append]
def Evs(u:List Int):Prop:=∀e∈u,0≤e∧e<32
theorem Evs.nil :Evs []:=fun e h=>by cases h
theorem Evs.snoc{u:List Int}{e:Int}(h:Evs u)(h0:0≤e)(h1:e<32):Evs (u++[e]):=by
 intro x hx;rcases List.mem_append.1 hx with h2|h2
 ·exact h x h2
 ·rw [List.mem_singleton.1 h2];exact⟨h0,h1⟩
theorem Evs.of_snoc{u:List Int}{e:Int}(h:Evs (u++[e])):Evs u∧0≤e∧e<32:=
 ⟨fun x hx=>h x (List.mem_append_left _ hx),h e (by simp)⟩
theorem yh7{α:Type}{P:List α→Prop}(h0:P [])(h1:∀u e,P u→P (u++[e]))(u:List α):P u:=by
 have h2:∀n (u:List α),u.length=n→P u:=by
  intro n
  induction n with
  | zero=>intro u hu;rw [List.eq_nil_of_length_eq_zero hu];exact h0
  | succ n ih=>
   intro u hu;rcases List.eq_nil_or_concat u with rfl|⟨l,b,rfl⟩
   ·cases hu
   ·have hl:l.length=n:=by simpa using hu
    simpa using h1 l b (ih l hl)
 exact h2 _ u rfl
theorem yeF(u:List Int):Evs u→0≤wval u:=by
 refine yh7 (P:=fun u=>Evs u→0≤wval u) (fun _=>Int.le_refl 0) (fun u e ih h=>?_) u;have h1:=h.of_snoc;have:=ih h1.1;rw [ybz];omega
def Leads(es:List Ed)(perm:Ed→Bool)(s:Int):List Int→Int→Prop
 | [],t=>s=t
 | e::u,t=>∃x∈es,x.f=s∧x.e=e∧perm x=true∧Leads es perm x.t u t
theorem Leads.snoc{es:List Ed}{perm:Ed→Bool}:∀{u:List Int} {s t:Int},Leads es perm s u t→∀{x:Ed},x∈es→x.f=t→perm x=true→Leads es perm s (u++[x.e]) x.t
 | [],s,t,h,x,hx,hf,hp=>⟨x,hx,by rw [hf];exact h.symm,rfl,hp,rfl⟩
 | e::u,s,t,⟨y,hy,h1,h2,h3,h4⟩,x,hx,hf,hp=>⟨y,hy,h1,h2,h3,h4.snoc hx hf hp⟩
theorem Leads.of_snoc{es:List Ed}{perm:Ed→Bool}{e:Int}:∀{u:List Int} {s t:Int},Leads es perm s (u++[e]) t→∃x∈es,Leads es perm s u x.f∧x.e=e∧x.t=t∧perm x=true
 | [],s,t,⟨y,hy,h1,h2,h3,h4⟩=>⟨y,hy,h1.symm,h2,h4,h3⟩
 | a::u,s,t,⟨y,hy,h1,h2,h3,h4⟩=>by
  obtain⟨x,hx,g1,g2,g3,g4⟩:=Leads.of_snoc (u:=u) h4;exact⟨x,hx,⟨y,hy,h1,h2,h3,g1⟩,g2,g3,g4⟩
def EvEs(es:List Ed):Prop:=∀x∈es,0≤x.e∧x.e<32
structure Found (es:List Ed) (perm:Ed→Bool) (s:Int) (L:List (List Int×Int)) (b:Int):Prop where
 lead:∀r∈L,Leads es perm s r.1 r.2
 sorted:∀j k:Nat,j<k→∀r r':List Int×Int,L[j]? =some r→L[k]? =some r'→wval r.1<wval r'.1
 bd:∀r∈L,wval r.1≤b
section
variable{es:List Ed}{perm:Ed→Bool}{s:Int}{L:List (List Int×Int)}{b:Int}{m i:Nat}
theorem Found.mono(h:Found es perm s L b){j k:Nat}(hjk:j≤k){r r':List Int×Int}(hj:L[j]? =some r)(hk:L[k]? =some r'):wval r.1≤wval r'.1:=by
 by_cases e:j=k
 ·subst e;rw [hj] at hk;cases hk;exact Int.le_refl _
 ·exact Int.le_of_lt (h.sorted j k (by omega) r r' hj hk)
end
def edLt(x y:Ed):Prop:=x.f<y.f∨(x.f=y.f∧x.e<y.e)
def ycK(es:List Ed):Prop:=es.Pairwise edLt
def ybQ(es:List Ed)(tg:List Int):Nat→Int→Prop
 | 0,s=>s∈tg
 | k+1,s=>∃x∈es,x.f=s∧ybQ es tg k x.t
end Go.Proofs.YtecmobjeeonmaaaGreatDoor
namespace Go.Proofs.YtecmobjeeonmaaaGreatDoor
open Go Go.RowKit
variable{x:Int}{α:Type}{xs us vs:List Int}{β:Type}{v:β}
theorem W_of(h0: -9223372036854775808≤x)(h1:x<9223372036854775808):W x=x:=IntWalk.i64_in _ (by omega)
theorem W_nat{k:Nat}(h:k<9223372036854775808):W (k:Int)=k:=W_of (by omega) (by omega)
theorem ya{xs:List α}{i:Nat}(h:i<xs.length):idx xs (i:Int)=some xs[i]:=by rw [ybB,yGe h]
theorem y4m{S O:Type}{f:S→Option (S⊕O)}{s:S}{o:O}{n:Nat}(hn:n≤18446744073709551616)(h:iterF f n s=some o):iter f s=some o:=by
 have mono:∀(n m:Nat) (s:S),n≤m→iterF f n s=some o→iterF f m s=some o:=by
  intro n
  induction n with
  | zero=>intro m s _ h;cases h
  | succ n ih=>
   intro m s hm h;obtain⟨k,rfl⟩:∃k,m=k+1:=⟨m-1,by omega⟩;rw [yb] at h ⊢;split at h
   ·cases h
   ·rename_i h1;exact ih k _ (by omega) h
   ·rename_i h1;exact h
 exact mono n _ s hn h
theorem yd{S O:Type}{f:S→Option (S⊕O)}(P:Nat→S→Prop)(Q:O→Prop):∀(n i:Nat),n<i+18446744073709551616→(∀i s,i<n→P i s→(∃s',f s=some (.inl s')∧P (i+1) s')∨∃o,f s=some (.inr o)∧Q o)→(∀s,P n s→∃o,f s=some (.inr o)∧Q o)→i≤n→
  ∀s,P i s→∃o,iter f s=some o∧Q o:=by
 have key:∀(n:Nat),(∀i s,i<n→P i s→(∃s',f s=some (.inl s')∧P (i+1) s')∨∃o,f s=some (.inr o)∧Q o)→(∀s,P n s→∃o,f s=some (.inr o)∧Q o)→∀(j i:Nat),i+j=n→∀s,P i s→∃o,iterF f (j+1) s=some o∧Q o:=by
  intro n step fin j
  induction j with
  | zero=>
   intro i hi s h;obtain rfl:i=n:=by omega
   obtain⟨o,h1,h2⟩:=fin s h;exact⟨o,by rw [yb,h1],h2⟩
  | succ j ih=>
   intro i hi s h;rcases step i s (by omega) h with ⟨s',h1,h2⟩|⟨o,h1,h2⟩
   ·obtain ⟨o,h3,h4⟩:=ih (i+1) (by omega) s' h2;exact⟨o,by rw [yb,h1];exact h3,h4⟩
   ·exact ⟨o,by rw [yb,h1],h2⟩
 intro n i hn step fin hi s h;obtain⟨o,h1,h2⟩:=key n step fin (n-i) i (by omega) s h;exact⟨o,y4m (by omega) h1,h2⟩
theorem nxt{i:Nat}(h:i<4611686018427387904):W ((i:Int)+1)=((i+1:Nat):Int):=by rw [show (i:Int)+1=((i+1:Nat):Int) by omega,W_nat (by omega)]
theorem ct_lt{i n:Nat}(h:i<n):decide ((i:Int)<(n:Int))=true:=by simp;omega
theorem ct_ge{n:Nat}:¬decide ((n:Int)<(n:Int))=true:=by simp
theorem y9k{xs:List α}{i:Nat}{y:α}(h:i<xs.length):upd xs (i:Int) y=some (xs.set i y):=by
 unfold upd;rw [if_pos ⟨by omega,by omega⟩,Int.toNat_natCast]
theorem y9W(h:xs.length≤4294967296):y2p xs=some xs:=by
 rw [y2p,yj (by simpa using h)];rfl
def errO(e:Int):Unit⊕Int:=if e=0 then .inl () else .inr e
theorem yeG{n:Int}(hl:xs.length<4611686018427387904):∀(j i:Nat),i+j=xs.length→
  iterF (y3a xs n) (j+1) (i:Int)=some (errO (yA n (y7y xs i) (xs.drop i))):=by
 intro j
 induction j with
 | zero=>
  intro i hi;have e:xs.drop i= []:=List.drop_of_length_le (by omega);rw [yb,y3a,if_neg (by simp;omega),e];rfl
 | succ j ih=>
  intro i hi;have hlt:i<xs.length:=by omega
  rw [yb,y3a,if_pos (by simp;omega),ya hlt,yOb];by_cases h1:xs[i]<0∨n≤xs[i]
  ·rw [if_pos (by simpa using h1),ygV hlt h1];rfl
  ·rw [if_neg (by simpa using h1)];by_cases h0:0<i
   ·rw [if_pos (by simp;omega),show(i:Int)-1=((i-1:Nat):Int) by omega,W_nat (by omega),ya (show i-1<xs.length by omega),yOb,yOb];by_cases h2:xs[i]≤xs[i-1]
    ·rw [if_pos (by simpa using h2),ygW hlt h1 h0 h2];rfl
    ·rw [if_neg (by simpa using h2),show(i:Int)+1=((i+1:Nat):Int) by omega,W_nat (by omega),yc6 hlt h1 (fun _=>by omega)];exact ih (i+1) (by omega)
   ·rw [if_neg (by simp;omega),yOb,if_neg (by simp),show(i:Int)+1=((i+1:Nat):Int) by omega,W_nat (by omega),yc6 hlt h1 (fun h=>absurd h h0)];exact ih (i+1) (by omega)
theorem y8V{n:Int}(hl:xs.length<4611686018427387904):y2n xs n=some (yA n none xs):=by
 have h:iter (y3a xs n) 0=some (errO (yA n none xs)):=y4m (by omega) (yeG (n:=n) hl xs.length 0 (by omega));rw [y2n,h,yOb];by_cases h0:yA n none xs=0
 ·rw [h0];rfl
 ·rw [errO,if_neg h0]
theorem yh8(hl:xs.length<4611686018427387904):∀(j i:Nat),i+j=xs.length→
  ∃o,iterF (y3J xs x) (j+1) (i:Int)=some o∧((o= .inl ()∧x∉xs.drop i)∨∃k:Nat,i≤k∧o= .inr (k:Int)∧x∈xs.drop i):=by
 intro j
 induction j with
 | zero=>
  intro i hi;have e:xs.drop i= []:=List.drop_of_length_le (by omega);refine⟨.inl (),?_,.inl ⟨rfl,by rw [e];simp⟩⟩;rw [yb,y3J,if_neg (by simp;omega)]
 | succ j ih=>
  intro i hi;have hlt:i<xs.length:=by omega
  rw [yb,y3J,if_pos (by simp;omega),ya hlt,yOb];by_cases h1:x=xs[i]
  ·rw [if_pos (by simpa using h1)];exact⟨_,rfl,.inr ⟨i,Nat.le_refl _,rfl,by rw [List.drop_eq_getElem_cons hlt,h1];exact List.mem_cons_self⟩⟩
  ·rw [if_neg (by simpa using h1),show(i:Int)+1=((i+1:Nat):Int) by omega,W_nat (by omega)];obtain⟨o,h2,h3⟩:=ih (i+1) (by omega);refine⟨o,h2,?_⟩;rw [List.drop_eq_getElem_cons hlt];rcases h3 with ⟨h4,h5⟩|⟨k,h4,h5,h6⟩
   ·exact .inl ⟨h4,fun hc=>(List.mem_cons.1 hc).elim h1 h5⟩
   ·exact .inr ⟨k,by omega,h5,List.mem_cons_of_mem _ h6⟩
theorem y3D(hl:xs.length<4611686018427387904):yf xs x=some (hasB xs x):=by
 obtain⟨o,h1,h2⟩:=yh8 (x:=x) hl xs.length 0 (by omega);have h:iter (y3J xs x) 0=some o:=y4m (by omega) h1;rw [yf,y6M,h,yOb];rcases h2 with ⟨rfl,h4⟩|⟨k,_,rfl,h4⟩
 ·rw [y9w.2 (by simpa using h4)];rfl
 ·rw [yc.2 (by simpa using h4)];show some (decide ((k:Int)≥0))=some true;simp
def edP(x:Ed):Int×Int×Int:=(x.f,x.e,x.t)
def autP(a:Aut):List Int×Int×List Int×List (Int×Int×Int):=(a.al,a.n,a.ms,a.es.map edP)
def prevE(es:List Ed)(k:Nat):Option Ed:=if k=0 then none else es[k-1]?
theorem yeH{al:List Int}{n:Int}{es:List Ed}{k:Nat}(hk:k<es.length):edErr al n (prevE es k) (es.drop k)=
  if(es[k].f<0∨n≤es[k].f∨es[k].t<0∨n≤es[k].t) then 2 else if hasB al es[k].e=false then 9 else if(∃q,prevE es k=some q∧(es[k].f<q.f∨(es[k].f=q.f∧es[k].e≤q.e))) then 5 else edErr al n (prevE es (k+1)) (es.drop (k+1)):=by
 rw [List.drop_eq_getElem_cons hk,edErr];congr 3;simp [prevE,yGe hk]
theorem yh9{a:Aut}(hl:a.es.length<4611686018427387904)(hal:a.al.length<4611686018427387904):∀(j i:Nat),i+j=a.es.length→
  iterF (y2x (autP a)) (j+1) (i:Int)=some (errO (edErr a.al a.n (prevE a.es i) (a.es.drop i))):=by
 have hlen:(autP a).2.2.2.length=a.es.length:=by simp [autP]
 have hat:∀(i:Nat) (h:i<a.es.length),idx (autP a).2.2.2 (i:Int)=some (edP a.es[i]):=fun i h=>by
  rw [ya (by rw [hlen];exact h)];simp [autP]
 intro j
 induction j with
 | zero=>
  intro i hi;have e:a.es.drop i= []:=List.drop_of_length_le (by omega);rw [yb,y2x,if_neg (by rw [hlen];simp;omega),e];rfl
 | succ j ih=>
  intro i hi;have hlt:i<a.es.length:=by omega
  have hnext:y2w (i:Int)=some (.inl ((i+1:Nat):Int)):=by
   rw [y2w,show(i:Int)+1=((i+1:Nat):Int) by omega,W_nat (by omega)]
  rw [yb,y2x,if_pos (by rw [hlen];simp;omega),hat i hlt,yOb,yeH hlt];by_cases h1:a.es[i].f<0∨a.n≤a.es[i].f∨a.es[i].t<0∨a.n≤a.es[i].t
  ·rw [if_pos (by simp only [Bool.or_eq_true,decide_eq_true_eq];show((a.es[i].f<0∨a.es[i].f≥a.n)∨a.es[i].t<0)∨a.es[i].t≥a.n;omega),if_pos h1];rfl
  ·rw [if_neg (by simp only [Bool.or_eq_true,decide_eq_true_eq];show ¬(((a.es[i].f<0∨a.es[i].f≥a.n)∨a.es[i].t<0)∨a.es[i].t≥a.n);omega),if_neg h1];rw [show yf (autP a).1 (edP a.es[i]).2.1=some (hasB a.al a.es[i].e) from y3D hal,yOb];cases h2:hasB a.al a.es[i].e with
   | false=>rfl
   | true=>
    rw [if_neg (show ¬(!true)=true by simp),if_neg (show ¬(true=false) by simp)];by_cases h0:i=0
    ·subst h0;rw [if_pos (by simp),hnext,if_neg (by rintro⟨q,hq,_⟩;simp [prevE] at hq)];exact ih 1 (by omega)
    ·have hp:prevE a.es i=some a.es[i-1]:=by rw [prevE,if_neg h0,yGe (by omega)]
     rw [if_neg (by simp;omega),show(i:Int)-1=((i-1:Nat):Int) by omega,W_nat (by omega),hat (i-1) (by omega),yOb];by_cases h3:a.es[i].f<a.es[i-1].f∨(a.es[i].f=a.es[i-1].f∧a.es[i].e≤a.es[i-1].e)
     ·rw [if_pos (by simp only [Bool.or_eq_true,Bool.and_eq_true,decide_eq_true_eq,beq_iff_eq];exact h3),if_pos ⟨_,hp,h3⟩];rfl
     ·rw [if_neg (by simp only [Bool.or_eq_true,Bool.and_eq_true,decide_eq_true_eq,beq_iff_eq];exact h3),hnext,if_neg (by rintro⟨q,hq,h4⟩;rw [hp] at hq;cases hq;exact h3 h4)];exact ih (i+1) (by omega)
theorem yb3{a:Aut}(hl:a.es.length<4611686018427387904)(hal:a.al.length<4611686018427387904)(hms:a.ms.length<4611686018427387904):y2d (autP a)=some a.err:=by
 have h:iter (y2x (autP a)) 0=some (errO (edErr a.al a.n none a.es)):=y4m (by omega) (yh9 hl hal a.es.length 0 (by omega));have he:y4L (autP a)=some (edErr a.al a.n none a.es):=by
  rw [y4L,h,yOb];by_cases h0:edErr a.al a.n none a.es=0
  ·rw [h0];rfl
  ·rw [errO,if_neg h0]
 rw [y2d,show y2n (autP a).1 32=some (yA 32 none a.al) from y8V hal,yOb,Aut.err];by_cases h1:(yA 32 none a.al != 0)=true
 ·rw [if_pos h1,if_pos h1]
 ·rw [if_neg h1,if_neg h1];by_cases h2:a.n<0
  ·rw [if_pos (show decide ((autP a).2.1<0)=true from decide_eq_true h2),if_pos h2]
  ·rw [if_neg (show ¬decide ((autP a).2.1<0)=true from fun e=>h2 (of_decide_eq_true e)),if_neg h2];by_cases h3:4096<a.n
   ·rw [if_pos (show decide ((autP a).2.1>4096)=true from decide_eq_true h3),if_pos h3]
   ·rw [if_neg (show ¬decide ((autP a).2.1>4096)=true from fun e=>h3 (of_decide_eq_true e)),if_neg h3,show y2n (autP a).2.2.1 (autP a).2.1=some (yA a.n none a.ms) from y8V hms,yOb];by_cases h4:(yA a.n none a.ms != 0)=true
    ·rw [if_pos h4,if_pos h4]
    ·rw [if_neg h4,if_neg h4,he];rfl
abbrev Inc(xs:List Int):Prop:=xs.Pairwise (· < ·)
theorem yim{i j:Nat}(h:i+j<9223372036854775808):W ((IntKind.u64.wrap (W ((i:Int)+(j:Int)))).fdiv (2 ^ (min (1:Int).toNat 64)))=(((i+j)/2:Nat):Int):=by
 rw [W_of (x:=(i:Int)+j) (by omega) (by omega),IntWalk.u64_in _ (by omega),show(2:Int) ^ (min (1:Int).toNat 64)=2 from rfl,Int.fdiv_eq_ediv_of_nonneg _ (by omega),W_of (by omega) (by omega)];omega
theorem yin(x y:Int):y6Y x y=some (decide (x<y)):=by
 rw [y6Y,show y6h x=some false by rw [y6h];simp,yOb,if_neg (by simp),yOb,Bool.false_or]
theorem yiU{t:Int}(hl:xs.length<4294967296)(hs:Inc xs):∀(f i j:Nat),j≤i+f→i≤j→j≤xs.length→(∀k (h:k<xs.length),k<i→xs[k]<t)→(∀k (h:k<xs.length),j≤k→t≤xs[k])→
  ∃p:Nat,iterF (y1z xs t) (f+1) ((j:Int),(i:Int))=some (p:Int)∧p≤xs.length∧(∀k (h:k<xs.length),k<p→xs[k]<t)∧(∀k (h:k<xs.length),p≤k→t≤xs[k]):=by
 intro f
 induction f with
 | zero=>
  intro i j h1 h2 h3 h4 h5;refine⟨i,?_,by omega,h4,fun k h hk=>h5 k h (by omega)⟩;rw [yb,y1z,if_neg (by simp;omega)]
 | succ f ih=>
  intro i j h1 h2 h3 h4 h5;rw [yb,y1z];dsimp only;by_cases hij:i<j
  ·have hm:(i+j)/2<xs.length:=by omega
   rw [if_pos (by simp;omega),yim (by omega),ya hm,yOb,yin,yOb];have mono:∀(a b:Nat) (ha:a<xs.length) (hb:b<xs.length),a≤b→xs[a]≤xs[b]:=fun a b ha hb hab=>by
    rcases Nat.lt_or_ge a b with h|h
    ·exact Int.le_of_lt (List.pairwise_iff_getElem.1 hs a b ha hb h)
    ·have:a=b:=by omega
     subst this;exact Int.le_refl _
   by_cases hc:xs[(i+j)/2]<t
   ·rw [if_pos (decide_eq_true hc),show(((i+j)/2:Nat):Int)+1=(((i+j)/2+1:Nat):Int) by omega,W_nat (by omega)];exact ih _ j (by omega) (by omega) h3 (fun k h hk=>by have:=mono k _ h hm (by omega);omega) h5
   ·rw [if_neg (by simpa using hc)];exact ih i _ (by omega) (by omega) (by omega) h4 (fun k h hk=>by have:=mono _ k hm h hk;omega)
  ·rw [if_neg (by simp;omega)];exact⟨i,rfl,by omega,h4,fun k h hk=>h5 k h (by omega)⟩
theorem y7G{t:Int}(hl:xs.length<4294967296)(hs:Inc xs):y3F xs t=some (hasB xs t):=by
 obtain⟨p,hp,hle,hlo,hhi⟩:=yiU (t:=t) hl hs xs.length 0 xs.length (by omega) (by omega) (by omega) (fun k h hk=>absurd hk (by omega)) (fun k h hk=>absurd hk (by omega));have hi:iter (y1z xs t) ((xs.length:Int),0)=some (p:Int):=y4m (by omega) hp;rw [y3F,y5p,hi,yOb];by_cases hlt:p<xs.length
 ·rw [if_pos (by simpa using hlt),ya hlt,yOb];by_cases he:xs[p]=t
  ·rw [if_pos (by simpa using he)];show some true=_;rw [yc.2 (he▸List.getElem_mem hlt)]
  ·rw [if_neg (by simpa using he),yOb,show y5i xs[p]=some false by rw [y5i];simp,yOb,if_neg (by simp)];show some false=_;rw [y9w.2];intro hm;obtain⟨k,hk,hk2⟩:=List.getElem_of_mem hm;rcases Nat.lt_trichotomy k p with h|h|h
   ·have:=hlo k hk h;omega
   ·subst h;exact he hk2
   ·have:=hhi p hlt (Nat.le_refl _);have:=List.pairwise_iff_getElem.1 hs p k hlt hk h;omega
 ·rw [if_neg (by simpa using hlt)];show some false=_;rw [y9w.2];intro hm;obtain⟨k,hk,hk2⟩:=List.getElem_of_mem hm;have:=hlo k hk (by omega);omega
theorem y7a{n:Int}:∀{p:Option Int} {xs:List Int},xs.Pairwise (· < ·)→(∀x∈xs,0≤x∧x<n)→(∀q,p=some q→∀x∈xs,q<x)→yA n p xs=0
 | _,[],_,_,_=>rfl
 | p,x::xs,h,hr,hp=>by
  obtain⟨h1,h2⟩:=List.pairwise_cons.1 h;have h3:=hr x (List.mem_cons_self ..);rw [yA,if_neg (by omega),if_neg ?_]
  ·exact y7a h2 (fun y hy=>hr y (List.mem_cons_of_mem _ hy)) (fun q hq y hy=>by cases hq;exact h1 y hy)
  ·rintro ⟨q,hq,hle⟩;have:=hp q hq x (List.mem_cons_self ..);omega
theorem yen{al:List Int}{n:Int}:∀{p:Option Ed} {es:List Ed},ycK es→(∀x∈es,0≤x.f∧x.f<n∧0≤x.t∧x.t<n∧hasB al x.e=true)→(∀q,p=some q→∀x∈es,edLt q x)→edErr al n p es=0
 | _,[],_,_,_=>rfl
 | p,x::xs,h,hr,hp=>by
  obtain⟨h1,h2⟩:=List.pairwise_cons.1 h;have h3:=hr x (List.mem_cons_self ..);rw [edErr,if_neg (by omega),if_neg (by rw [h3.2.2.2.2];simp),if_neg ?_]
  ·exact yen h2 (fun y hy=>hr y (List.mem_cons_of_mem _ hy)) (fun q hq y hy=>by cases hq;exact h1 y hy)
  ·rintro ⟨q,hq,hle⟩;have:=hp q hq x (List.mem_cons_self ..);unfold edLt at this;omega
theorem y9A(a:AutT):autP (toAut a)=a:=by
 obtain⟨x,y,z,es⟩:=a;simp only [autP,toAut,List.map_map];rw [show (edP∘toEd)=id from rfl,List.map_id]
structure Right (a:AutT) (n:Nat):Prop where
 nn:a.2.1=(n:Int)
 nl:n≤4096
 ali:Inc a.1
 alr:∀x∈a.1,0≤x∧x<32
 msi:Inc a.2.2.1
 msr:∀x∈a.2.2.1,0≤x∧x<(n:Int)
 es:∀x∈a.2.2.2,0≤x.1∧x.1<(n:Int)∧0≤x.2.2∧x.2.2<(n:Int)∧x.2.1∈a.1
 so:a.2.2.2.Pairwise fun x y=>x.1<y.1∨(x.1=y.1∧x.2.1<y.2.1)
 l1:a.1.length≤1000000
 l2:a.2.2.1.length≤1000000
 l3:a.2.2.2.length≤1000000
namespace Right
variable{a:AutT}{n:Nat}
theorem sorted(h:Right a n):ycK (a.2.2.2.map toEd):=by
 unfold ycK;rw [List.pairwise_map];exact h.so
theorem ein(h:Right a n):∀x∈a.2.2.2.map toEd,0≤x.f∧x.f<(n:Int)∧0≤x.t∧x.t<(n:Int):=fun x hx=>by
 obtain⟨y,hy,rfl⟩:=List.mem_map.1 hx;have:=h.es y hy;exact⟨this.1,this.2.1,this.2.2.1,this.2.2.2.1⟩
theorem evs(h:Right a n):EvEs (a.2.2.2.map toEd):=fun x hx=>by
 obtain⟨y,hy,rfl⟩:=List.mem_map.1 hx;exact h.alr _ (h.es y hy).2.2.2.2
theorem err(h:Right a n):(toAut a).err=0:=by
 have h1:yA 32 none (toAut a).al=0:=y7a h.ali h.alr (fun q hq=>by cases hq);have hn:(toAut a).n=n:=h.nn;have h2:yA (toAut a).n none (toAut a).ms=0:=by rw [hn];exact y7a h.msi h.msr (fun q hq=>by cases hq)
 have h3:edErr (toAut a).al (toAut a).n none (toAut a).es=0:=by
  rw [hn];refine yen h.sorted (fun x hx=>?_) (fun q hq=>by cases hq);obtain⟨y,hy,rfl⟩:=List.mem_map.1 hx;have:=h.es y hy;exact⟨this.1,this.2.1,this.2.2.1,this.2.2.2.1,yc.2 this.2.2.2.2⟩
 have:=h.nl;unfold Aut.err;rw [h1,if_neg (by decide),if_neg (by rw [hn];omega),if_neg (by rw [hn];omega),h2,if_neg (by decide),h3]
theorem check(h:Right a n):y2d a=some 0:=by
 have h1:=h.l1;have h2:=h.l2;have h3:=h.l3;have:=yb3 (a:=toAut a) (by simp [toAut];omega) (by simp [toAut];omega) (by simp [toAut];omega);rwa [y9A,h.err] at this
end Right
theorem y5U{n:Nat}:∀{xs:List Int} {lo:Int},Inc xs→(∀x∈xs,lo≤x∧x<(n:Int))→0≤lo→xs.length≤n-lo.toNat
 | [],_,_,_,_=>Nat.zero_le _
 | x::xs,lo,h,hr,h0=>by
  obtain⟨h1,h2⟩:=List.pairwise_cons.1 h;have hx:=hr x (List.mem_cons_self ..);have:=y5U (n:=n) (lo:=x+1) h2 (fun y hy=>⟨by have:=h1 y hy;omega,(hr y (List.mem_cons_of_mem _ hy)).2⟩) (by omega);rw [List.length_cons];omega
theorem y2f(a:α)(us:List α):idx (a::us) 0=some a:=rfl
theorem y5P(a:α)(us:List α):slc (a::us) 1 ((a::us).length:Int)=some us:=by
 rw [slc,if_pos ⟨by omega,by simp;omega,by omega⟩];simp
structure Mrg (out us vs:List Int):Prop where
 o:Inc out
 u:Inc us
 v:Inc vs
 ou:∀x∈out,∀y∈us,x<y
 ov:∀x∈out,∀y∈vs,x<y
 ro:∀x∈out,0≤x∧x<32
 ru:∀x∈us,0≤x∧x<32
 rv:∀x∈vs,0≤x∧x<32
theorem Mrg.swap{out:List Int}(h:Mrg out us vs):Mrg out vs us:=⟨h.o,h.v,h.u,h.ov,h.ou,h.ro,h.rv,h.ru⟩
theorem Mrg.push{out:List Int}{a:Int}(h:Mrg out (a::us) vs)(hv:∀y∈vs,a<y):Mrg (out++[a]) us vs:=by
 obtain⟨u1,u2⟩:=List.pairwise_cons.1 h.u;refine⟨?_,u2,h.v,?_,?_,?_,fun x hx=>h.ru x (List.mem_cons_of_mem _ hx),h.rv⟩
 ·unfold Inc;rw [List.pairwise_append];exact⟨h.o,List.pairwise_singleton _ _,fun x hx y hy=>by rw [List.mem_singleton.1 hy];exact h.ou x hx a (List.mem_cons_self ..)⟩
 ·intro x hx y hy;rcases List.mem_append.1 hx with hx|hx
  ·exact h.ou x hx y (List.mem_cons_of_mem _ hy)
  ·rw [List.mem_singleton.1 hx];exact u1 y hy
 ·intro x hx y hy;rcases List.mem_append.1 hx with hx|hx
  ·exact h.ov x hx y hy
  ·rw [List.mem_singleton.1 hx];exact hv y hy
 ·intro x hx;rcases List.mem_append.1 hx with hx|hx
  ·exact h.ro x hx
  ·rw [List.mem_singleton.1 hx];exact h.ru a (List.mem_cons_self ..)
theorem Mrg.tailv{out:List Int}{a:Int}(h:Mrg out us (a::vs)):Mrg out us vs:=
 ⟨h.o,h.u,(List.pairwise_cons.1 h.v).2,h.ou,fun x hx y hy=>h.ov x hx y (List.mem_cons_of_mem _ hy),h.ro,h.ru,fun x hx=>h.rv x (List.mem_cons_of_mem _ hx)⟩
theorem Mrg.len{out:List Int}(h:Mrg out us vs):out.length≤32:=by
 have:=y5U (n:=32) (lo:=0) h.o h.ro (Int.le_refl _);simpa using this
theorem Mrg.lt{out:List Int}{a b:Int}(h:Mrg out us (b::vs))(hab:a<b):∀y∈b::vs,a<y:=fun y hy=>by
 rcases List.mem_cons.1 hy with rfl|hy
 ·exact hab
 ·have:=(List.pairwise_cons.1 h.v).1 y hy;omega
theorem yfv{out:List Int}(h:Mrg out us vs)(hne:0<us.length+vs.length):
  ∃o u v,ye yB (out,us,vs)=some (.inl (o,u,v))∧Mrg o u v∧u.length+v.length+1≤us.length+vs.length:=by
 have hl:=h.len;have ho:∀a:Int,app out ([a]:List Int)=some (out++[a]):=fun a=>yj (by simp;omega);cases us with
 | nil=>
  cases vs with
  | nil=>simp at hne
  | cons b vs=>
   refine⟨out++[b],[],vs,?_,(h.swap.push (fun y hy=>by cases hy)).swap,by simp⟩;rw [ye];dsimp only;rw [if_pos (by simp),if_neg (by simp),yt];dsimp only;rw [if_pos (by simp),if_pos (by simp),yl,if_neg (by simp),yh,if_pos rfl];dsimp only;rw [y2f,yOb,y5P,yOb,yn,show yB false true=some true from rfl,yOb,if_pos rfl];dsimp only;rw [ho,yOb]
 | cons a us=>
  cases vs with
  | nil=>
   refine⟨out++[a],us,[],?_,h.push (fun y hy=>by cases hy),by simp⟩;rw [ye];dsimp only;rw [if_pos (by simp),if_pos (by simp),if_pos (by simp),yt];dsimp only;rw [if_neg (by simp),yl,if_pos rfl];dsimp only;rw [y2f,yOb,y5P,yOb,yh,if_neg (by simp),yn,show yB true false=some true from rfl,yOb,if_pos rfl];dsimp only;rw [ho,yOb]
  | cons b vs=>
   have e0:ye yB (out,a::us,b::vs)=yl yB (out,a::us,b::vs) (decide (a≤b)) (decide (b≤a)):=by
    rw [ye];dsimp only;rw [if_pos (by simp),if_pos (by simp),if_neg (by simp;omega),y2f,yOb,y2f,yOb,yt];dsimp only;rw [if_pos (by simp),if_neg (by simp;omega),y2f,yOb,y2f,yOb]
   rw [e0,yl];dsimp only;by_cases h1:a<b
   ·refine ⟨out++[a],us,b::vs,?_,h.push (h.lt h1),by simp;omega⟩;rw [if_pos (show decide (a≤b)=true by simp;omega),y2f,yOb,y5P,yOb,yh,if_neg (by simp;omega),yn,show decide (a≤b)=true by simp;omega,show decide (b≤a)=false by simp;omega,
     show yB true false=some true from rfl,yOb,if_pos rfl]
    dsimp only;rw [ho,yOb]
   ·by_cases h2:b<a
    ·refine ⟨out++[b],a::us,vs,?_,(h.swap.push (h.swap.lt h2)).swap,by simp;omega⟩;rw [if_neg (show ¬decide (a≤b)=true by simp;omega),yh,if_pos (show decide (b≤a)=true by simp;omega)];dsimp only;rw [y2f,yOb,y5P,yOb,yn,show decide (a≤b)=false by simp;omega,show decide (b≤a)=true by simp;omega,
      show yB false true=some true from rfl,yOb,if_pos rfl]
     dsimp only;rw [ho,yOb]
    ·obtain rfl:a=b:=by omega
     refine⟨out++[a],us,vs,?_,h.tailv.push ((List.pairwise_cons.1 h.v).1),by simp;omega⟩;rw [if_pos (show decide (a≤a)=true by simp),y2f,yOb,y5P,yOb,yh,if_pos (show decide (a≤a)=true by simp)];dsimp only;rw [y2f,yOb,y5P,yOb,yn,show decide (a≤a)=true by simp,
      show yB true true=some true from rfl,yOb,if_pos rfl]
     dsimp only;rw [ho,yOb]
def Alp(xs:List Int):Prop:=Inc xs∧∀x∈xs,0≤x∧x<32
theorem Alp.nil :Alp []:=⟨List.Pairwise.nil,fun x hx=>by cases hx⟩
theorem Alp.len(h:Alp xs):xs.length≤32:=by
 have:=y5U (n:=32) (lo:=0) h.1 h.2 (Int.le_refl _);simpa using this
theorem yha(hu:Alp us)(hv:Alp vs):∃o,y4Y us vs=some o∧Alp o:=by
 have h0:Mrg [] us vs:=⟨List.Pairwise.nil,hu.1,hv.1,fun x hx=>(by cases hx),fun x hx=>(by cases hx),fun x hx=>(by cases hx),hu.2,hv.2⟩;have l1:=hu.len;have l2:=hv.len;obtain⟨o,h1,h2⟩:=yd (f:=ye yB) (fun i s=>Mrg s.1 s.2.1 s.2.2∧s.2.1.length+s.2.2.length+i≤us.length+vs.length) (fun o=>Alp o) (us.length+vs.length) 0 (by omega) (fun i s hi ⟨g1,g2⟩=>by
   obtain⟨out,u,v⟩:=s;dsimp only at g1 g2;by_cases hne:0<u.length+v.length
   ·obtain ⟨o,u',v',e,g3,g4⟩:=yfv g1 hne;exact .inl ⟨_,e,g3,by dsimp only;omega⟩
   ·have e1:u= []:=List.eq_nil_of_length_eq_zero (by omega);have e2:v= []:=List.eq_nil_of_length_eq_zero (by omega);subst e1;subst e2;exact .inr ⟨out,rfl,g1.o,g1.ro⟩) (fun s ⟨g1,g2⟩=>by
   obtain⟨out,u,v⟩:=s;dsimp only at g1 g2;have e1:u= []:=List.eq_nil_of_length_eq_zero (by omega);have e2:v= []:=List.eq_nil_of_length_eq_zero (by omega);subst e1;subst e2;exact⟨out,rfl,g1.o,g1.ro⟩) (Nat.zero_le _) ([],us,vs) ⟨h0,by dsimp only;omega⟩
 exact⟨o,by rw [y4Y,y3j,h1];rfl,h2⟩
theorem ygi{l:List AutT}(hl:l.length≤1000)(h:∀a∈l,Alp a.1):∃ev,y4Z l=some ev∧Alp ev:=by
 obtain⟨o,h1,h2⟩:=yd (f:=y1P l) (fun i s=>s.1=(i:Int)∧Alp s.2) (fun o=>Alp o) l.length 0 (by omega) (fun i s hi ⟨e1,g1⟩=>by
   obtain⟨k,out⟩:=s;dsimp only at e1 g1;subst e1;obtain⟨o,e,g2⟩:=yha g1 (h _ (List.getElem_mem hi));refine .inl ⟨(((i+1:Nat):Int),o),?_,rfl,g2⟩;rw [y1P];dsimp only;rw [if_pos (ct_lt hi),ya hi,yOb,e,yOb,nxt (by omega)]) (fun s ⟨e1,g1⟩=>by
   obtain⟨k,out⟩:=s;dsimp only at e1 g1;subst e1;refine⟨out,?_,g1⟩;rw [y1P];dsimp only;rw [if_neg ct_ge]) (Nat.zero_le _) (0,[]) ⟨rfl,Alp.nil⟩
 exact⟨o,by rw [y4Z,h1];rfl,h2⟩
section
variable{κ β:Type}[BEq κ]
theorem yhb{m:List (κ×β)}{k:κ}{v:β}(h:kget m k=some v):∃e∈m,e.2=v:=by
 unfold kget at h;rw [Option.map_eq_some_iff] at h;obtain⟨e,h1,h2⟩:=h;exact⟨e,List.mem_of_find?_eq_some h1,h2⟩
theorem y9X{m:List (κ×β)}{k:κ}{v:β}{e:κ×β}(h:e∈kput m k v):e∈m∨e=(k,v):=by
 unfold kput at h;split at h
 ·exact List.mem_or_eq_of_mem_set h
 ·rcases List.mem_append.1 h with h|h
  ·exact .inl h
  ·exact .inr (List.mem_singleton.1 h)
theorem yc9{m:List (κ×β)}{k:κ}:(kget m k).isSome=m.any fun p=>k==p.1:=by
 unfold kget
 induction m with
 | nil=>rfl
 | cons p m ih=>
  rw [List.any_cons];cases h:k==p.1 with
  | true=>rw [List.find?_cons_of_pos (by simpa using h)];rfl
  | false=>rw [List.find?_cons_of_neg (by simp [h])];simpa using ih
end
theorem beqB(k:ByteArray):(k==k)=true:=by rw [beq_toListBytes];simp
theorem ydE{m:List (ByteArray×β)}{k:ByteArray}:(kget (kput m k v) k).isSome=true:=by
 rw [yc9,List.any_eq_true];refine⟨(k,v),?_,beqB k⟩;unfold kput;split
 ·rename_i h;exact List.mem_set h _
 ·exact List.mem_append_right _ (List.mem_singleton.2 rfl)
theorem ygj{m:List (ByteArray×β)}{k q:ByteArray}(h:(kget m q).isSome=true):(kget (kput m k v) q).isSome=true:=by
 rw [yc9,List.any_eq_true] at h ⊢;obtain⟨e,h1,h2⟩:=h;have hq:=eqS h2;unfold kput;split
 ·rename_i hlt;obtain⟨i,hi,rfl⟩:=List.getElem_of_mem h1;by_cases e:kidx (m.map (·.1)) k=i
  ·refine ⟨(k,v),List.mem_set hlt _,?_⟩;have hk:(fun p=>k==p) ((m.map (·.1))[kidx (m.map (·.1)) k]'(by rw [List.length_map];exact hlt))=true:=List.findIdx_getElem (p:=fun p=>k==p) (w:=by rw [List.length_map];exact hlt);rw [List.getElem_map] at hk;have hk:=eqS hk;subst e;rw [hq,←hk];exact beqB k
  ·refine ⟨m[i],?_,h2⟩;have:=List.getElem_set_ne (l:=m) e (a:=(k,v)) (by rw [List.length_set];exact hi);rw [←this];exact List.getElem_mem _
 ·exact ⟨e,List.mem_append_left _ h1,h2⟩
def InT(l:List AutT)(t:List Int):Prop:=t.length=l.length∧∀i (h:i<l.length) (h':i<t.length),0≤t[i]∧t[i]<l[i].2.1
theorem InT.set{l:List AutT}{t:List Int}(h:InT l t){i:Nat}(hi:i<l.length){v:Int}(h0:0≤v)(h1:v<l[i].2.1):InT l (t.set i v):=by
 refine⟨by rw [List.length_set];exact h.1,fun k hk hk'=>?_⟩;rw [List.getElem_set];split
 ·rename_i e;subst e;exact⟨h0,h1⟩
 ·exact h.2 k hk _
structure MOk (l:List AutT) (m:List AutT×List Int×List (List ((Int×Int)×Int))):Prop where
 ml:m.1=l
 ev:Alp m.2.1
 len:m.2.2.length=l.length
 edge:∀i (h:i<l.length) (h':i<m.2.2.length),∀e∈m.2.2[i],0≤e.2∧e.2<l[i].2.1
theorem yio{a:AutT}{n:Nat}(hr:Right a n):∃o,iter (y2e a) (0,([]:List ((Int×Int)×Int)))=some o∧∀e∈o,0≤e.2∧e.2<(n:Int):=by
 have hl:=hr.l3;refine yd (f:=y2e a) (fun i s=>s.1=(i:Int)∧∀e∈s.2,0≤e.2∧e.2<(n:Int)) (fun o=>∀e∈o,0≤e.2∧e.2<(n:Int)) a.2.2.2.length 0 (by omega) (fun i s hi ⟨e1,g1⟩=>?_) (fun s ⟨e1,g1⟩=>?_) (Nat.zero_le _) _ ⟨rfl,fun e he=>(by cases he)⟩
 ·obtain ⟨k,out⟩:=s;dsimp only at e1 g1;subst e1;have hx:=hr.es _ (List.getElem_mem hi);refine .inl ⟨(((i+1:Nat):Int),kput out (a.2.2.2[i].1,a.2.2.2[i].2.1) a.2.2.2[i].2.2),?_,rfl,fun e he=>?_⟩
  ·rw [y2e];dsimp only;rw [if_pos (ct_lt hi),ya hi,yOb,nxt (by omega)]
  ·rcases y9X he with he|he
   ·exact g1 e he
   ·rw [he];exact⟨hx.2.2.1,hx.2.2.2.1⟩
 ·obtain ⟨k,out⟩:=s;dsimp only at e1 g1;subst e1;refine⟨out,?_,g1⟩;rw [y2e];dsimp only;rw [if_neg ct_ge]
def keyK(t:List Int):ByteArray:=⟨(keyB t).toArray⟩
theorem y8g :∀(N:Nat) (l:List Nat),l.Nodup→(∀x∈l,x<N)→l.length≤N
 | 0,[],_,_=>Nat.le_refl _
 | 0,x::l,_,h=>absurd (h x (List.mem_cons_self ..)) (by omega)
 | N+1,l,hn,h=>by
  by_cases hm:N∈l
  ·have h1:=y8g N (l.erase N) (hn.erase N) (fun x hx=>by
    have h2:=(hn.mem_erase_iff).1 hx;have:=h x h2.2;omega)
   rw [List.length_erase_of_mem hm] at h1;omega
  ·have h1:=y8g N l hn (fun x hx=>by
    have:=h x hx;have:x≠N:=fun e=>hm (e▸hx);omega)
   omega
abbrev Kno :=List (ByteArray×Int)
structure SI (l:List AutT) (ev:List Int) (i j:Nat) (kn:Kno) (T:List (List Int)) (E:List (Int×Int×Int)):Prop where
 pos:0<T.length
 nd:T.Nodup
 inT:∀t∈T,InT l t
 key:∀t∈T,(kget kn (keyK t)).isSome=true
 val:∀e∈kn,0≤e.2∧e.2<(T.length:Int)
 er:∀x∈E,0≤x.1∧x.1≤(i:Int)∧0≤x.2.2∧x.2.2<(T.length:Int)∧x.2.1∈ev
 es:∀x∈E,x.1=(i:Int)→x.2.1∈ev.take j
 so:E.Pairwise fun x y=>x.1<y.1∨(x.1=y.1∧x.2.1<y.2.1)
 el:E.length≤32*i+j
 lk:∀k:Nat,0<k→k<T.length→∃x∈E,x.2.2=(k:Int)∧0≤x.1∧x.1<(k:Int)
section
variable{l:List AutT}{ev:List Int}{i j:Nat}{kn:Kno}{T:List (List Int)}{E:List (Int×Int×Int)}
theorem SI.skip(h:SI l ev i j kn T E):SI l ev i (j+1) kn T E:=
 ⟨h.pos,h.nd,h.inT,h.key,h.val,h.er,fun x hx e=>(List.take_subset_take_left ev (Nat.le_succ j)) (h.es x hx e),h.so,by have:=h.el;omega,h.lk⟩
theorem SI.next(h:SI l ev i j kn T E)(hj:j≤32):SI l ev (i+1) 0 kn T E:=
 ⟨h.pos,h.nd,h.inT,h.key,h.val,fun x hx=>by have:=h.er x hx;exact⟨this.1,by omega,this.2.2⟩,fun x hx e=>by have:=h.er x hx;omega,h.so,by have:=h.el;omega,h.lk⟩
theorem yfd(he:Inc ev)(hj:j<ev.length):∀x∈ev.take j,x<ev[j]:=fun x hx=>by
 obtain⟨k,hk,rfl⟩:=List.getElem_of_mem hx;rw [List.length_take] at hk;rw [List.getElem_take];exact List.pairwise_iff_getElem.1 he k j (by omega) hj (by omega)
theorem SI.edge(h:SI l ev i j kn T E)(he:Inc ev)(hi:i<T.length)(hj:j<ev.length){q:Int}(h0:0≤q)(h1:q<T.length):SI l ev i (j+1) kn T (E++[((i:Int),ev[j],q)]):=by
 refine⟨h.pos,h.nd,h.inT,h.key,h.val,fun x hx=>?_,fun x hx e=>?_,?_,by have:=h.el;rw [List.length_append,List.length_singleton];omega,fun k h2 h3=>?_⟩
 ·rcases List.mem_append.1 hx with hx|hx
  ·exact h.er x hx
  ·rw [List.mem_singleton.1 hx];exact⟨by dsimp only;omega,by dsimp only;omega,h0,h1,List.getElem_mem _⟩
 ·rcases List.mem_append.1 hx with hx|hx
  ·exact (List.take_subset_take_left ev (Nat.le_succ j)) (h.es x hx e)
  ·rw [List.mem_singleton.1 hx,ybr ev j hj];exact List.mem_append_right _ (List.mem_singleton.2 rfl)
 ·rw [List.pairwise_append];refine⟨h.so,List.pairwise_singleton _ _,fun a ha b hb=>?_⟩;rw [List.mem_singleton.1 hb];have h2:=h.er a ha;by_cases e:a.1=(i:Int)
  ·exact .inr ⟨e,yfd he hj _ (h.es a ha e)⟩
  ·exact .inl (by dsimp only;omega)
 ·obtain ⟨x,hx,h4⟩:=h.lk k h2 h3;exact⟨x,List.mem_append_left _ hx,h4⟩
theorem SI.new(h:SI l ev i j kn T E)(he:Inc ev)(hi:i<T.length)(hj:j<ev.length){t:List Int}(ht:InT l t)(hk:(kget kn (keyK t)).isSome=false):SI l ev i (j+1) (kput kn (keyK t) (T.length:Int)) (T++[t]) (E++[((i:Int),ev[j],(T.length:Int))]):=by
 have hlen:(T++[t]).length=T.length+1:=by simp
 have h0:SI l ev i j (kput kn (keyK t) (T.length:Int)) T E∨True:= .inr trivial;refine⟨by omega,?_,fun s hs=>?_,fun s hs=>?_,fun e hx=>?_,fun x hx=>?_,fun x hx e=>?_,?_,by have:=h.el;rw [List.length_append,List.length_singleton];omega,fun k h2 h3=>?_⟩
 ·rw [List.nodup_append];refine⟨h.nd,by simp,fun a ha b hb=>?_⟩;rw [List.mem_singleton.1 hb];intro e;subst e;rw [h.key a ha] at hk;cases hk
 ·rcases List.mem_append.1 hs with hs|hs
  ·exact h.inT s hs
  ·rw [List.mem_singleton.1 hs];exact ht
 ·rcases List.mem_append.1 hs with hs|hs
  ·exact ygj (h.key s hs)
  ·rw [List.mem_singleton.1 hs];exact ydE
 ·rw [hlen];rcases y9X hx with hx|hx
  ·have:=h.val e hx;omega
  ·rw [hx];dsimp only;omega
 ·rw [hlen];rcases List.mem_append.1 hx with hx|hx
  ·have:=h.er x hx;exact⟨this.1,this.2.1,this.2.2.1,by omega,this.2.2.2.2⟩
  ·rw [List.mem_singleton.1 hx];exact⟨by dsimp only;omega,by dsimp only;omega,by dsimp only;omega,by dsimp only;omega,List.getElem_mem _⟩
 ·rcases List.mem_append.1 hx with hx|hx
  ·exact (List.take_subset_take_left ev (Nat.le_succ j)) (h.es x hx e)
  ·rw [List.mem_singleton.1 hx,ybr ev j hj];exact List.mem_append_right _ (List.mem_singleton.2 rfl)
 ·rw [List.pairwise_append];refine⟨h.so,List.pairwise_singleton _ _,fun a ha b hb=>?_⟩;rw [List.mem_singleton.1 hb];have h2:=h.er a ha;by_cases e:a.1=(i:Int)
  ·exact .inr ⟨e,yfd he hj _ (h.es a ha e)⟩
  ·exact .inl (by dsimp only;omega)
 ·by_cases h4:k<T.length
  ·obtain ⟨x,hx,h5⟩:=h.lk k h2 h4;exact⟨x,List.mem_append_left _ hx,h5⟩
  ·have:k=T.length:=by omega
   subst this;exact⟨_,List.mem_append_right _ (List.mem_singleton.2 rfl),rfl,by dsimp only;omega,by dsimp only;omega⟩
end
theorem ybQ.snoc{es:List Ed}:∀{k:Nat} {x:Int} {e:Ed},e∈es→ybQ es [e.f] k x→ybQ es [e.t] (k+1) x
 | 0,x,e,he,h=>⟨e,he,(List.mem_singleton.1 h).symm,List.mem_singleton.2 rfl⟩
 | k+1,x,e,he,⟨y,hy,h1,h2⟩=>⟨y,hy,h1,h2.snoc he⟩
abbrev edsOf(p:AutT):List Ed:=p.2.2.2.map toEd
theorem ygk{κ:Type}[BEq κ]{m:List (κ×β)}{k:κ}(h:kget m k=some v):∃e∈m,e.2=v∧(k==e.1)=true:=by
 unfold kget at h;rw [Option.map_eq_some_iff] at h;obtain⟨e,h1,h2⟩:=h;exact⟨e,List.mem_of_find?_eq_some h1,h2,List.find?_some (p:=fun p:κ×β=>k==p.1) h1⟩
section
variable{κ β:Type}[DecidableEq κ][BEq κ][LawfulBEq κ]
theorem y9l(p:κ×β)(m:List (κ×β))(q:κ):kget (p::m) q=if q=p.1 then some p.2 else kget m q:=by
 unfold kget;by_cases h:q=p.1
 ·rw [if_pos h,List.find?_cons_of_pos (by simp [h])];rfl
 ·rw [if_neg h,List.find?_cons_of_neg (by simp [h])]
omit [DecidableEq κ] [LawfulBEq κ] in
theorem yhc(k:κ)(v:β):kput [] k v= [(k,v)]:=by
 unfold kput;rw [if_neg (by simp)];rfl
theorem ygl(p:κ×β)(m:List (κ×β))(k:κ)(v:β):kput (p::m) k v=if k=p.1 then(k,v)::m else p::kput m k v:=by
 unfold kput;rw [List.map_cons,y8Y];by_cases h:k=p.1
 ·subst h;rw [if_pos (by simp),if_pos (by simp),if_pos rfl];rfl
 ·have e:(if (k==p.1)=true then 0 else kidx (m.map (·.1)) k+1)=kidx (m.map (·.1)) k+1:=if_neg (by simp [h]);rw [e,if_neg h];by_cases h2:kidx (m.map (·.1)) k<m.length
  ·rw [if_pos h2,if_pos (by rw [List.length_cons];omega),List.set_cons_succ]
  ·rw [if_neg h2,if_neg (by rw [List.length_cons];omega)];rfl
theorem y6f{k q:κ}{v:β}:∀(m:List (κ×β)),kget (kput m k v) q=if q=k then some v else kget m q
 | []=>by rw [yhc,y9l]
 | p::m=>by
  rw [ygl];by_cases h:k=p.1
  ·rw [if_pos h,y9l,y9l];by_cases h2:q=k
   ·rw [if_pos h2,if_pos h2]
   ·rw [if_neg h2,if_neg h2,if_neg (by rw [←h];exact h2)]
  ·rw [if_neg h,y9l,y9l,y6f m];by_cases h2:q=p.1
   ·rw [if_pos h2,if_neg (by rw [h2];exact fun e=>h e.symm),if_pos h2]
   ·rw [if_neg h2,if_neg h2]
end
structure LOkB (B:Nat) (l:List AutT):Prop where
 len:l.length≤3
 right:∀a∈l,∃n:Nat,1≤n∧n≤B∧Right a n
 b99:B≤99
 pw:B ^ l.length≤4000
theorem yfw{l:List AutT}{B:Nat}(h:LOkB B l):y5t l=some 0:=by
 have hl:=h.len;have hb99:=h.b99;obtain⟨o,h1,rfl⟩:=yd (f:=y2o l) (fun i s=>s=(i:Int)) (fun o=>o= .inl ()) l.length 0 (by omega) (fun i s hi e1=>by
   subst e1;obtain⟨n,_,_,hr⟩:=h.right _ (List.getElem_mem hi);refine .inl ⟨((i+1:Nat):Int),?_,rfl⟩;rw [y2o,if_pos (ct_lt hi),ya hi,yOb,hr.check,yOb,if_neg (by simp),nxt (by omega)]) (fun s e1=>by
   subst e1;exact⟨_,by rw [y2o,if_neg ct_ge],rfl⟩) (Nat.zero_le _) 0 rfl
 rw [y5t,if_neg (by simp;omega),h1];rfl
theorem yhd{l:List AutT}{B:Nat}(h:LOkB B l):∃m,y5h l=some m∧MOk l m:=by
 have hl:=h.len;have hb99:=h.b99;obtain⟨ev,he,hev⟩:=ygi (l:=l) (by omega) (fun a ha=>by
  obtain⟨n,_,_,hr⟩:=h.right a ha;exact⟨hr.ali,hr.alr⟩)
 obtain⟨o,h1,h2⟩:=yd (f:=y2E l) (fun i s=>i≤l.length∧s.1=(i:Int)∧s.2.length=i∧∀k (h:k<l.length) (h':k<s.2.length),∀e∈s.2[k],0≤e.2∧e.2<l[k].2.1) (fun o=>o.length=l.length∧∀k (h:k<l.length) (h':k<o.length),∀e∈o[k],0≤e.2∧e.2<l[k].2.1) l.length 0 (by omega) (fun i s hi ⟨_,e1,g1,g2⟩=>by
   obtain⟨k,out⟩:=s;dsimp only at e1 g1 g2;subst e1;obtain⟨n,_,_,hr⟩:=h.right _ (List.getElem_mem hi);obtain⟨o,e,g3⟩:=yio hr;refine .inl ⟨(((i+1:Nat):Int),out++[o]),?_,by omega,rfl,by simp [g1],fun k hk hk' x hx=>?_⟩
   ·rw [y2E];dsimp only;rw [if_pos (ct_lt hi),ya hi,yOb,e,yOb,yj (by simp;omega),yOb,nxt (by omega)]
   ·dsimp only at hx;by_cases hki:k<out.length
    ·rw [List.getElem_append_left hki] at hx;exact g2 k hk hki x hx
    ·have hk2:k=i:=by simp at hk';omega
     subst hk2;rw [List.getElem_append_right (by omega)] at hx;simp only [g1,Nat.sub_self,List.getElem_cons_zero] at hx;rw [hr.nn];exact g3 x hx) (fun s ⟨_,e1,g1,g2⟩=>by
   obtain⟨k,out⟩:=s;dsimp only at e1 g1 g2;subst e1;refine⟨out,?_,g1,g2⟩;rw [y2E];dsimp only;rw [if_neg ct_ge]) (Nat.zero_le _) (0,[]) ⟨Nat.zero_le _,rfl,rfl,fun k hk hk'=>(by simp at hk')⟩
 exact⟨(l,ev,o),by rw [y5h,he,yOb,h1];rfl,rfl,hev,h2.1,h2.2⟩
theorem yeI{l:List AutT}{B:Nat}(h:LOkB B l){m:List AutT×List Int×List (List ((Int×Int)×Int))}(hm:MOk l m):∃t,yu m=some (t,true)∧InT l t:=by
 have hl:=h.len;have hb99:=h.b99;obtain⟨m1,m2,m3⟩:=m;obtain⟨rfl,hev,hlen,_⟩:=hm;dsimp only at *;obtain⟨o,h1,rfl⟩:=yd (f:=yi (m1,m2,m3)) (fun i s=>s=(i:Int)) (fun o=>o= .inl ()) m1.length 0 (by omega) (fun i s hi e1=>by
   subst e1;obtain⟨n,hn,_,hr⟩:=h.right _ (List.getElem_mem hi);refine .inl ⟨((i+1:Nat):Int),?_,rfl⟩;rw [yi];dsimp only;rw [if_pos (ct_lt hi),ya hi,yOb,hr.nn,if_neg (by simp;omega),nxt (by omega)]) (fun s e1=>by
   subst e1;refine⟨_,?_,rfl⟩;rw [yi];dsimp only;rw [if_neg ct_ge]) (Nat.zero_le _) 0 rfl
 have hmk:mkL (m1.length:Int) (0:Int)=some (List.replicate m1.length 0):=by unfold mkL;rw [if_pos ⟨by omega,by omega⟩,Int.toNat_natCast]
 refine⟨List.replicate m1.length 0,?_,by simp,fun i hi hi'=>?_⟩
 ·rw [yu,h1,yOb];dsimp only;rw [hmk,yOb]
 ·obtain ⟨n,hn,_,hr⟩:=h.right _ (List.getElem_mem hi);rw [List.getElem_replicate,hr.nn];omega
theorem yhe{l:List AutT}{B:Nat}(h:LOkB B l){m:List AutT×List Int×List (List ((Int×Int)×Int))}(hm:MOk l m){t:List Int}(ht:InT l t)(e:Int):∃r,y1d m t e=some r∧(r.2=true→InT l r.1):=by
 have hl:=h.len;have hb99:=h.b99;obtain⟨m1,m2,m3⟩:=m;obtain⟨rfl,hev,hlen,hed⟩:=hm;dsimp only at *;obtain⟨o,h1,h2⟩:=yd (f:=ym (m1,m2,m3) t e) (fun i s=>s.1=(i:Int)∧InT m1 s.2) (fun o=>∀u,o= .inl u→InT m1 u) m1.length 0 (by omega) (fun i s hi ⟨e1,g1⟩=>by
   obtain⟨k,out⟩:=s;dsimp only at e1 g1;subst e1;obtain⟨n,hn,_,hr⟩:=h.right _ (List.getElem_mem hi);have ha:m1[i].1.length<4294967296:=by have:=hr.l1;omega
   have hj:∀u:List Int,yv ((i:Int),out) u=some (.inl (((i+1:Nat):Int),u)):=fun u=>by
    rw [yv];dsimp only;rw [nxt (by omega)]
   rw [ym];dsimp only;rw [if_pos (ct_lt hi),ya hi,yOb,y7G ha hr.ali,yOb];cases hb:hasB m1[i].1 e with
   | false=>
    rw [if_pos (by simp),hj];exact .inl ⟨_,rfl,rfl,g1⟩
   | true=>
    rw [if_neg (by simp),ya (by omega),yOb,ya (by have:=ht.1;omega),yOb];cases hg:kget m3[i] (t[i]'(by have:=ht.1;omega),e) with
    | none=>
     rw [if_pos (by simp)];exact .inr ⟨_,rfl,fun u hu=>by cases hu⟩
    | some v=>
     obtain⟨x,hx,rfl⟩:=yhb hg;have hv:=hed i hi (by omega) x hx;rw [if_neg (by simp),ya (by have:=g1.1;omega),yOb,y9k (by have:=g1.1;omega),yOb,hj];exact .inl ⟨_,rfl,rfl,g1.set hi hv.1 hv.2⟩) (fun s ⟨e1,g1⟩=>by
   obtain⟨k,out⟩:=s;dsimp only at e1 g1;subst e1;refine⟨.inl out,?_,fun u hu=>by cases hu;exact g1⟩;rw [ym];dsimp only;rw [if_neg ct_ge]) (Nat.zero_le _) (0,t) ⟨rfl,ht⟩
 rw [y1d,y9W (by have:=ht.1;omega),yOb,h1,yOb];cases o with
 | inl u=>exact⟨_,rfl,fun _=>h2 u rfl⟩
 | inr u=>exact⟨_,rfl,fun hb=>by cases hb⟩
theorem yfx{l:List AutT}{B:Nat}(h:LOkB B l){m:List AutT×List Int×List (List ((Int×Int)×Int))}(hm:MOk l m){t:List Int}(ht:InT l t):∃b,yF m t=some b:=by
 have hl:=h.len;have hb99:=h.b99;obtain⟨m1,m2,m3⟩:=m;obtain⟨rfl,hev,hlen,hed⟩:=hm;dsimp only at *;obtain⟨o,h1,h2⟩:=yd (f:=y2U (m1,m2,m3) t) (fun i s=>s=(i:Int)) (fun _=>True) m1.length 0 (by omega) (fun i s hi e1=>by
   subst e1;obtain⟨n,hn,_,hr⟩:=h.right _ (List.getElem_mem hi);have ha:m1[i].2.2.1.length<4294967296:=by have:=hr.l2;omega
   rw [y2U];dsimp only;rw [if_pos (ct_lt hi),ya hi,yOb,ya (by have:=ht.1;omega),yOb,y7G ha hr.msi,yOb];cases hb:hasB m1[i].2.2.1 (t[i]'(by have:=ht.1;omega)) with
   | false=>rw [if_pos (by simp)];exact .inr ⟨_,rfl,trivial⟩
   | true=>rw [if_neg (by simp),nxt (by omega)];exact .inl ⟨_,rfl,rfl⟩) (fun s e1=>by
   subst e1;refine⟨.inl (),?_,trivial⟩;rw [y2U];dsimp only;rw [if_neg ct_ge]) (Nat.zero_le _) 0 rfl
 rw [yF,h1,yOb];cases o with
 | inl u=>exact⟨_,rfl⟩
 | inr u=>exact⟨_,rfl⟩
theorem yfe{l:List AutT}{B:Nat}(h:LOkB B l){t:List Int}(ht:InT l t):y5H t=some (keyK t):=by
 have hl:=h.len;have hb99:=h.b99;have hc:(t.all fun x=>decide (0≤x∧x<100))=true:=by
  rw [List.all_eq_true];intro x hx;obtain⟨i,hi,rfl⟩:=List.getElem_of_mem hx;have hi':i<l.length:=by have:=ht.1;omega
  obtain⟨n,hn,hn6,hr⟩:=h.right _ (List.getElem_mem hi');have:=ht.2 i hi' hi;rw [hr.nn] at this;simp;omega
 rw [y5H,if_pos ⟨hc,by have:=ht.1;omega⟩];rfl
def y7H(B:Nat):List Int→Nat
 | []=>0
 | x::t=>x.toNat+B*y7H B t
theorem ycL{B:Nat}:∀{s t:List Int},s.length=t.length→(∀x∈s,0≤x∧x<B)→(∀x∈t,0≤x∧x<B)→y7H B s=y7H B t→s=t
 | [],[],_,_,_,_=>rfl
 | [],_::_,h,_,_,_=>by simp at h
 | _::_,[],h,_,_,_=>by simp at h
 | x::s,y::t,h,hs,ht,e=>by
  have h1:=hs x (List.mem_cons_self ..);have h2:=ht y (List.mem_cons_self ..);simp only [y7H] at e;have e2:x.toNat=y.toNat:=by
   have h3:=congrArg (· % B) e;simp only [Nat.add_mul_mod_self_left] at h3;rwa [Nat.mod_eq_of_lt (by omega),Nat.mod_eq_of_lt (by omega)] at h3
  have hxy:x=y:=by omega
  subst hxy;have e3:B*y7H B s=B*y7H B t:=by omega
  rw [ycL (s:=s) (t:=t) (by simpa using h) (fun z hz=>hs z (List.mem_cons_of_mem _ hz)) (fun z hz=>ht z (List.mem_cons_of_mem _ hz)) (Nat.eq_of_mul_eq_mul_left (by omega) e3)]
theorem ydF{B:Nat}:∀{t:List Int},(∀x∈t,0≤x∧x<B)→y7H B t<B ^ t.length
 | [],_=>by simp [y7H]
 | x::t,h=>by
  have h1:=h x (List.mem_cons_self ..);have h2:=ydF (t:=t) (fun z hz=>h z (List.mem_cons_of_mem _ hz));rw [List.length_cons,Nat.pow_succ,y7H];have h3:B*(y7H B t+1)≤B*B ^ t.length:=Nat.mul_le_mul_left B h2;rw [Nat.mul_add,Nat.mul_one] at h3;rw [Nat.mul_comm (B ^ t.length) B];omega
theorem InT.smallB{l:List AutT}{B:Nat}(h:LOkB B l){t:List Int}(ht:InT l t):∀x∈t,0≤x∧x<B:=by
 intro x hx;obtain⟨i,hi,rfl⟩:=List.getElem_of_mem hx;have hi':i<l.length:=by have:=ht.1;omega
 obtain⟨n,hn,hn6,hr⟩:=h.right _ (List.getElem_mem hi');have:=ht.2 i hi' hi;rw [hr.nn] at this;omega
theorem y8W{l:List AutT}{B:Nat}(h:LOkB B l){T:List (List Int)}(hn:T.Nodup)(hT:∀t∈T,InT l t):T.length≤4000:=by
 have h1:=y8g (B ^ l.length) (T.map (y7H B)) ?_ ?_
 ·rw [List.length_map] at h1;have h2:=h.pw;omega
 ·rw [List.Nodup,List.pairwise_map];refine List.Pairwise.imp_of_mem (fun {a b} ha hb hab e=>hab ?_) hn;exact ycL ((hT a ha).1.trans (hT b hb).1.symm) ((hT a ha).smallB h) ((hT b hb).smallB h) e
 ·intro x hx;obtain⟨t,ht,rfl⟩:=List.mem_map.1 hx;rw [←(hT t ht).1];exact ydF ((hT t ht).smallB h)
end Go.Proofs.YtecmobjeeonmaaaGreatDoor
namespace Go.Proofs.YtecmobjeeonmaaaGreatDoor
structure Num (es:List Ed) (n:Nat):Prop where
 so:es.Pairwise fun x y=>x.f<y.f∨(x.f=y.f∧x.e<y.e)
 rng:∀x∈es,0≤x.f∧x.f<(n:Int)∧0≤x.t∧x.t<(n:Int)∧0≤x.e∧x.e<32
 cov:∀k:Nat,0<k→k<n→∃x∈es,x.t=(k:Int)
 ear:∀i (hi:i<es.length) (k:Int),0<k→k<es[i].t→∃j,∃hj:j<es.length,j<i∧es[j].t=k
 fst:∀i (hi:i<es.length),(∀j (hj:j<es.length),j<i→es[j].t≠es[i].t)→es[i].t=0∨es[i].f<es[i].t
theorem ycs{es:List Ed}{k:Int}{x:Ed}(h:es.find? (fun y=>y.t==k)=some x):∃i,∃hi:i<es.length,es[i]=x∧x.t=k∧∀j (hj:j<es.length),j<i→es[j].t≠k:=by
 rw [List.find?_eq_some_iff_getElem] at h;obtain⟨h1,i,hi,h2,h3⟩:=h;refine⟨i,hi,h2,by simpa using h1,fun j hj hji e=>?_⟩;have:=h3 j hji;simp [e] at this
def wordN(es:List Ed):Nat→Int→List Int
 | 0,_=> []
 | f+1,k=>if k≤0 then [] else match es.find? (fun y=>y.t==k) with
  | none=> []
  | some x=>wordN es f x.f++[x.e]
def wN(es:List Ed)(k:Int):List Int:=wordN es k.toNat k
namespace Num
variable{es:List Ed}{n:Nat}
theorem find(h:Num es n){k:Nat}(h0:0<k)(h1:k<n):∃x,es.find? (fun y=>y.t==(k:Int))=some x∧x∈es∧x.t=(k:Int)∧0≤x.f∧x.f<(k:Int):=by
 obtain⟨y,hy,ht⟩:=h.cov k h0 h1;cases hf:es.find? (fun y=>y.t==(k:Int)) with
 | none=>exact absurd (by simpa using ht) (by simpa using List.find?_eq_none.1 hf y hy)
 | some x=>
  obtain⟨i,hi,e1,e2,e3⟩:=ycs hf;have hm:x∈es:=e1▸List.getElem_mem hi;refine⟨x,rfl,hm,e2,(h.rng x hm).1,?_⟩;have:=h.fst i hi (fun j hj hji=>by rw [e1,e2];exact e3 j hj hji);rw [e1,e2] at this;omega
theorem fuel(h:Num es n):∀(f:Nat) (k:Int),k<(n:Int)→k.toNat≤f→wordN es f k=wN es k:=by
 have key:∀(m:Nat) (k:Int),k.toNat=m→k<(n:Int)→∀f g,m≤f→m≤g→wordN es f k=wordN es g k:=by
  intro m
  induction m using Nat.strongRecOn with
  | ind m ih=>
   intro k hk hn f g hf hg;by_cases h0:k≤0
   ·have e:∀f,wordN es f k= []:=fun f=>by
     cases f with
     | zero=>rfl
     | succ f=>rw [wordN,if_pos h0]
    rw [e,e]
   ·obtain ⟨f,rfl⟩:∃f',f=f'+1:=⟨f-1,by omega⟩;obtain⟨g,rfl⟩:∃g',g=g'+1:=⟨g-1,by omega⟩;obtain⟨k',rfl⟩:∃k':Nat,k=(k':Int):=⟨k.toNat,by omega⟩;obtain⟨x,hx,_,ht,hf0,hfk⟩:=h.find (k:=k') (by omega) (by omega);rw [wordN,wordN,if_neg h0,if_neg h0,hx];dsimp only;rw [ih x.f.toNat (by omega) x.f rfl (by omega) f g (by omega) (by omega)]
 intro f k hn hf;exact key k.toNat k rfl hn f k.toNat hf (Nat.le_refl _)
theorem step(h:Num es n){k:Nat}(h0:0<k)(h1:k<n):∃x∈es,es.find? (fun y=>y.t==(k:Int))=some x∧x.t=(k:Int)∧0≤x.f∧x.f<(k:Int)∧wN es (k:Int)=wN es x.f++[x.e]:=by
 obtain⟨x,hx,hm,ht,hf0,hfk⟩:=h.find h0 h1;refine⟨x,hm,hx,ht,hf0,hfk,?_⟩;obtain⟨k,rfl⟩:∃k',k=k'+1:=⟨k-1,by omega⟩;unfold wN;rw [Int.toNat_natCast,wordN,if_neg (by omega),hx];dsimp only;rw [h.fuel k x.f (by omega) (by omega)];rfl
theorem zero :wN es 0= []:=rfl
theorem evs(h:Num es n):∀(k:Nat),k<n→Evs (wN es (k:Int)):=by
 intro k
 induction k using Nat.strongRecOn with
 | ind k ih=>
  intro hk;by_cases h0:k=0
  ·subst h0;exact Evs.nil
  ·obtain ⟨x,hm,_,_,hf0,hfk,e⟩:=h.step (k:=k) (by omega) hk;rw [e];have hx:=h.rng x hm;have:=ih x.f.toNat (by omega) (by omega);rw [Int.toNat_of_nonneg hf0] at this;exact this.snoc hx.2.2.2.2.1 hx.2.2.2.2.2
theorem mono(h:Num es n):∀(k' k:Nat),k<k'→k'<n→wval (wN es (k:Int))<wval (wN es (k':Int)):=by
 intro k'
 induction k' using Nat.strongRecOn with
 | ind k' ih=>
  intro k hkk hk';obtain⟨x',hm',hf',ht',hf0',hfk',e'⟩:=h.step (k:=k') (by omega) hk';have hx':=h.rng x' hm';have hw':0≤wval (wN es x'.f):=by
   have:=h.evs x'.f.toNat (by omega);rw [Int.toNat_of_nonneg hf0'] at this;exact yeF _ this
  rw [e',ybz];by_cases h0:k=0
  ·subst h0;show wval []<_;show(0:Int)<_;omega
  ·obtain ⟨x,hm,hf,ht,hf0,hfk,e⟩:=h.step (k:=k) (by omega) (by omega);have hx:=h.rng x hm;rw [e,ybz];obtain⟨i,hi,a1,a2,a3⟩:=ycs hf;obtain⟨i',hi',b1,b2,b3⟩:=ycs hf';obtain⟨j,hj,hji,hjt⟩:=h.ear i' hi' (k:Int) (by omega) (by rw [b1,b2];omega);have hij:i≤j:=Nat.le_of_not_lt fun hlt=>a3 j hj hlt hjt;have hlt:=List.pairwise_iff_getElem.1 h.so i i' hi hi' (by omega);rw [a1,b1] at hlt;rcases hlt with hlt|⟨hlt,hle⟩
   ·have:=ih x'.f.toNat (by omega) x.f.toNat (by omega) (by omega);rw [Int.toNat_of_nonneg hf0,Int.toNat_of_nonneg hf0'] at this;omega
   ·rw [hlt];omega
end Num
end Go.Proofs.YtecmobjeeonmaaaGreatDoor
namespace Go.Proofs.YtecmobjeeonmaaaGreatDoor
open Go Go.RowKit
variable{α:Type}{xs:List Int}{e:Int}{r:List Int}{kp:Bool→Bool→Bool}{us vs:List Int}{P S:AutT}{n1 n2:Nat}
structure Disc {τ:Type} (st:τ→Int→Option τ) (al:List Int) (T:List τ) (E:List (Int×Int×Int)):Prop where
 nd:T.Nodup
 so:E.Pairwise fun x y=>x.1<y.1∨(x.1=y.1∧x.2.1<y.2.1)
 sn:∀x∈E,∃(a q:Nat) (t r:τ),x.1=(a:Int)∧x.2.2=(q:Int)∧T[a]? =some t∧T[q]? =some r∧x.2.1∈al∧st t x.2.1=some r
 ed:∀(a:Nat) (t:τ) (e:Int) (r:τ),T[a]? =some t→e∈al→st t e=some r→∃q:Nat,((a:Int),e,(q:Int))∈E∧T[q]? =some r
 cov:∀k:Nat,0<k→k<T.length→∃x∈E,x.2.2=(k:Int)
 ear:∀n (hn:n<E.length) (k:Int),0<k→k<E[n].2.2→∃p,∃hp:p<E.length,p<n∧E[p].2.2=k
 fst:∀n (hn:n<E.length),(∀p (hp:p<E.length),p<n→E[p].2.2≠E[n].2.2)→E[n].2.2=0∨E[n].1<E[n].2.2
 evr:∀e∈al,0≤e∧e<32
section
variable{τ:Type}{st:τ→Int→Option τ}{al:List Int}{T T':List τ}{E E':List (Int×Int×Int)}
theorem y9B{lt:τ→τ→Prop}(hir:∀a b,lt a b→lt b a→False):∀{xs ys:List τ},xs.Pairwise lt→ys.Pairwise lt→(∀x,x∈xs↔x∈ys)→xs=ys
 | [],[],_,_,_=>rfl
 | [],y::ys,_,_,h=>by have:=(h y).2 (List.mem_cons_self ..);cases this
 | x::xs,[],_,_,h=>by have:=(h x).1 (List.mem_cons_self ..);cases this
 | x::xs,y::ys,hx,hy,h=>by
  obtain⟨x1,x2⟩:=List.pairwise_cons.1 hx;obtain⟨y1,y2⟩:=List.pairwise_cons.1 hy;have hxy:x=y:=by
   rcases List.mem_cons.1 ((h x).1 (List.mem_cons_self ..)) with e|e
   ·exact e
   ·rcases List.mem_cons.1 ((h y).2 (List.mem_cons_self ..)) with e'|e'
    ·exact e'.symm
    ·exact (hir x y (x1 y e') (y1 x e)).elim
  subst hxy;have hne1:∀z∈xs,z≠x:=fun z hz e=>by subst e;exact hir z z (x1 z hz) (x1 z hz)
  have hne2:∀z∈ys,z≠x:=fun z hz e=>by subst e;exact hir z z (y1 z hz) (y1 z hz)
  rw [y9B hir x2 y2 fun z=>?_];constructor
  ·intro hz;exact(List.mem_cons.1 ((h z).1 (List.mem_cons_of_mem _ hz))).resolve_left (hne1 z hz)
  ·intro hz;exact(List.mem_cons.1 ((h z).2 (List.mem_cons_of_mem _ hz))).resolve_left (hne2 z hz)
end
theorem y7I{xs:List α}{x:α}{n:Nat}(hn:n<(xs++[x]).length):(∃h:n<xs.length,(xs++[x])[n]=xs[n])∨(n=xs.length∧(xs++[x])[n]=x):=by
 by_cases h:n<xs.length
 ·exact .inl ⟨h,List.getElem_append_left h⟩
 ·have h2:n=xs.length:=by simp at hn;omega
  subst h2;exact .inr ⟨rfl,by rw [List.getElem_append_right (Nat.le_refl _)];simp⟩
structure Fnd {τ:Type} (st:τ→Int→Option τ) (ev:List Int) (i j:Nat) (T:List τ) (E:List (Int×Int×Int)):Prop where
 sn:∀x∈E,∃(a q:Nat) (t r:τ),x.1=(a:Int)∧x.2.2=(q:Int)∧T[a]? =some t∧T[q]? =some r∧st t x.2.1=some r
 ed:∀(a b:Nat) (t:τ) (e:Int) (r:τ),(a<i∨(a=i∧b<j))→T[a]? =some t→ev[b]? =some e→st t e=some r→∃q:Nat,((a:Int),e,(q:Int))∈E∧T[q]? =some r
 cov:∀k:Nat,0<k→k<T.length→∃x∈E,x.2.2=(k:Int)
 ear:∀n (hn:n<E.length) (k:Int),0<k→k<E[n].2.2→∃p,∃hp:p<E.length,p<n∧E[p].2.2=k
 fst:∀n (hn:n<E.length),(∀p (hp:p<E.length),p<n→E[p].2.2≠E[n].2.2)→E[n].2.2=0∨E[n].1<E[n].2.2
section
variable{τ:Type}{st:τ→Int→Option τ}{ev:List Int}{i j:Nat}{T:List τ}{E:List (Int×Int×Int)}
theorem Fnd.skip(h:Fnd st ev i j T E){t:τ}(ht:T[i]? =some t)(he:ev[j]? =some e)(hs:st t e=none):Fnd st ev i (j+1) T E:=by
 refine⟨h.sn,fun a b t' e' r hab ha hb hst=>?_,h.cov,h.ear,h.fst⟩;by_cases hx:a=i∧b=j
 ·obtain ⟨rfl,rfl⟩:=hx;rw [ht] at ha;rw [he] at hb;cases ha;cases hb;rw [hs] at hst;cases hst
 ·exact h.ed a b t' e' r (by omega) ha hb hst
theorem Fnd.next(h:Fnd st ev i j T E)(hj:ev.length≤j):Fnd st ev (i+1) 0 T E:=
 ⟨h.sn,fun a b t e r hab ha hb hst=>h.ed a b t e r (by have:=(List.getElem?_eq_some_iff.1 hb).1;omega) ha hb hst,h.cov,h.ear,h.fst⟩
theorem Fnd.edge(h:Fnd st ev i j T E){t r:τ}{q:Nat}(ht:T[i]? =some t)(he:ev[j]? =some e)(hs:st t e=some r)(hq:T[q]? =some r):Fnd st ev i (j+1) T (E++[((i:Int),e,(q:Int))]):=by
 have hql:=(List.getElem?_eq_some_iff.1 hq).1;refine⟨fun x hx=>?_,fun a b t' e' r' hab ha hb hst=>?_,fun k h0 h1=>?_,fun n hn k h0 h1=>?_,fun n hn hf=>?_⟩
 ·rcases List.mem_append.1 hx with hx|hx
  ·exact h.sn x hx
  ·rw [List.mem_singleton.1 hx];exact⟨i,q,t,r,rfl,rfl,ht,hq,hs⟩
 ·by_cases hx:a=i∧b=j
  ·obtain ⟨rfl,rfl⟩:=hx;rw [ht] at ha;rw [he] at hb;cases ha;cases hb;rw [hs] at hst;cases hst;exact⟨q,List.mem_append_right _ (List.mem_singleton.2 rfl),hq⟩
  ·obtain ⟨q',g1,g2⟩:=h.ed a b t' e' r' (by omega) ha hb hst;exact⟨q',List.mem_append_left _ g1,g2⟩
 ·obtain ⟨x,hx,h2⟩:=h.cov k h0 h1;exact⟨x,List.mem_append_left _ hx,h2⟩
 ·rcases y7I hn with ⟨hn2,e2⟩|⟨hn2,e2⟩
  ·rw [e2] at h1;obtain⟨p,hp,h3,h4⟩:=h.ear n hn2 k h0 h1;exact⟨p,by simp;omega,h3,by rw [List.getElem_append_left hp];exact h4⟩
  ·rw [e2] at h1;dsimp only at h1;obtain⟨x,hx,h3⟩:=h.cov k.toNat (by omega) (by omega);obtain⟨p,hp,rfl⟩:=List.getElem_of_mem hx;exact⟨p,by simp;omega,by omega,by rw [List.getElem_append_left hp,h3];omega⟩
 ·rcases y7I hn with ⟨hn2,e2⟩|⟨hn2,e2⟩
  ·rw [e2];refine h.fst n hn2 fun p hp hpn=>?_;have:=hf p (by simp;omega) hpn;rwa [List.getElem_append_left hp,e2] at this
  ·rw [e2];dsimp only;by_cases hz:q=0
   ·left;omega
   ·exfalso;obtain⟨x,hx,h3⟩:=h.cov q (by omega) hql;obtain⟨p,hp,rfl⟩:=List.getElem_of_mem hx;have:=hf p (by simp;omega) (by omega);rw [List.getElem_append_left hp,e2,h3] at this;exact this rfl
theorem Fnd.new(h:Fnd st ev i j T E){t r:τ}(hi:i<T.length)(ht:T[i]? =some t)(he:ev[j]? =some e)(hs:st t e=some r):Fnd st ev i (j+1) (T++[r]) (E++[((i:Int),e,(T.length:Int))]):=by
 have hup:∀{a:Nat} {u:τ},T[a]? =some u→(T++[r])[a]? =some u:=fun {a u} hu=>by rw [List.getElem?_append_left (List.getElem?_eq_some_iff.1 hu).1];exact hu
 have hnew:(T++[r])[T.length]? =some r:=by rw [List.getElem?_append_right (Nat.le_refl _)];simp
 have hto:∀x∈E,0≤x.2.2∧x.2.2<(T.length:Int):=fun x hx=>by
  obtain⟨a,q,u,v,_,h2,_,h4,_⟩:=h.sn x hx;have:=(List.getElem?_eq_some_iff.1 h4).1;omega
 refine⟨fun x hx=>?_,fun a b t' e' r' hab ha hb hst=>?_,fun k h0 h1=>?_,fun n hn k h0 h1=>?_,fun n hn hf=>?_⟩
 ·rcases List.mem_append.1 hx with hx|hx
  ·obtain ⟨a,q,u,v,h1,h2,h3,h4,h5⟩:=h.sn x hx;exact⟨a,q,u,v,h1,h2,hup h3,hup h4,h5⟩
  ·rw [List.mem_singleton.1 hx];exact⟨i,T.length,t,r,rfl,rfl,hup ht,hnew,hs⟩
 ·have hal:a<T.length:=by omega
  rw [List.getElem?_append_left hal] at ha;by_cases hx:a=i∧b=j
  ·obtain ⟨rfl,rfl⟩:=hx;rw [ht] at ha;rw [he] at hb;cases ha;cases hb;rw [hs] at hst;cases hst;exact⟨T.length,List.mem_append_right _ (List.mem_singleton.2 rfl),hnew⟩
  ·obtain ⟨q',g1,g2⟩:=h.ed a b t' e' r' (by omega) ha hb hst;exact⟨q',List.mem_append_left _ g1,hup g2⟩
 ·by_cases hk:k<T.length
  ·obtain ⟨x,hx,h2⟩:=h.cov k h0 hk;exact⟨x,List.mem_append_left _ hx,h2⟩
  ·have:k=T.length:=by simp at h1;omega
   subst this;exact⟨_,List.mem_append_right _ (List.mem_singleton.2 rfl),rfl⟩
 ·rcases y7I hn with ⟨hn2,e2⟩|⟨hn2,e2⟩
  ·rw [e2] at h1;obtain⟨p,hp,h3,h4⟩:=h.ear n hn2 k h0 h1;exact⟨p,by simp;omega,h3,by rw [List.getElem_append_left hp];exact h4⟩
  ·rw [e2] at h1;dsimp only at h1;obtain⟨x,hx,h3⟩:=h.cov k.toNat (by omega) (by omega);obtain⟨p,hp,rfl⟩:=List.getElem_of_mem hx;exact⟨p,by simp;omega,by omega,by rw [List.getElem_append_left hp,h3];omega⟩
 ·rcases y7I hn with ⟨hn2,e2⟩|⟨hn2,e2⟩
  ·rw [e2];refine h.fst n hn2 fun p hp hpn=>?_;have:=hf p (by simp;omega) hpn;rwa [List.getElem_append_left hp,e2] at this
  ·rw [e2];dsimp only;right;omega
end
theorem Fnd.start{τ:Type}{st:τ→Int→Option τ}{ev:List Int}{T:List τ}(h:T.length≤1):Fnd st ev 0 0 T []:=
 ⟨fun x hx=>(by cases hx),fun a b t e r hab=>by omega,fun k h0 h1=>by omega,fun n hn=>by simp at hn,fun n hn=>by simp at hn⟩
theorem Fnd.disc{τ:Type}{st:τ→Int→Option τ}{ev:List Int}{T:List τ}{E:List (Int×Int×Int)}(h:Fnd st ev T.length 0 T E)(nd:T.Nodup)(so:E.Pairwise fun x y=>x.1<y.1∨(x.1=y.1∧x.2.1<y.2.1))(hal:∀x∈E,x.2.1∈ev)(evr:∀e∈ev,0≤e∧e<32):Disc st ev T E:=by
 refine⟨nd,so,fun x hx=>?_,fun a t e r ha he hs=>?_,h.cov,h.ear,h.fst,evr⟩
 ·obtain ⟨a,q,t,r,h1,h2,h3,h4,h5⟩:=h.sn x hx;exact⟨a,q,t,r,h1,h2,h3,h4,hal x hx,h5⟩
 ·obtain ⟨b,hb,hbe⟩:=List.getElem_of_mem he;exact h.ed a b t e r (.inl (List.getElem?_eq_some_iff.1 ha).1) ha (by rw [yGe hb,hbe]) hs
theorem yff{u:Nat}(hu:u<100):(32:UInt8)∉dig2 u:=by
 have h:∀v:_root_.Fin 100,(32:UInt8)∉dig2 v.val:=by decide +kernel
 exact h ⟨u,hu⟩
theorem yhf{u v:Nat}(hu:u<100)(hv:v<100)(e:dig2 u=dig2 v):u=v:=by
 have h:∀v:_root_.Fin 100,((dig2 v.val).foldl (fun acc d=>10*acc+(d.toNat-48)) 0)=v.val:=by decide +kernel
 have h1:=h ⟨u,hu⟩;have h2:=h ⟨v,hv⟩;dsimp only at h1 h2;rw [e] at h1;omega
theorem yeo{c:α}:∀{l1 l2 r1 r2:List α},c∉l1→c∉l2→l1++c::r1=l2++c::r2→l1=l2∧r1=r2
 | [],[],_,_,_,_,h=>⟨rfl,(List.cons.inj h).2⟩
 | [],b::l2,_,_,_,h2,h=>absurd (List.cons.inj h).1 (fun e=>h2 (e▸List.mem_cons_self ..))
 | a::l1,[],_,_,h1,_,h=>absurd (List.cons.inj h).1 (fun e=>h1 (e▸List.mem_cons_self ..))
 | a::l1,b::l2,_,_,h1,h2,h=>by
  obtain⟨e1,e2⟩:=List.cons.inj h;obtain⟨e3,e4⟩:=yeo (fun hm=>h1 (List.mem_cons_of_mem _ hm)) (fun hm=>h2 (List.mem_cons_of_mem _ hm)) e2;exact⟨by rw [e1,e3],e4⟩
theorem yep :∀{t u:List Int},(∀x∈t,0≤x∧x<100)→(∀x∈u,0≤x∧x<100)→keyB t=keyB u→t=u
 | [],[],_,_,_=>rfl
 | [],y::u,_,_,h=>by simp [keyB] at h
 | x::t,[],_,_,h=>by simp [keyB] at h
 | x::t,y::u,ht,hu,h=>by
  have h1:=ht x (List.mem_cons_self ..);have h2:=hu y (List.mem_cons_self ..);obtain⟨e1,e2⟩:=yeo (yff (by omega)) (yff (by omega)) h;have e3:=yhf (u:=x.toNat) (v:=y.toNat) (by omega) (by omega) e1;rw [show x=y by omega,yep (fun z hz=>ht z (List.mem_cons_of_mem _ hz)) (fun z hz=>hu z (List.mem_cons_of_mem _ hz)) e2]
theorem yhg{t u:List Int}(ht:∀x∈t,0≤x∧x<100)(hu:∀x∈u,0≤x∧x<100)(h:keyK t=keyK u):t=u:=by
 refine yep ht hu ?_;have:=congrArg ByteArray.data h;simpa [keyK] using this
theorem InT.hund{l:List AutT}{B:Nat}(h:LOkB B l){t:List Int}(ht:InT l t):∀x∈t,0≤x∧x<100:=fun x hx=>by
 have:=ht.smallB h x hx;have:=h.b99;omega
noncomputable def mst(m:List AutT×List Int×List (List ((Int×Int)×Int)))(t:List Int)(e:Int):Option (List Int):=match y1d m t e with
 | some (u,true)=>some u
 | _=>none
theorem yhh{l:List AutT}{B:Nat}(h:LOkB B l){m:List AutT×List Int×List (List ((Int×Int)×Int))}(hm:MOk l m){t:List Int}(ht:InT l t)(e:Int):∃r,y1d m t e=some r∧(r.2=true→InT l r.1∧mst m t e=some r.1)∧(r.2=false→mst m t e=none):=by
 obtain⟨⟨u,b⟩,h1,h2⟩:=yhe h hm ht e;refine⟨(u,b),h1,fun hb=>⟨h2 hb,?_⟩,fun hb=>?_⟩
 ·have hb:b=true:=hb;unfold mst;rw [h1,hb]
 ·have hb:b=false:=hb;unfold mst;rw [h1,hb]
structure SZ (m:List AutT×List Int×List (List ((Int×Int)×Int))) (i j:Nat) (kn:Kno) (T:List (List Int)) (E:List (Int×Int×Int)):Prop where
 kv:∀e∈kn,∃(q:Nat) (t:List Int),e.2=(q:Int)∧T[q]? =some t∧e.1=keyK t
 sn:∀x∈E,∃(a q:Nat) (t r:List Int),x.1=(a:Int)∧x.2.2=(q:Int)∧T[a]? =some t∧T[q]? =some r∧mst m t x.2.1=some r
 ed:∀(a b:Nat) (t:List Int) (e:Int) (r:List Int),(a<i∨(a=i∧b<j))→T[a]? =some t→m.2.1[b]? =some e→mst m t e=some r→∃q:Nat,((a:Int),e,(q:Int))∈E∧T[q]? =some r
 cov:∀k:Nat,0<k→k<T.length→∃x∈E,x.2.2=(k:Int)
 ear:∀n (hn:n<E.length) (k:Int),0<k→k<E[n].2.2→∃p,∃hp:p<E.length,p<n∧E[p].2.2=k
 fst:∀n (hn:n<E.length),(∀p (hp:p<E.length),p<n→E[p].2.2≠E[n].2.2)→E[n].2.2=0∨E[n].1<E[n].2.2
section
variable{m:List AutT×List Int×List (List ((Int×Int)×Int))}{i j:Nat}{kn:Kno}{T:List (List Int)}{E:List (Int×Int×Int)}
theorem SZ.skip(h:SZ m i j kn T E){t:List Int}(ht:T[i]? =some t)(he:m.2.1[j]? =some e)(hs:mst m t e=none):SZ m i (j+1) kn T E:=by
 refine⟨h.kv,h.sn,fun a b t' e' r hab ha hb hst=>?_,h.cov,h.ear,h.fst⟩;by_cases hx:a=i∧b=j
 ·obtain ⟨rfl,rfl⟩:=hx;rw [ht] at ha;rw [he] at hb;cases ha;cases hb;rw [hs] at hst;cases hst
 ·exact h.ed a b t' e' r (by omega) ha hb hst
theorem SZ.next(h:SZ m i j kn T E)(hj:m.2.1.length≤j):SZ m (i+1) 0 kn T E:=
 ⟨h.kv,h.sn,fun a b t e r hab ha hb hst=>h.ed a b t e r (by have:=(List.getElem?_eq_some_iff.1 hb).1;omega) ha hb hst,h.cov,h.ear,h.fst⟩
theorem SZ.edge(h:SZ m i j kn T E){t:List Int}{q:Nat}(ht:T[i]? =some t)(he:m.2.1[j]? =some e)(hs:mst m t e=some r)(hq:T[q]? =some r):SZ m i (j+1) kn T (E++[((i:Int),e,(q:Int))]):=by
 have hql:=(List.getElem?_eq_some_iff.1 hq).1;refine⟨h.kv,fun x hx=>?_,fun a b t' e' r' hab ha hb hst=>?_,fun k h0 h1=>?_,fun n hn k h0 h1=>?_,fun n hn hf=>?_⟩
 ·rcases List.mem_append.1 hx with hx|hx
  ·exact h.sn x hx
  ·rw [List.mem_singleton.1 hx];exact⟨i,q,t,r,rfl,rfl,ht,hq,hs⟩
 ·by_cases hx:a=i∧b=j
  ·obtain ⟨rfl,rfl⟩:=hx;rw [ht] at ha;rw [he] at hb;cases ha;cases hb;rw [hs] at hst;cases hst;exact⟨q,List.mem_append_right _ (List.mem_singleton.2 rfl),hq⟩
  ·obtain ⟨q',g1,g2⟩:=h.ed a b t' e' r' (by omega) ha hb hst;exact⟨q',List.mem_append_left _ g1,g2⟩
 ·obtain ⟨x,hx,h2⟩:=h.cov k h0 h1;exact⟨x,List.mem_append_left _ hx,h2⟩
 ·rcases y7I hn with ⟨hn2,e2⟩|⟨hn2,e2⟩
  ·rw [e2] at h1;obtain⟨p,hp,h3,h4⟩:=h.ear n hn2 k h0 h1;exact⟨p,by simp;omega,h3,by rw [List.getElem_append_left hp];exact h4⟩
  ·rw [e2] at h1;dsimp only at h1;obtain⟨x,hx,h3⟩:=h.cov k.toNat (by omega) (by omega);obtain⟨p,hp,rfl⟩:=List.getElem_of_mem hx;exact⟨p,by simp;omega,by omega,by rw [List.getElem_append_left hp,h3];omega⟩
 ·rcases y7I hn with ⟨hn2,e2⟩|⟨hn2,e2⟩
  ·rw [e2];refine h.fst n hn2 fun p hp hpn=>?_;have:=hf p (by simp;omega) hpn;rwa [List.getElem_append_left hp,e2] at this
  ·rw [e2];dsimp only;by_cases hz:q=0
   ·left;omega
   ·exfalso;obtain⟨x,hx,h3⟩:=h.cov q (by omega) hql;obtain⟨p,hp,rfl⟩:=List.getElem_of_mem hx;have:=hf p (by simp;omega) (by omega);rw [List.getElem_append_left hp,e2,h3] at this;exact this rfl
theorem SZ.new(h:SZ m i j kn T E){t:List Int}(hi:i<T.length)(ht:T[i]? =some t)(he:m.2.1[j]? =some e)(hs:mst m t e=some r):SZ m i (j+1) (kput kn (keyK r) (T.length:Int)) (T++[r]) (E++[((i:Int),e,(T.length:Int))]):=by
 have hup:∀{a:Nat} {u:List Int},T[a]? =some u→(T++[r])[a]? =some u:=fun {a u} hu=>by rw [List.getElem?_append_left (List.getElem?_eq_some_iff.1 hu).1];exact hu
 have hnew:(T++[r])[T.length]? =some r:=by rw [List.getElem?_append_right (Nat.le_refl _)];simp
 have hto:∀x∈E,0≤x.2.2∧x.2.2<(T.length:Int):=fun x hx=>by
  obtain⟨a,q,u,v,_,h2,_,h4,_⟩:=h.sn x hx;have:=(List.getElem?_eq_some_iff.1 h4).1;omega
 refine⟨fun x hx=>?_,fun x hx=>?_,fun a b t' e' r' hab ha hb hst=>?_,fun k h0 h1=>?_,fun n hn k h0 h1=>?_,fun n hn hf=>?_⟩
 ·rcases y9X hx with hx|hx
  ·obtain ⟨q,u,h1,h2,h3⟩:=h.kv x hx;exact⟨q,u,h1,hup h2,h3⟩
  ·rw [hx];exact⟨T.length,r,rfl,hnew,rfl⟩
 ·rcases List.mem_append.1 hx with hx|hx
  ·obtain ⟨a,q,u,v,h1,h2,h3,h4,h5⟩:=h.sn x hx;exact⟨a,q,u,v,h1,h2,hup h3,hup h4,h5⟩
  ·rw [List.mem_singleton.1 hx];exact⟨i,T.length,t,r,rfl,rfl,hup ht,hnew,hs⟩
 ·have hal:a<T.length:=by omega
  rw [List.getElem?_append_left hal] at ha;by_cases hx:a=i∧b=j
  ·obtain ⟨rfl,rfl⟩:=hx;rw [ht] at ha;rw [he] at hb;cases ha;cases hb;rw [hs] at hst;cases hst;exact⟨T.length,List.mem_append_right _ (List.mem_singleton.2 rfl),hnew⟩
  ·obtain ⟨q',g1,g2⟩:=h.ed a b t' e' r' (by omega) ha hb hst;exact⟨q',List.mem_append_left _ g1,hup g2⟩
 ·by_cases hk:k<T.length
  ·obtain ⟨x,hx,h2⟩:=h.cov k h0 hk;exact⟨x,List.mem_append_left _ hx,h2⟩
  ·have:k=T.length:=by simp at h1;omega
   subst this;exact⟨_,List.mem_append_right _ (List.mem_singleton.2 rfl),rfl⟩
 ·rcases y7I hn with ⟨hn2,e2⟩|⟨hn2,e2⟩
  ·rw [e2] at h1;obtain⟨p,hp,h3,h4⟩:=h.ear n hn2 k h0 h1;exact⟨p,by simp;omega,h3,by rw [List.getElem_append_left hp];exact h4⟩
  ·rw [e2] at h1;dsimp only at h1;obtain⟨x,hx,h3⟩:=h.cov k.toNat (by omega) (by omega);obtain⟨p,hp,rfl⟩:=List.getElem_of_mem hx;exact⟨p,by simp;omega,by omega,by rw [List.getElem_append_left hp,h3];omega⟩
 ·rcases y7I hn with ⟨hn2,e2⟩|⟨hn2,e2⟩
  ·rw [e2];refine h.fst n hn2 fun p hp hpn=>?_;have:=hf p (by simp;omega) hpn;rwa [List.getElem_append_left hp,e2] at this
  ·rw [e2];dsimp only;right;omega
end
theorem yhi{l:List AutT}{B:Nat}(h:LOkB B l){m:List AutT×List Int×List (List ((Int×Int)×Int))}(hm:MOk l m){i:Nat}{kn:Kno}{T:List (List Int)}{E:List (Int×Int×Int)}(z:Kno×List (List Int)×List Int×List (Int×Int×Int))(hS:SI l m.2.1 i 0 kn T E)(hZ:SZ m i 0 kn T E)(hi:i<T.length):
  ∃kn' T' E',iter (y2H m ((i:Int),z)) (0,kn,T,E)=some (.inl (kn',T',E'))∧SI l m.2.1 (i+1) 0 kn' T' E'∧SZ m (i+1) 0 kn' T' E'∧i<T'.length∧∃U,T'=T++U:=by
 have hal:=hm.ev.len;obtain⟨o,h1,h2⟩:=yd (f:=y2H m ((i:Int),z)) (fun j s=>s.1=(j:Int)∧j≤m.2.1.length∧SI l m.2.1 i j s.2.1 s.2.2.1 s.2.2.2∧SZ m i j s.2.1 s.2.2.1 s.2.2.2∧i<s.2.2.1.length∧∃U,s.2.2.1=T++U) (fun o=>∃kn' T' E',o= .inl (kn',T',E')∧SI l m.2.1 (i+1) 0 kn' T' E'∧SZ m (i+1) 0 kn' T' E'∧i<T'.length∧∃U,T'=T++U) m.2.1.length 0 (by omega) (fun j s hj ⟨e1,_,hS,hZ,hi,U,hU⟩=>by
   obtain⟨k,kn,T1,E⟩:=s;dsimp only at e1 hS hZ hi hU;subst e1;have hTl:=y8W h hS.nd hS.inT;have hj2:∀a b c,y2F ((j:Int),kn,T1,E) a b c=some (.inl (((j+1:Nat):Int),a,b,c)):=fun a b c=>by
    rw [y2F];dsimp only;rw [nxt (by omega)]
   have hj3:∀x b n c,y2G ((i:Int),z) ((j:Int),kn,T1,E) x b n c=some (.inl (((j+1:Nat):Int),c,b,E++[((i:Int),x,n)])):=fun x b n c=>by
    have he:=hS.el;have hi':i<4000:=by omega
    rw [y2G];dsimp only;rw [yj (by simp;omega),yOb,hj2]
   have hin:=hS.inT _ (List.getElem_mem hi);obtain⟨r,hr,hrT,hrF⟩:=yhh h hm hin m.2.1[j];have hti:T1[i]? =some T1[i]:=yGe hi;have hej:m.2.1[j]? =some m.2.1[j]:=yGe hj;left;rw [y2H];dsimp only;rw [if_pos (ct_lt hj),ya hj,yOb,ya hi,yOb,hr,yOb];cases hb:r.2 with
   | false=>
    rw [if_pos (by simp),hj2];exact⟨_,rfl,rfl,by omega,hS.skip,hZ.skip hti hej (hrF hb),hi,U,hU⟩
   | true=>
    obtain⟨ht,hms⟩:=hrT hb;rw [if_neg (by simp),yfe h ht,yOb];cases hg:kget kn (keyK r.1) with
    | none=>
     rw [if_pos (by simp),if_neg (by simp;omega),yOb,yj (by simp;omega),yOb,hj3];exact⟨_,rfl,rfl,by omega,hS.new hm.ev.1 hi hj ht (by rw [hg];rfl),hZ.new hi hti hej hms,by simp;omega,U++[r.1],by rw [hU,List.append_assoc]⟩
    | some v=>
     obtain⟨x,hx,hxv,hxk⟩:=ygk hg;obtain⟨q,u,g1,g2,g3⟩:=hZ.kv x hx;have hk:keyK r.1=keyK u:=(eqS hxk).trans g3;have hu:u∈T1:=List.mem_of_getElem? g2;have he:r.1=u:=yhg (ht.hund h) ((hS.inT u hu).hund h) hk;rw [←he] at g2;have hql:=(List.getElem?_eq_some_iff.1 g2).1;have hvq:v=(q:Int):=by rw [←hxv];exact g1
     rw [if_neg (by simp),hj3,hvq];exact⟨_,rfl,rfl,by omega,hS.edge (q:=(q:Int)) hm.ev.1 hi hj (by omega) (by omega),hZ.edge (q:=q) hti hej hms g2,hi,U,hU⟩) (fun s ⟨e1,_,hS,hZ,hi,U,hU⟩=>by
   obtain⟨k,kn,T1,E⟩:=s;dsimp only at e1 hS hZ hi hU;subst e1;refine⟨.inl (kn,T1,E),?_,kn,T1,E,rfl,hS.next hal,hZ.next (Nat.le_refl _),hi,U,hU⟩;rw [y2H];dsimp only;rw [if_neg ct_ge]) (Nat.zero_le _) (0,kn,T,E) ⟨rfl,Nat.zero_le _,hS,hZ,hi,[],by simp⟩
 obtain⟨kn',T',E',rfl,h3,h4,h5,h6⟩:=h2;exact⟨kn',T',E',h1,h3,h4,h5,h6⟩
structure PrdZ (l:List AutT) (m:List AutT×List Int×List (List ((Int×Int)×Int))) (p:AutT) (T:List (List Int)) (n:Nat):Prop where
 right:Right p n
 pos:1≤n
 le:n≤4000
 tl:T.length=n
 nd:T.Nodup
 inT:∀t∈T,InT l t
 t0:∃t,T[0]? =some t∧yu m=some (t,true)
 ev:p.1=m.2.1
 sn:∀x∈p.2.2.2,∃(a q:Nat) (t r:List Int),x.1=(a:Int)∧x.2.2=(q:Int)∧T[a]? =some t∧T[q]? =some r∧mst m t x.2.1=some r
 ed:∀(a:Nat) (t:List Int) (e:Int) (r:List Int),T[a]? =some t→e∈p.1→mst m t e=some r→∃q:Nat,((a:Int),e,(q:Int))∈p.2.2.2∧T[q]? =some r
 num:Num (edsOf p) n
 mkd:∀(a:Nat) (t:List Int),T[a]? =some t→∃b,yF m t=some b∧(b=true↔(a:Int)∈p.2.2.1)
theorem yhj{l:List AutT}{B:Nat}(h:LOkB B l):∃m p T n,y5h l=some m∧MOk l m∧yw l=some (p,T,0)∧PrdZ l m p T n:=by
 obtain⟨m,hm,hM⟩:=yhd h;obtain⟨t0,ht0,hT0⟩:=yeI h hM;have hal:=hM.ev.len;have hS0:SI l m.2.1 0 0 (kput ([]:Kno) (keyK t0) 0) [t0] []:=by
  refine⟨by simp,by simp,fun t ht=>?_,fun t ht=>?_,fun e he=>?_,fun x hx=>(by cases hx),fun x hx=>(by cases hx),List.Pairwise.nil,by simp,fun k h0 h1=>?_⟩
  ·rw [List.mem_singleton.1 ht];exact hT0
  ·rw [List.mem_singleton.1 ht];exact ydE
  ·rcases y9X he with he|he
   ·cases he
   ·rw [he];simp
  ·simp at h1;omega
 have hZ0:SZ m 0 0 (kput ([]:Kno) (keyK t0) 0) [t0] []:=by
  refine⟨fun e he=>?_,fun x hx=>(by cases hx),fun a b t e r hab=>by omega,fun k h0 h1=>by simp at h1;omega,fun n hn=>by simp at hn,fun n hn=>by simp at hn⟩;rcases y9X he with he|he
  ·cases he
  ·rw [he];exact⟨0,t0,rfl,rfl,rfl⟩
 obtain⟨o,h1,h2⟩:=yd (f:=y2J m) (fun i s=>s.1=(i:Int)∧i≤s.2.2.1.length∧SI l m.2.1 i 0 s.2.1 s.2.2.1 s.2.2.2.2∧SZ m i 0 s.2.1 s.2.2.1 s.2.2.2.2∧Inc s.2.2.2.1∧(∀x∈s.2.2.2.1,0≤x∧x<(i:Int))∧s.2.2.1[0]? =some t0∧∀(a:Nat) (t:List Int),a<i→s.2.2.1[a]? =some t→∃b,yF m t=some b∧(b=true↔(a:Int)∈s.2.2.2.1)) (fun o=>∃T M E,o= .inl (T,M,E)∧∃kn,SI l m.2.1 T.length 0 kn T E∧SZ m T.length 0 kn T E∧Inc M∧(∀x∈M,0≤x∧x<(T.length:Int))∧T[0]? =some t0∧∀(a:Nat) (t:List Int),T[a]? =some t→∃b,yF m t=some b∧(b=true↔(a:Int)∈M)) 4000 0 (by omega) (fun i s _ ⟨e1,hle,hS,hZ,hi1,hi2,ht,hmk⟩=>by
   obtain⟨k,kn,T,M,E⟩:=s;dsimp only at e1 hle hS hZ hi1 hi2 ht hmk;subst e1;have hTl:=y8W h hS.nd hS.inT;by_cases hi:i<T.length
   ·left;obtain⟨b,hb⟩:=yfx h hM (hS.inT _ (List.getElem_mem hi));obtain⟨kn',T',E',g1,g2,g3,g4,U,hU⟩:=yhi h hM (kn,T,M,E) hS hZ hi;have hj:∀M',y2I m ((i:Int),kn,T,M,E) M'=some (.inl (((i+1:Nat):Int),kn',T',M',E')):=fun M'=>by
     rw [y2I];dsimp only;rw [g1,yOb];dsimp only;rw [nxt (by omega)]
    have hTT:∀a,a<T.length→T'[a]? =T[a]? :=fun a ha=>by rw [hU,List.getElem?_append_left ha]
    have ht':T'[0]? =some t0:=by rw [hTT 0 (by omega)];exact ht
    have hmk':∀M':List Int,(∀x:Int,x≠(i:Int)→(x∈M'↔x∈M))→(b=true↔(i:Int)∈M')→∀(a:Nat) (t:List Int),a<i+1→T'[a]? =some t→∃b,yF m t=some b∧(b=true↔(a:Int)∈M'):=fun M' hM1 hM2 a t ha hat=>by
     rw [hTT a (by omega)] at hat;by_cases e:a=i
     ·subst e;rw [yGe hi] at hat;cases hat;exact⟨b,hb,hM2⟩
     ·obtain ⟨b',q1,q2⟩:=hmk a t (by omega) hat;exact⟨b',q1,by rw [q2,hM1 _ (by omega)]⟩
    rw [y2J];dsimp only;rw [if_pos (ct_lt hi),ya hi,yOb,hb,yOb];cases hbv:b with
    | false=>
     rw [if_neg (by simp),hj];exact⟨_,rfl,rfl,by dsimp only;omega,g2,g3,hi1,fun x hx=>by have:=hi2 x hx;omega,ht',hmk' M (fun x _=>Iff.rfl) ⟨fun e=>(by rw [hbv] at e;cases e),fun hx=>by have:=hi2 _ hx;omega⟩⟩
    | true=>
     have hMl:=y5U (n:=i) (lo:=0) hi1 hi2 (Int.le_refl _);rw [if_pos rfl,yj (by simp;omega),yOb,hj];refine⟨_,rfl,rfl,by dsimp only;omega,g2,g3,?_,fun x hx=>?_,ht',hmk' (M++[(i:Int)]) (fun x hx=>?_) ⟨fun _=>List.mem_append_right _ (List.mem_singleton.2 rfl),fun _=>hbv⟩⟩
     ·dsimp only;unfold Inc at hi1 ⊢;rw [List.pairwise_append];exact⟨hi1,List.pairwise_singleton _ _,fun a ha b hb=>by rw [List.mem_singleton.1 hb];exact(hi2 a ha).2⟩
     ·dsimp only at hx;rcases List.mem_append.1 hx with hx|hx
      ·have:=hi2 x hx;omega
      ·rw [List.mem_singleton.1 hx];omega
     ·rw [List.mem_append,List.mem_singleton];exact⟨fun h=>h.resolve_right hx,.inl⟩
   ·right;obtain rfl:i=T.length:=by omega
    refine⟨.inl (T,M,E),?_,T,M,E,rfl,kn,hS,hZ,hi1,hi2,ht,fun a t hat=>hmk a t (List.getElem?_eq_some_iff.1 hat).1 hat⟩;rw [y2J];dsimp only;rw [if_neg ct_ge]) (fun s ⟨e1,hle,hS,hZ,hi1,hi2,ht,hmk⟩=>by
   obtain⟨k,kn,T,M,E⟩:=s;dsimp only at e1 hle hS hZ hi1 hi2 ht hmk;subst e1;have hTl:=y8W h hS.nd hS.inT;have hT:4000=T.length:=by omega
   refine⟨.inl (T,M,E),?_,T,M,E,rfl,kn,by rw [←hT];exact hS,by rw [←hT];exact hZ,hi1,by rw [←hT];exact hi2,ht,fun a t hat=>hmk a t (by have:=(List.getElem?_eq_some_iff.1 hat).1;omega) hat⟩;rw [y2J];dsimp only;rw [hT,if_neg ct_ge]) (Nat.zero_le _) (0,kput ([]:Kno) (keyK t0) 0,[t0],[],[]) ⟨rfl,by simp,hS0,hZ0,List.Pairwise.nil,fun x hx=>(by cases hx),rfl,fun a t ha=>by omega⟩
 obtain⟨T,M,E,rfl,kn,hS,hZ,hi1,hi2,ht,hmk⟩:=h2;have hTl:=y8W h hS.nd hS.inT;have hR:Right (m.2.1,(T.length:Int),M,E) T.length:=by
  refine⟨rfl,by omega,hM.ev.1,hM.ev.2,hi1,hi2,fun x hx=>?_,hS.so,by dsimp only;omega,?_,?_⟩
  ·have:=hS.er x hx;have h3:=hS.es x hx;refine⟨this.1,?_,this.2.2⟩;rcases Int.lt_or_le x.1 (T.length:Int) with h4|h4
   ·exact h4
   ·exact absurd (h3 (by omega)) (by simp)
  ·have:=y5U (n:=T.length) (lo:=0) hi1 hi2 (Int.le_refl _);dsimp only;omega
  ·have:=hS.el;dsimp only;omega
 have hel:(edsOf (m.2.1,(T.length:Int),M,E)).length=E.length:=List.length_map _;have hee:∀n (hn:n<(edsOf (m.2.1,(T.length:Int),M,E)).length) (hn':n<E.length),(edsOf (m.2.1,(T.length:Int),M,E))[n]=toEd E[n]:=fun n hn hn'=>by simp [edsOf]
 refine⟨m,(m.2.1,(T.length:Int),M,E),T,T.length,hm,hM,?_,hR,hS.pos,hTl,rfl,hS.nd,hS.inT,⟨t0,ht,ht0⟩,rfl,hZ.sn,fun a t e r ha he hst=>?_,⟨?_,fun x hx=>?_,fun k h0 h1=>?_,fun n hn k h0 h1=>?_,fun n hn hf=>?_⟩,hmk⟩
 ·rw [yw,yfw h,yOb,if_neg (by simp),hm,yOb,ht0,yOb,if_neg (by simp)];dsimp only;rw [yfe h hT0,yOb,h1];rfl
 ·obtain ⟨b,hb,hbe⟩:=List.getElem_of_mem he;exact hZ.ed a b t e r (.inl (List.getElem?_eq_some_iff.1 ha).1) ha (by rw [yGe hb,hbe]) hst
 ·have:=hR.sorted;exact this
 ·have h3:=hR.ein x hx;have h4:=hR.evs x hx;exact⟨h3.1,h3.2.1,h3.2.2.1,h3.2.2.2,h4.1,h4.2⟩
 ·obtain ⟨x,hx,h3⟩:=hZ.cov k h0 h1;exact⟨toEd x,List.mem_map_of_mem hx,h3⟩
 ·have hn':n<E.length:=by omega
  rw [hee n hn hn'] at h1;obtain⟨p,hp,h3,h4⟩:=hZ.ear n hn' k h0 h1;exact⟨p,by omega,h3,by rw [hee p (by omega) hp];exact h4⟩
 ·have hn':n<E.length:=by omega
  rw [hee n hn hn'];refine hZ.fst n hn' fun p hp hpn=>?_;have:=hf p (by omega) hpn;rw [hee p (by omega) hp,hee n hn hn'] at this;exact this
def mg(kp:Bool→Bool→Bool):List Int→List Int→List Int
 | [],[]=> []
 | [],b::vs=>if kp false true=true then b::mg kp [] vs else mg kp [] vs
 | a::us,[]=>if kp true false=true then a::mg kp us [] else mg kp us []
 | a::us,b::vs=>if a<b then(if kp true false=true then a::mg kp us (b::vs) else mg kp us (b::vs)) else if b<a then(if kp false true=true then b::mg kp (a::us) vs else mg kp (a::us) vs) else(if kp true true=true then b::mg kp us vs else mg kp us vs)
termination_by us vs=>us.length+vs.length
theorem yaG{h:Int}{us' vs':List Int}{bu bv:Bool}(hr:Inc r∧∀x,x∈r↔((x∈us'∨x∈vs')∧kp (hasB us' x) (hasB vs' x)=true))
  (hu:∀x,x∈us↔(x=h∧bu=true)∨x∈us') (hv:∀x,x∈vs↔(x=h∧bv=true)∨x∈vs') (gu:∀x∈us',h<x) (gv:∀x∈vs',h<x) (hb:bu=true∨bv=true):
  Inc (if kp bu bv=true then h::r else r)∧∀x,x∈(if kp bu bv=true then h::r else r)↔((x∈us∨x∈vs)∧kp (hasB us x) (hasB vs x)=true):=by
 have e1:hasB us h=bu:=by
  rw [Bool.eq_iff_iff,yc,hu];exact⟨fun e=>e.elim (fun e=>e.2) (fun e=>by have:=gu _ e;omega),fun e=> .inl ⟨rfl,e⟩⟩
 have e2:hasB vs h=bv:=by
  rw [Bool.eq_iff_iff,yc,hv];exact⟨fun e=>e.elim (fun e=>e.2) (fun e=>by have:=gv _ e;omega),fun e=> .inl ⟨rfl,e⟩⟩
 have e3:∀x,x≠h→hasB us x=hasB us' x:=fun x hx=>by
  rw [Bool.eq_iff_iff,yc,yc,hu];exact⟨fun e=>e.elim (fun e=>absurd e.1 hx) id,.inr⟩
 have e4:∀x,x≠h→hasB vs x=hasB vs' x:=fun x hx=>by
  rw [Bool.eq_iff_iff,yc,yc,hv];exact⟨fun e=>e.elim (fun e=>absurd e.1 hx) id,.inr⟩
 have hgt:∀x∈r,h<x:=fun x hx=>((hr.2 x).1 hx).1.elim (gu x) (gv x);have hne:∀x,x≠h→(x∈r↔((x∈us∨x∈vs)∧kp (hasB us x) (hasB vs x)=true)):=fun x hx=>by
  rw [hr.2 x,e3 x hx,e4 x hx,hu,hv];constructor
  ·rintro ⟨h1|h1,h2⟩
   ·exact ⟨.inl (.inr h1),h2⟩
   ·exact ⟨.inr (.inr h1),h2⟩
  ·rintro ⟨(h1|h1)|(h1|h1),h2⟩
   ·exact absurd h1.1 hx
   ·exact ⟨.inl h1,h2⟩
   ·exact absurd h1.1 hx
   ·exact ⟨.inr h1,h2⟩
 have hh:(h∈us∨h∈vs):=hb.elim (fun e=> .inl ((hu h).2 (.inl ⟨rfl,e⟩))) (fun e=> .inr ((hv h).2 (.inl ⟨rfl,e⟩)));cases hk:kp bu bv with
 | true=>
  rw [if_pos rfl];refine⟨List.pairwise_cons.2 ⟨hgt,hr.1⟩,fun x=>?_⟩;rw [List.mem_cons];by_cases hx:x=h
  ·subst hx;exact⟨fun _=>⟨hh,by rw [e1,e2,hk]⟩,fun _=> .inl rfl⟩
  ·rw [←hne x hx];exact⟨fun e=>e.resolve_left hx,.inr⟩
 | false=>
  rw [if_neg (by simp)];refine⟨hr.1,fun x=>?_⟩;by_cases hx:x=h
  ·subst hx;refine⟨fun e=>absurd (hgt x e) (by omega),fun e=>?_⟩;rw [e1,e2,hk] at e;cases e.2
  ·exact hne x hx
theorem y6x(kp:Bool→Bool→Bool):∀(us vs:List Int),Inc us→Inc vs→Inc (mg kp us vs)∧∀x,x∈mg kp us vs↔((x∈us∨x∈vs)∧kp (hasB us x) (hasB vs x)=true)
 | [],[],_,_=>by
  rw [mg];exact⟨List.Pairwise.nil,fun x=>⟨fun h=>(by cases h),fun h=>(by rcases h.1 with h|h <;> cases h)⟩⟩
 | [],b::vs,_,hv=>by
  obtain⟨v1,v2⟩:=List.pairwise_cons.1 hv;rw [mg];exact yaG (bu:=false) (bv:=true) (y6x kp [] vs List.Pairwise.nil v2) (fun x=>by simp) (fun x=>by simp) (fun x hx=>by cases hx) v1 (.inr rfl)
 | a::us,[],hu,_=>by
  obtain⟨u1,u2⟩:=List.pairwise_cons.1 hu;rw [mg];exact yaG (bu:=true) (bv:=false) (y6x kp us [] u2 List.Pairwise.nil) (fun x=>by simp) (fun x=>by simp) u1 (fun x hx=>by cases hx) (.inl rfl)
 | a::us,b::vs,hu,hv=>by
  obtain⟨u1,u2⟩:=List.pairwise_cons.1 hu;obtain⟨v1,v2⟩:=List.pairwise_cons.1 hv;rw [mg];by_cases h1:a<b
  ·rw [if_pos h1];refine yaG (bu:=true) (bv:=false) (y6x kp us (b::vs) u2 hv) (fun x=>by simp) (fun x=>by simp) u1 (fun x hx=>?_) (.inl rfl);rcases List.mem_cons.1 hx with rfl|hx
   ·exact h1
   ·have:=v1 x hx;omega
  ·rw [if_neg h1];by_cases h2:b<a
   ·rw [if_pos h2];refine yaG (bu:=false) (bv:=true) (y6x kp (a::us) vs hu v2) (fun x=>by simp) (fun x=>by simp) (fun x hx=>?_) v1 (.inr rfl);rcases List.mem_cons.1 hx with rfl|hx
    ·exact h2
    ·have:=u1 x hx;omega
   ·obtain rfl:a=b:=by omega
    rw [if_neg h2];exact yaG (bu:=true) (bv:=true) (y6x kp us vs u2 v2) (fun x=>by simp) (fun x=>by simp) u1 v1 (.inl rfl)
termination_by us vs=>us.length+vs.length
theorem yfy{f:Bool→Bool→Option Bool}(hf:∀a b,f a b=some (kp a b)){out:List Int}(hl:out.length≤4000000)(hne:0<us.length+vs.length):
  ∃o u v,ye f (out,us,vs)=some (.inl (o,u,v))∧o++mg kp u v=out++mg kp us vs∧o.length≤out.length+1∧u.length+v.length+1≤us.length+vs.length:=by
 have ho:∀a:Int,app out ([a]:List Int)=some (out++[a]):=fun a=>yj (by simp;omega);have fin:∀(bu bv:Bool) (h:Int) (u v:List Int),∃o,yn f (out,us,vs) bu bv u v h=some (.inl (o,u,v))∧o++mg kp u v=out++(if kp bu bv=true then h::mg kp u v else mg kp u v)∧o.length≤out.length+1:=fun bu bv h u v=>by
  rw [yn,hf,yOb];dsimp only;cases kp bu bv with
  | true=>rw [if_pos rfl,ho,yOb];exact⟨_,rfl,by simp,by simp⟩
  | false=>rw [if_neg (by simp)];exact⟨_,rfl,by simp,by omega⟩
 cases us with
 | nil=>
  cases vs with
  | nil=>simp at hne
  | cons b vs=>
   obtain⟨o,h1,h2,h3⟩:=fin false true b [] vs;refine⟨o,[],vs,?_,by rw [h2,mg],h3,by simp⟩;rw [ye];dsimp only;rw [if_pos (by simp),if_neg (by simp),yt];dsimp only;rw [if_pos (by simp),if_pos (by simp),yl,if_neg (by simp),yh,if_pos rfl];dsimp only;rw [y2f,yOb,y5P,yOb];exact h1
 | cons a us=>
  cases vs with
  | nil=>
   obtain⟨o,h1,h2,h3⟩:=fin true false a us [];refine⟨o,us,[],?_,by rw [h2,mg],h3,by simp⟩;rw [ye];dsimp only;rw [if_pos (by simp),if_pos (by simp),if_pos (by simp),yt];dsimp only;rw [if_neg (by simp),yl,if_pos rfl];dsimp only;rw [y2f,yOb,y5P,yOb,yh,if_neg (by simp)];exact h1
  | cons b vs=>
   have e0:ye f (out,a::us,b::vs)=yl f (out,a::us,b::vs) (decide (a≤b)) (decide (b≤a)):=by
    rw [ye];dsimp only;rw [if_pos (by simp),if_pos (by simp),if_neg (by simp;omega),y2f,yOb,y2f,yOb,yt];dsimp only;rw [if_pos (by simp),if_neg (by simp;omega),y2f,yOb,y2f,yOb]
   rw [e0,yl];dsimp only;by_cases h1:a<b
   ·obtain ⟨o,g1,g2,g3⟩:=fin true false a us (b::vs);refine⟨o,us,b::vs,?_,by rw [g2,mg,if_pos h1],g3,by simp;omega⟩;rw [show decide (a≤b)=true by simp;omega,show decide (b≤a)=false by simp;omega,if_pos rfl,y2f,yOb,y5P,yOb,yh,if_neg (by simp)];exact g1
   ·by_cases h2:b<a
    ·obtain ⟨o,g1,g2,g3⟩:=fin false true b (a::us) vs;refine⟨o,a::us,vs,?_,by rw [g2,mg,if_neg h1,if_pos h2],g3,by simp;omega⟩;rw [show decide (a≤b)=false by simp;omega,show decide (b≤a)=true by simp;omega,if_neg (by simp),yh,if_pos rfl];dsimp only;rw [y2f,yOb,y5P,yOb];exact g1
    ·obtain ⟨o,g1,g2,g3⟩:=fin true true b us vs;refine⟨o,us,vs,?_,by rw [g2,mg,if_neg h1,if_neg h2],g3,by simp;omega⟩;rw [show decide (a≤b)=true by simp;omega,show decide (b≤a)=true by simp;omega,if_pos rfl,y2f,yOb,y5P,yOb,yh,if_pos rfl];dsimp only;rw [y2f,yOb,y5P,yOb];exact g1
theorem yct{f:Bool→Bool→Option Bool}(hf:∀a b,f a b=some (kp a b))(hu:us.length≤1000000)(hv:vs.length≤1000000):y3j us vs f=some (mg kp us vs):=by
 obtain⟨o,h1,h2⟩:=yd (f:=ye f) (fun i s=>s.1++mg kp s.2.1 s.2.2=mg kp us vs∧s.1.length≤i∧s.2.1.length+s.2.2.length+i≤us.length+vs.length) (fun o=>o=mg kp us vs) (us.length+vs.length) 0 (by omega) (fun i s hi ⟨g1,g0,g2⟩=>by
   obtain⟨out,u,v⟩:=s;dsimp only at g1 g0 g2;by_cases hne:0<u.length+v.length
   ·obtain ⟨o,u',v',e,g3,g5,g4⟩:=yfy hf (out:=out) (by omega) hne;exact .inl ⟨_,e,by rw [←g1];exact g3,by dsimp only;omega,by dsimp only;omega⟩
   ·have e1:u= []:=List.eq_nil_of_length_eq_zero (by omega);have e2:v= []:=List.eq_nil_of_length_eq_zero (by omega);subst e1;subst e2;rw [mg,List.append_nil] at g1;exact .inr ⟨out,rfl,g1⟩) (fun s ⟨g1,g0,g2⟩=>by
   obtain⟨out,u,v⟩:=s;dsimp only at g1 g2;have e1:u= []:=List.eq_nil_of_length_eq_zero (by omega);have e2:v= []:=List.eq_nil_of_length_eq_zero (by omega);subst e1;subst e2;rw [mg,List.append_nil] at g1;exact⟨out,rfl,g1⟩) (Nat.zero_le _) ([],us,vs) ⟨rfl,by simp,by dsimp only;omega⟩
 rw [y3j,h1,h2];rfl
theorem ydG(hu:us.length≤1000000)(hv:vs.length≤1000000):y4Y us vs=some (mg (fun a b=>a||b) us vs):=by
 rw [y4Y,yct (f:=yB) (kp:=fun a b=>a||b) (fun a b=>rfl) hu hv];rfl
def st1(a:AutT)(s e:Int):Option Int:=(a.2.2.2.find? fun x=>x.1==s&&x.2.1==e).map fun x=>x.2.2
theorem y7d{a:AutT}{n:Nat}(hr:Right a n){s t:Int}:st1 a s e=some t↔(s,e,t)∈a.2.2.2:=by
 unfold st1;rw [Option.map_eq_some_iff];constructor
 ·rintro ⟨x,h1,rfl⟩;have h2:=List.find?_some h1;have h3:=List.mem_of_find?_eq_some h1;simp only [Bool.and_eq_true,beq_iff_eq] at h2;obtain⟨rfl,rfl⟩:=h2;exact h3
 ·intro h;cases hf:a.2.2.2.find? fun x=>x.1==s&&x.2.1==e with
  | none=>exact absurd (List.find?_eq_none.1 hf _ h) (by simp)
  | some x=>
   refine⟨x,rfl,?_⟩;have h2:=List.find?_some hf;have h3:=List.mem_of_find?_eq_some hf;simp only [Bool.and_eq_true,beq_iff_eq] at h2;obtain⟨i,hi,e1⟩:=List.getElem_of_mem h;obtain⟨j,hj,e2⟩:=List.getElem_of_mem h3;rcases Nat.lt_trichotomy i j with hij|hij|hij
   ·have:=List.pairwise_iff_getElem.1 hr.so i j hi hj hij;rw [e1,e2] at this;dsimp only at this;omega
   ·subst hij;rw [e1] at e2;rw [←e2]
   ·have:=List.pairwise_iff_getElem.1 hr.so j i hj hi hij;rw [e1,e2] at this;dsimp only at this;omega
theorem ydh{a:AutT}{n:Nat}(hr:Right a n){s t:Int}(h:st1 a s e=some t):0≤s∧s<(n:Int)∧0≤t∧t<(n:Int)∧e∈a.1:=hr.es _ ((y7d hr).1 h)
theorem yfg{es:List (Int×Int×Int)}(so:es.Pairwise fun x y=>x.1<y.1∨(x.1=y.1∧x.2.1<y.2.1)){i:Nat}(hi:i<es.length)(q:Int×Int):
  ((es.take (i+1)).find? fun x=>x.1==q.1&&x.2.1==q.2).map (fun x=>x.2.2)=if q=(es[i].1,es[i].2.1) then some es[i].2.2 else((es.take i).find? fun x=>x.1==q.1&&x.2.1==q.2).map fun x=>x.2.2:=by
 rw [List.take_succ_eq_append_getElem hi,List.find?_append];by_cases h:q=(es[i].1,es[i].2.1)
 ·rw [if_pos h];have hn:(es.take i).find? (fun x=>x.1==q.1&&x.2.1==q.2)=none:=by
   rw [List.find?_eq_none];intro x hx hx2;simp only [Bool.and_eq_true,beq_iff_eq] at hx2;obtain⟨k,hk,rfl⟩:=List.getElem_of_mem hx;rw [List.length_take] at hk;rw [List.getElem_take,h] at hx2;have:=List.pairwise_iff_getElem.1 so k i (by omega) hi (by omega);omega
  rw [hn,Option.none_or,List.find?_cons_of_pos (by rw [h];simp)];rfl
 ·rw [if_neg h,List.find?_cons_of_neg (by
   intro hx;simp only [Bool.and_eq_true,beq_iff_eq] at hx;exact h (by rw [hx.1,hx.2])),List.find?_nil,Option.or_none]
theorem ydH{a:AutT}{n:Nat}(hr:Right a n):∃o,iter (y2e a) (0,([]:List ((Int×Int)×Int)))=some o∧∀q:Int×Int,kget o q=st1 a q.1 q.2:=by
 have hl:=hr.l3;refine yd (f:=y2e a) (fun i s=>s.1=(i:Int)∧∀q:Int×Int,kget s.2 q=((a.2.2.2.take i).find? fun x=>x.1==q.1&&x.2.1==q.2).map fun x=>x.2.2) (fun o=>∀q:Int×Int,kget o q=st1 a q.1 q.2) a.2.2.2.length 0 (by omega) (fun i s hi ⟨e1,g1⟩=>?_) (fun s ⟨e1,g1⟩=>?_) (Nat.zero_le _) _ ⟨rfl,fun q=>rfl⟩
 ·obtain ⟨k,out⟩:=s;dsimp only at e1 g1;subst e1;refine .inl ⟨(((i+1:Nat):Int),kput out (a.2.2.2[i].1,a.2.2.2[i].2.1) a.2.2.2[i].2.2),?_,rfl,fun q=>?_⟩
  ·rw [y2e];dsimp only;rw [if_pos (ct_lt hi),ya hi,yOb,nxt (by omega)]
  ·dsimp only;rw [y6f,yfg hr.so hi,g1]
 ·obtain ⟨k,out⟩:=s;dsimp only at e1 g1;subst e1;rw [List.take_length] at g1;refine⟨out,?_,g1⟩;rw [y2e];dsimp only;rw [if_neg ct_ge]
theorem yfz(hP:Alp P.1)(hS:Alp S.1):y4Z [P,S]=some (mg (fun a b=>a||b) P.1 S.1):=by
 have l1:=hP.len;have l2:=hS.len;have h0:mg (fun a b=>a||b) [] P.1=P.1:=by
  have h:=y6x (fun a b=>a||b) [] P.1 List.Pairwise.nil hP.1;refine y9B (lt:=fun a b:Int=>a<b) (fun a b h1 h2=>by omega) h.1 hP.1 fun x=>?_;rw [h.2];constructor
  ·rintro ⟨h1|h1,_⟩
   ·cases h1
   ·exact h1
  ·intro h1;refine⟨.inr h1,?_⟩;rw [yc.2 h1];simp
 have h:iter (y1P [P,S]) (0,[])=some (mg (fun a b=>a||b) P.1 S.1):=by
  refine y4m (n:=3) (by omega) ?_;rw [yb,y1P];dsimp only;rw [if_pos (by simp),show idx [P,S] 0=some P from rfl,yOb,ydG (by simp) (by omega),yOb,h0];dsimp only;rw [yb,y1P];dsimp only;rw [show W (0+1)=1 from rfl,if_pos (by simp),show idx [P,S] 1=some S from rfl,yOb,ydG (by omega) (by omega),yOb];dsimp only;rw [yb,y1P];dsimp only;rw [show W (1+1)=2 from rfl,if_neg (by simp)]
 rw [y4Z,h];rfl
theorem yeq(hP:Right P n1)(hS:Right S n2):∃o1 o2,y5h [P,S]=some ([P,S],mg (fun a b=>a||b) P.1 S.1,[o1,o2])∧(∀q:Int×Int,kget o1 q=st1 P q.1 q.2)∧∀q:Int×Int,kget o2 q=st1 S q.1 q.2:=by
 obtain⟨o1,h1,g1⟩:=ydH hP;obtain⟨o2,h2,g2⟩:=ydH hS;refine⟨o1,o2,?_,g1,g2⟩;have h:iter (y2E [P,S]) (0,[])=some [o1,o2]:=by
  refine y4m (n:=3) (by omega) ?_;rw [yb,y2E];dsimp only;rw [if_pos (by simp),show idx [P,S] 0=some P from rfl,yOb,h1,yOb,yj (by simp),yOb];dsimp only;rw [yb,y2E];dsimp only;rw [show W (0+1)=1 from rfl,if_pos (by simp),show idx [P,S] 1=some S from rfl,yOb,h2,yOb,yj (by simp),yOb];dsimp only;rw [yb,y2E];dsimp only;rw [show W (1+1)=2 from rfl,if_neg (by simp)];rfl
 rw [y5h,yfz ⟨hP.ali,hP.alr⟩ ⟨hS.ali,hS.alr⟩,yOb,h];rfl
def pst(P S:AutT)(x y e:Int):Option (Int×Int):=(if hasB P.1 e=true then st1 P x e else some x).bind fun x'=>(if hasB S.1 e=true then st1 S y e else some y).map fun y'=>(x',y')
theorem yip(hP:Right P n1)(hS:Right S n2){ev:List Int}{o1 o2:List ((Int×Int)×Int)}(g1:∀q:Int×Int,kget o1 q=st1 P q.1 q.2)(g2:∀q:Int×Int,kget o2 q=st1 S q.1 q.2)(x y e:Int):
  y1d ([P,S],ev,[o1,o2]) [x,y] e=some (match pst P S x y e with
   | some u=>([u.1,u.2],true)
   | none=>([],false)):=by
 have l1:=hP.l1;have l2:=hS.l1;have f0:ym ([P,S],ev,[o1,o2]) [x,y] e (0,[x,y])=some (match (if hasB P.1 e=true then st1 P x e else some x) with
   | some x'=> .inl (1,[x',y])
   | none=> .inr (.inr ())):=by
  rw [ym];dsimp only;rw [if_pos (by simp),show idx [P,S] 0=some P from rfl,yOb,y7G (by omega) hP.ali,yOb];cases hb:hasB P.1 e with
  | false=>
   rw [if_pos (by simp),yv,if_neg (by simp)];rfl
  | true=>
   rw [if_neg (by simp),show idx [o1,o2] 0=some o1 from rfl,yOb,show idx [x,y] 0=some x from rfl,yOb,g1,if_pos rfl];dsimp only;cases st1 P x e with
   | none=>rw [if_pos (by simp)]
   | some v=>
    rw [if_neg (by simp),yOb,show upd [x,y] 0 ((some v).getD 0)=some [v,y] from rfl,yOb,yv];rfl
 have f1:∀x',ym ([P,S],ev,[o1,o2]) [x,y] e (1,[x',y])=some (match (if hasB S.1 e=true then st1 S y e else some y) with
   | some y'=> .inl (2,[x',y'])
   | none=> .inr (.inr ())):=fun x'=>by
  rw [ym];dsimp only;rw [if_pos (by simp),show idx [P,S] 1=some S from rfl,yOb,y7G (by omega) hS.ali,yOb];cases hb:hasB S.1 e with
  | false=>
   rw [if_pos (by simp),yv,if_neg (by simp)];rfl
  | true=>
   rw [if_neg (by simp),show idx [o1,o2] 1=some o2 from rfl,yOb,show idx [x,y] 1=some y from rfl,yOb,g2,if_pos rfl];dsimp only;cases st1 S y e with
   | none=>rw [if_pos (by simp)]
   | some v=>
    rw [if_neg (by simp),show idx [x',y] 1=some y from rfl,yOb,show upd [x',y] 1 ((some v).getD 0)=some [x',v] from rfl,yOb,yv];rfl
 have f2:∀u,ym ([P,S],ev,[o1,o2]) [x,y] e (2,u)=some (.inr (.inl u)):=fun u=>by
  rw [ym];dsimp only;rw [if_neg (by simp)]
 have h:iter (ym ([P,S],ev,[o1,o2]) [x,y] e) (0,[x,y])=some (match pst P S x y e with
   | some u=> .inl [u.1,u.2]
   | none=> .inr ()):=by
  refine y4m (n:=3) (by omega) ?_;rw [yb,f0];unfold pst;cases (if hasB P.1 e=true then st1 P x e else some x) with
  | none=>rfl
  | some x'=>
   dsimp only;rw [yb,f1,yOb];cases (if hasB S.1 e=true then st1 S y e else some y) with
   | none=>rfl
   | some y'=>
    dsimp only;rw [yb,f2];rfl
 rw [y1d,y9W (by simp),yOb,h,yOb];cases pst P S x y e <;> rfl
structure Loop (P S p:AutT) (T:List (List Int)) (n:Nat):Prop where
 right:Right p n
 pos:1≤n
 le:n≤4000
 tl:T.length=n
 nd:T.Nodup
 tt:∀t∈T,∃x y,t= [x,y]∧0≤x∧x<P.2.1∧0≤y∧y<S.2.1
 t0:T[0]? =some [0,0]
 ev:∀e,e∈p.1↔e∈P.1∨e∈S.1
 no:∀(a:Nat) (x y e:Int),T[a]? =some [x,y]→e∈p.1→pst P S x y e=none→st1 p (a:Int) e=none
 yes:∀(a:Nat) (x y e x' y':Int),T[a]? =some [x,y]→e∈p.1→pst P S x y e=some (x',y')→∃q:Nat,st1 p (a:Int) e=some (q:Int)∧T[q]? =some [x',y']
 num:Num (edsOf p) n
theorem yiq(hP:Right P n1)(hS:Right S n2){ev:List Int}{o1 o2:List ((Int×Int)×Int)}(g1:∀q:Int×Int,kget o1 q=st1 P q.1 q.2)(g2:∀q:Int×Int,kget o2 q=st1 S q.1 q.2)(x y e:Int):
  mst ([P,S],ev,[o1,o2]) [x,y] e=(pst P S x y e).map fun u=> [u.1,u.2]:=by
 unfold mst;rw [yip hP hS g1 g2];cases pst P S x y e <;> rfl
theorem yir{B:Nat}(hP:Right P n1)(hS:Right S n2)(p1:1≤n1)(p2:1≤n2)(b1:n1≤B)(b2:n2≤B)(hB:B≤99)(hBB:B*B≤4000):∃p T n,yw [P,S]=some (p,T,0)∧Loop P S p T n:=by
 have hL:LOkB B [P,S]:=⟨by simp,fun a ha=>by
  rcases List.mem_cons.1 ha with rfl|ha
  ·exact ⟨n1,p1,b1,hP⟩
  ·rw [List.mem_singleton.1 ha];exact⟨n2,p2,b2,hS⟩,hB,by
  show B ^ 2≤4000;rw [Nat.pow_two];exact hBB⟩
 obtain⟨m,p,T,n,h1,h2,h3,h⟩:=yhj hL;obtain⟨o1,o2,e1,g1,g2⟩:=yeq hP hS;rw [h1] at e1;obtain rfl:=Option.some.inj e1;have htt:∀t∈T,∃x y,t= [x,y]∧0≤x∧x<P.2.1∧0≤y∧y<S.2.1:=fun t ht=>by
  obtain⟨hl,hr⟩:=h.inT t ht
  match t,hl,hr with
  | [x,y],_,hr=>
   have q1:=hr 0 (by simp) (by simp);have q2:=hr 1 (by simp) (by simp);exact⟨x,y,rfl,q1.1,q1.2,q2.1,q2.2⟩
 have hms:=yiq hP hS (ev:=mg (fun a b=>a||b) P.1 S.1) g1 g2;have hev:p.1=mg (fun a b=>a||b) P.1 S.1:=h.ev;refine⟨p,T,n,h3,h.right,h.pos,h.le,h.tl,h.nd,htt,?_,fun e=>?_,fun a x y e ha he hp=>?_,fun a x y e x' y' ha he hp=>?_,h.num⟩
 ·obtain ⟨t,q1,q2⟩:=h.t0;rw [q1];have hin:yu ([P,S],mg (fun a b=>a||b) P.1 S.1,[o1,o2])=some ([0,0],true):=by
   have hi:iter (yi ([P,S],mg (fun a b=>a||b) P.1 S.1,[o1,o2])) 0=some (.inl ()):=by
    refine y4m (n:=3) (by omega) ?_;rw [yb,yi];dsimp only;rw [if_pos (by simp),show idx [P,S] 0=some P from rfl,yOb,hP.nn,if_neg (by simp;omega)];dsimp only;rw [yb,yi];dsimp only;rw [show W (0+1)=1 from rfl,if_pos (by simp),show idx [P,S] 1=some S from rfl,yOb,hS.nn,if_neg (by simp;omega)];dsimp only;rw [yb,yi];dsimp only;rw [show W (1+1)=2 from rfl,if_neg (by simp)]
   rw [yu,hi,yOb];dsimp only;rw [y8X (by simp) (by simp),yOb];rfl
  rw [hin] at q2;cases q2;rfl
 ·have hsp:=y6x (fun a b=>a||b) P.1 S.1 hP.ali hS.ali;rw [hev,hsp.2];constructor
  ·exact fun q=>q.1
  ·intro q;refine⟨q,?_⟩;rcases q with q|q
   ·rw [yc.2 q];rfl
   ·rw [yc.2 q];simp
 ·cases hs:st1 p (a:Int) e with
  | none=>rfl
  | some t=>
   obtain⟨a',q,u,r,k1,k2,k3,k4,k5⟩:=h.sn _ ((y7d h.right).1 hs);dsimp only at k1 k2 k5;have:a'=a:=by omega
   subst this;rw [ha] at k3;cases k3;rw [hms,hp] at k5;cases k5
 ·have hm:mst ([P,S],mg (fun a b=>a||b) P.1 S.1,[o1,o2]) [x,y] e=some [x',y']:=by rw [hms,hp];rfl
  obtain⟨q,k1,k2⟩:=h.ed a [x,y] e [x',y'] ha he hm;exact⟨q,(y7d h.right).2 k1,k2⟩
theorem yai{n:Int}(h:yA n none xs=0):Inc xs∧∀x∈xs,0≤x∧x<n:=by
 have key:∀(xs:List Int) (p:Option Int),yA n p xs=0→Inc xs∧(∀x∈xs,0≤x∧x<n)∧∀q,p=some q→∀x∈xs,q<x:=by
  intro xs
  induction xs with
  | nil=>intro p _;exact⟨List.Pairwise.nil,fun x hx=>(by cases hx),fun q _ x hx=>(by cases hx)⟩
  | cons y xs ih=>
   intro p h;rw [yA] at h;split at h
   ·cases h
   ·rename_i h1;split at h
    ·cases h
    ·rename_i h2;obtain⟨g1,g2,g3⟩:=ih _ h;refine⟨List.pairwise_cons.2 ⟨fun z hz=>g3 y rfl z hz,g1⟩,fun x hx=>?_,fun q hq x hx=>?_⟩
     ·rcases List.mem_cons.1 hx with rfl|hx
      ·omega
      ·exact g2 x hx
     ·have hqy:q<y:=by
       have:¬y≤q:=fun hc=>h2 ⟨q,hq,hc⟩;omega
      rcases List.mem_cons.1 hx with rfl|hx
      ·exact hqy
      ·have:=g3 y rfl x hx;omega
 exact⟨(key xs none h).1,(key xs none h).2.1⟩
theorem yfA{a:Aut}(h:a.err=0):yA 32 none a.al=0∧0≤a.n∧a.n≤4096∧yA a.n none a.ms=0∧edErr a.al a.n none a.es=0:=by
 unfold Aut.err at h;split at h
 ·rename_i h1;rw [h] at h1;exact absurd h1 (by decide)
 ·rename_i h1;split at h
  ·cases h
  ·split at h
   ·cases h
   ·split at h
    ·rename_i h4;rw [h] at h4;exact absurd h4 (by decide)
    ·rename_i h2 h3 h4;exact⟨by simpa using h1,by omega,by omega,by simpa using h4,h⟩
theorem yfh{al:List Int}{n:Int}:∀(es:List Ed) (p:Option Ed),edErr al n p es=0→ycK es∧(∀q,p=some q→∀x∈es,edLt q x)∧∀x∈es,x.e∈al
 | [],_,_=>⟨List.Pairwise.nil,fun _ _ x hx=>(by cases hx),fun x hx=>(by cases hx)⟩
 | y::es,p,h=>by
  rw [edErr] at h;split at h
  ·cases h
  ·split at h
   ·cases h
   ·rename_i h2;split at h
    ·cases h
    ·rename_i h3;obtain⟨g1,g2,g4⟩:=yfh es _ h;have g3:=g2 y rfl;refine⟨List.pairwise_cons.2 ⟨g3,g1⟩,fun q hq x hx=>?_,fun x hx=>?_⟩
     ·have hqy:edLt q y:=by
       have h4:¬(y.f<q.f∨(y.f=q.f∧y.e≤q.e)):=fun hc=>h3 ⟨q,hq,hc⟩;unfold edLt;omega
      rcases List.mem_cons.1 hx with rfl|hx
      ·exact hqy
      ·have h5:=g3 x hx;unfold edLt at hqy h5 ⊢;omega
     ·rcases List.mem_cons.1 hx with rfl|hx
      ·exact yc.1 (by simpa using h2)
      ·exact g4 x hx
theorem ydI{a:AutT}(h:(toAut a).err=0)(h1:a.1.length≤1000000)(h2:a.2.2.1.length≤1000000)(h3:a.2.2.2.length≤1000000):Right a a.2.1.toNat:=by
 obtain⟨g1,g2,g3,g4,g5⟩:=yfA h;have hok:=Aut.ok_of h;obtain⟨e1,_,e3⟩:=yfh _ _ g5;obtain⟨al1,al2⟩:=yai g1;obtain⟨ms1,ms2⟩:=yai g4;have hn:(toAut a).n=a.2.1:=rfl;rw [hn] at g2 g3;have hnn:((a.2.1.toNat:Nat):Int)=a.2.1:=Int.toNat_of_nonneg g2;refine⟨hnn.symm,by omega,al1,al2,ms1,fun x hx=>by rw [hnn];exact ms2 x hx,fun x hx=>?_,?_,h1,h2,h3⟩
 ·have:=hok.es (toEd x) (List.mem_map_of_mem hx);have h4:=e3 (toEd x) (List.mem_map_of_mem hx);rw [hnn];exact⟨this.1,this.2.1,this.2.2.1,this.2.2.2,h4⟩
 ·have e1:(a.2.2.2.map toEd).Pairwise edLt:=e1;rw [List.pairwise_map] at e1;exact e1
theorem yeJ{a:AutT}(h1:a.1.length≤1000000)(h2:a.2.2.1.length≤1000000)(h3:a.2.2.2.length≤1000000):y2d a=some (toAut a).err:=by
 have:=yb3 (a:=toAut a) (by simp [toAut];omega) (by simp [toAut];omega) (by simp [toAut];omega);rwa [y9A] at this
abbrev GrT :=AutT×List ((Int×Int)×Int)
abbrev TaskT :=GrT×GrT×GrT×List (List Int)×List Int×List Int
abbrev ProbT :=AutT×AutT×List Int
theorem ycu{a:AutT}{n:Nat}(hr:Right a n):∃o,y6y a=some (a,o)∧∀q:Int×Int,kget o q=st1 a q.1 q.2:=by
 have hl:=hr.l3;obtain⟨o,h1,h2⟩:=yd (f:=y6N a) (fun i s=>s.1=(i:Int)∧∀q:Int×Int,kget s.2 q=((a.2.2.2.take i).find? fun x=>x.1==q.1&&x.2.1==q.2).map fun x=>x.2.2) (fun o=>∀q:Int×Int,kget o q=st1 a q.1 q.2) a.2.2.2.length 0 (by omega) (fun i s hi ⟨e1,g1⟩=>by
   obtain⟨k,out⟩:=s;dsimp only at e1 g1;subst e1;refine .inl ⟨(((i+1:Nat):Int),kput out (a.2.2.2[i].1,a.2.2.2[i].2.1) a.2.2.2[i].2.2),?_,rfl,fun q=>?_⟩
   ·rw [y6N];dsimp only;rw [if_pos (ct_lt hi),ya hi,yOb,nxt (by omega)]
   ·dsimp only;rw [y6f,yfg hr.so hi,g1]) (fun s ⟨e1,g1⟩=>by
   obtain⟨k,out⟩:=s;dsimp only at e1 g1;subst e1;rw [List.take_length] at g1;refine⟨out,?_,g1⟩;rw [y6N];dsimp only;rw [if_neg ct_ge]) (Nat.zero_le _) (0,[]) ⟨rfl,fun q=>rfl⟩
 exact⟨o,by rw [y6y,h1];rfl,h2⟩
def GrOk(g:GrT)(a:AutT):Prop:=g.1=a∧∀q:Int×Int,kget g.2 q=st1 a q.1 q.2
structure LoopZ (P S p:AutT) (T:List (List Int)) (n:Nat):Prop where
 right:Right p n
 le:n≤4000
 tl:T.length=n
 nd:T.Nodup
 tt:∀t∈T,∃x y,t= [x,y]∧0≤x∧x<P.2.1∧0≤y∧y<S.2.1
 t0:0<n→T[0]? =some [0,0]
 zero:n=0↔P.2.1=0∨S.2.1=0
 ev:∀e,e∈p.1↔e∈P.1∨e∈S.1
 no:∀(a:Nat) (x y e:Int),T[a]? =some [x,y]→e∈p.1→pst P S x y e=none→st1 p (a:Int) e=none
 yes:∀(a:Nat) (x y e x' y':Int),T[a]? =some [x,y]→e∈p.1→pst P S x y e=some (x',y')→∃q:Nat,st1 p (a:Int) e=some (q:Int)∧T[q]? =some [x',y']
 num:Num (edsOf p) n
theorem ygm(hP:Right P n1)(hS:Right S n2):y5t [P,S]=some 0:=by
 have h1:iter (y2o [P,S]) 0=some (.inl ()):=by
  refine y4m (n:=3) (by omega) ?_;rw [yb,y2o,if_pos (by simp),show idx [P,S] 0=some P from rfl,yOb,hP.check,yOb,if_neg (by simp)];dsimp only;rw [yb,y2o,show W (0+1)=1 from rfl,if_pos (by simp),show idx [P,S] 1=some S from rfl,yOb,hS.check,yOb,if_neg (by simp)];dsimp only;rw [yb,y2o,show W (1+1)=2 from rfl,if_neg (by simp)]
 rw [y5t,if_neg (by simp),h1];rfl
theorem yhk(hP:Right P n1)(hS:Right S n2)(b1:n1≤40)(b2:n2≤40):∃p T n,yw [P,S]=some (p,T,0)∧LoopZ P S p T n:=by
 by_cases h0:n1=0∨n2=0
 ·obtain ⟨o1,o2,h1,g1,g2⟩:=yeq hP hS;have hi:∀ev,yu ([P,S],ev,[o1,o2])=some ([],false):=fun ev=>by
   have h2:iter (yi ([P,S],ev,[o1,o2])) 0=some (.inr ()):=by
    refine y4m (n:=2) (by omega) ?_;rw [yb,yi];dsimp only;rw [if_pos (by simp),show idx [P,S] 0=some P from rfl,yOb,hP.nn];by_cases h1:n1=0
    ·rw [if_pos (by simp [h1])]
    ·rw [if_neg (by simp;omega)];dsimp only;rw [yb,yi];dsimp only;rw [show W (0+1)=1 from rfl,if_pos (by simp),show idx [P,S] 1=some S from rfl,yOb,hS.nn,if_pos (by simp;omega)]
   rw [yu,h2];rfl
  have hsp:=y6x (fun a b=>a||b) P.1 S.1 hP.ali hS.ali;have hev:∀e,e∈mg (fun a b=>a||b) P.1 S.1↔e∈P.1∨e∈S.1:=fun e=>by
   rw [hsp.2];constructor
   ·exact fun q=>q.1
   ·intro q;refine⟨q,?_⟩;rcases q with q|q
    ·rw [yc.2 q];rfl
    ·rw [yc.2 q];simp
  have halr:∀e∈mg (fun a b=>a||b) P.1 S.1,0≤e∧e<32:=fun e he=>by
   rcases(hev e).1 he with h|h
   ·exact hP.alr e h
   ·exact hS.alr e h
  have hlen:=Alp.len ⟨hsp.1,halr⟩;refine⟨(mg (fun a b=>a||b) P.1 S.1,0,[],[]),[],0,?_,⟨⟨rfl,by omega,hsp.1,halr,List.Pairwise.nil,fun x hx=>(by cases hx),fun x hx=>(by cases hx),List.Pairwise.nil,by dsimp only;omega,by simp,by simp⟩,by omega,rfl,List.nodup_nil,fun t ht=>(by cases ht),fun h=>absurd h (by omega),?_,hev,fun a x y e ha=>(by simp at ha),fun a x y e x' y' ha=>(by simp at ha),?_⟩⟩
  ·rw [yw,ygm hP hS,yOb,if_neg (by simp),h1,yOb,hi,yOb,if_pos (by simp)]
  ·have e1:=hP.nn;have e2:=hS.nn;exact⟨fun _=>by omega,fun _=>rfl⟩
  ·exact ⟨List.Pairwise.nil,fun x hx=>(by cases hx),fun k h1 h2=>by omega,fun n hn=>(by simp [edsOf] at hn),fun n hn=>(by simp [edsOf] at hn)⟩
 ·obtain ⟨p,T,n,h1,h⟩:=yir (B:=40) hP hS (by omega) (by omega) b1 b2 (by omega) (by omega);have e1:=hP.nn;have e2:=hS.nn;have:=h.pos;exact⟨p,T,n,h1,h.right,h.le,h.tl,h.nd,h.tt,fun _=>h.t0,⟨fun _=>by omega,fun _=>by omega⟩,h.ev,h.no,h.yes,h.num⟩
theorem yb4{n:Int}(hl:xs.length<4611686018427387904):y1O xs n=some (yA n none xs):=y8V hl
def errP(q:ProbT):Int:=
 if(toAut q.1).err≠0 then(toAut q.1).err
 else if(toAut q.2.1).err≠0 then(toAut q.2.1).err
 else if(mg (fun a b=>a && !b) q.2.1.1 q.1.1).length≠0 then 9
 else yA 32 none q.2.2
structure ShortP (q:ProbT):Prop where
 p1:q.1.1.length≤1000000
 p2:q.1.2.2.1.length≤1000000
 p3:q.1.2.2.2.length≤1000000
 s1:q.2.1.1.length≤1000000
 s2:q.2.1.2.2.1.length≤1000000
 s3:q.2.1.2.2.2.length≤1000000
 u1:q.2.2.length≤1000000
theorem ydJ(hu:us.length≤1000000)(hv:vs.length≤1000000):y3S us vs=some (mg (fun a b=>a && !b) us vs):=by
 rw [y3S,yct (f:=yx) (kp:=fun a b=>a && !b) (fun a b=>rfl) hu hv];rfl
theorem ydK(hu:us.length≤1000000)(hv:vs.length≤1000000):y4c us vs=some (mg (fun a b=>a&&b) us vs):=by
 rw [y4c,yct (f:=y5W) (kp:=fun a b=>a&&b) (fun a b=>rfl) hu hv];rfl
theorem yfB(hu:us.length≤1000000)(hv:vs.length≤1000000):y1c us vs=some (decide ((mg (fun a b=>a && !b) us vs).length=0)):=by
 rw [y1c,ydJ hu hv,yOb];congr 1;rw [Bool.eq_iff_iff];simp
structure TaskOk (q:ProbT) (t:TaskT) (p:AutT) (T:List (List Int)) (n1 n2 n:Nat):Prop where
 rP:Right q.1 n1
 rS:Right q.2.1 n2
 iu:Inc q.2.2
 ur:∀x∈q.2.2,0≤x∧x<32
 sub:∀x∈q.2.1.1,x∈q.1.1
 g1:GrOk t.1 q.1
 g2:GrOk t.2.1 q.2.1
 g3:GrOk t.2.2.1 p
 tt:t.2.2.2.1=T
 un:t.2.2.2.2.1=mg (fun a b=>a&&b) q.1.1 q.2.2
 co:t.2.2.2.2.2=mg (fun a b=>a && !b) q.1.1 (mg (fun a b=>a&&b) q.1.1 q.2.2)
 loop:LoopZ q.1 q.2.1 p T n
theorem ygn{q:ProbT}(h:ShortP q)(he:errP q=0)(b1:q.1.2.1≤40)(b2:q.2.1.2.1≤40):∃t p T n1 n2 n,y7p q=some (some t,0)∧TaskOk q t p T n1 n2 n∧yw [q.1,q.2.1]=some (p,T,0):=by
 unfold errP at he;by_cases h1:(toAut q.1).err=0
 ·rw [if_neg (by simpa using h1)] at he;by_cases h2:(toAut q.2.1).err=0
  ·rw [if_neg (by simpa using h2)] at he;by_cases h3:(mg (fun a b=>a && !b) q.2.1.1 q.1.1).length=0
   ·rw [if_neg (by simpa using h3)] at he;have rP:=ydI h1 h.p1 h.p2 h.p3;have rS:=ydI h2 h.s1 h.s2 h.s3;obtain⟨iu,ur⟩:=yai he;obtain⟨p,T,n,e1,hL⟩:=yhk rP rS (by omega) (by omega);obtain⟨o1,i1,k1⟩:=ycu rP;obtain⟨o2,i2,k2⟩:=ycu rS;obtain⟨o3,i3,k3⟩:=ycu hL.right;have hit3:iter (y6w q) 0=some (.inl ()):=by
     refine y4m (n:=3) (by omega) ?_;rw [yb,y6w,if_pos (by simp),show idx [q.1,q.2.1] 0=some q.1 from rfl,yOb,rP.check,yOb,if_neg (by simp)];dsimp only;rw [yb,y6w,show W (0+1)=1 from rfl,if_pos (by simp),show idx [q.1,q.2.1] 1=some q.2.1 from rfl,yOb,rS.check,yOb,if_neg (by simp)];dsimp only;rw [yb,y6w,show W (1+1)=2 from rfl,if_neg (by simp)]
    have hin:∀x,x∈mg (fun a b=>a&&b) q.1.1 q.2.2→x∈q.1.1:=fun x hx=>by
     have:=((y6x (fun a b=>a&&b) q.1.1 q.2.2 rP.ali iu).2 x).1 hx;simp only [Bool.and_eq_true] at this;exact yc.1 this.2.1
    have hil:(mg (fun a b=>a&&b) q.1.1 q.2.2).length≤32:=Alp.len ⟨(y6x (fun a b=>a&&b) q.1.1 q.2.2 rP.ali iu).1,fun x hx=>rP.alr x (hin x hx)⟩;refine⟨((q.1,o1),(q.2.1,o2),(p,o3),T,mg (fun a b=>a&&b) q.1.1 q.2.2,mg (fun a b=>a && !b) q.1.1 (mg (fun a b=>a&&b) q.1.1 q.2.2)),p,T,_,_,n,?_,⟨rP,rS,iu,ur,fun x hx=>?_,⟨rfl,k1⟩,⟨rfl,k2⟩,⟨rfl,k3⟩,rfl,rfl,rfl,hL⟩,e1⟩
    ·rw [y7p,hit3,yOb];dsimp only;rw [yfB h.s1 h.p1,yOb,if_neg (by simpa using h3),yb4 (by have:=h.u1;omega),yOb,he,if_neg (by simp),e1,yOb];dsimp only;rw [if_neg (by simp),ydK h.p1 h.u1,yOb,i1,yOb,i2,yOb,i3,yOb,ydJ h.p1 (by omega),yOb]
    ·by_cases hh:x∈q.1.1
     ·exact hh
     ·have hm:x∈mg (fun a b=>a && !b) q.2.1.1 q.1.1:=by
       rw [(y6x (fun a b=>a && !b) q.2.1.1 q.1.1 rS.ali rP.ali).2];refine⟨.inl hx,?_⟩;rw [yc.2 hx];cases hb:hasB q.1.1 x
       ·rfl
       ·exact absurd (yc.1 hb) hh
      rw [List.eq_nil_of_length_eq_zero h3] at hm;cases hm
   ·rw [if_pos (by simpa using h3)] at he;cases he
  ·rw [if_pos (by simpa using h2)] at he;exact absurd he h2
 ·rw [if_pos (by simpa using h1)] at he;exact absurd he h1
def hdl(S:AutT):Int→List Int→Int×Nat
 | s,[]=>(s,0)
 | s,e::l=>if hasB S.1 e=true then(match st1 S s e with
   | none=>(s,0)
   | some u=>((hdl S u l).1,(hdl S u l).2+1)) else((hdl S s l).1,(hdl S s l).2+1)
theorem yhl{xs:List α}{i:Nat}(h:i≤xs.length):slc xs 0 (i:Int)=some (xs.take i):=by
 rw [slc,if_pos ⟨by omega,by omega,by omega⟩];simp
structure SR (st:Int→Int→Option Int) (al:List Int) (n i j:Nat) (T:List Int) (kn:List (Int×Int)) (E:List (Int×Int×Int)):Prop where
 f:Fnd st al i j T E
 k1:∀s v,kget kn s=some v→∃q:Nat,v=(q:Int)∧T[q]? =some s
 k2:∀s∈T,(kget kn s).isSome=true
 nd:T.Nodup
 tr:∀s∈T,0≤s∧s<(n:Int)
 so:E.Pairwise fun x y=>x.1<y.1∨(x.1=y.1∧x.2.1<y.2.1)
 ei:∀x∈E,x.1<(i:Int)∨(x.1=(i:Int)∧∃b,∃hb:b<al.length,b<j∧al[b]=x.2.1)
 ea:∀x∈E,x.2.1∈al
 el:E.length≤32*i+j
namespace SR
variable{st:Int→Int→Option Int}{al:List Int}{n i j:Nat}{T:List Int}{kn:List (Int×Int)}{E:List (Int×Int×Int)}
theorem len(h:SR st al n i j T kn E):T.length≤n:=by
 have:=y8g n (T.map Int.toNat) (by
  unfold List.Nodup;rw [List.pairwise_map];refine h.nd.imp_of_mem fun {a b} ha hb hab=>?_;have h1:=h.tr a ha;have h2:=h.tr b hb;omega) (fun x hx=>by
  obtain⟨y,hy,rfl⟩:=List.mem_map.1 hx;have:=h.tr y hy;omega)
 simpa using this
theorem skip(h:SR st al n i j T kn E){s:Int}(ht:T[i]? =some s)(he:al[j]? =some e)(hs:st s e=none):SR st al n i (j+1) T kn E:=
 ⟨h.f.skip ht he hs,h.k1,h.k2,h.nd,h.tr,h.so,fun x hx=>by
  rcases h.ei x hx with h1|⟨h1,b,hb,h2,h3⟩
  ·exact .inl h1
  ·exact .inr ⟨h1,b,hb,by omega,h3⟩,h.ea,by have:=h.el;omega⟩
theorem next(h:SR st al n i j T kn E)(hj:al.length≤j)(hj2:j≤32):SR st al n (i+1) 0 T kn E:=
 ⟨h.f.next hj,h.k1,h.k2,h.nd,h.tr,h.so,fun x hx=>by
  rcases h.ei x hx with h1|⟨h1,_⟩
  ·exact .inl (by omega)
  ·exact .inl (by omega),h.ea,by have:=h.el;omega⟩
theorem pw(h:SR st al n i j T kn E)(ia:Inc al)(hj:j<al.length)(v:Int):(E++[((i:Int),al[j],v)]).Pairwise fun x y=>x.1<y.1∨(x.1=y.1∧x.2.1<y.2.1):=by
 rw [List.pairwise_append];refine⟨h.so,List.pairwise_singleton _ _,fun x hx y hy=>?_⟩;rw [List.mem_singleton.1 hy];rcases h.ei x hx with h1|⟨h1,b,hb,h2,h3⟩
 ·exact .inl h1
 ·refine .inr ⟨h1,?_⟩;rw [←h3];exact List.pairwise_iff_getElem.1 ia b j hb hj h2
theorem ei'(h:SR st al n i j T kn E)(hj:j<al.length)(v:Int):∀x∈E++[((i:Int),al[j],v)],x.1<(i:Int)∨(x.1=(i:Int)∧∃b,∃hb:b<al.length,b<j+1∧al[b]=x.2.1):=fun x hx=>by
 rcases List.mem_append.1 hx with hx|hx
 ·rcases h.ei x hx with h1|⟨h1,b,hb,h2,h3⟩
  ·exact .inl h1
  ·exact .inr ⟨h1,b,hb,by omega,h3⟩
 ·rw [List.mem_singleton.1 hx];exact .inr ⟨rfl,j,hj,by omega,rfl⟩
theorem ea'(h:SR st al n i j T kn E)(hj:j<al.length)(v:Int):∀x∈E++[((i:Int),al[j],v)],x.2.1∈al:=fun x hx=>by
 rcases List.mem_append.1 hx with hx|hx
 ·exact h.ea x hx
 ·rw [List.mem_singleton.1 hx];exact List.getElem_mem hj
theorem edge(h:SR st al n i j T kn E)(ia:Inc al)(hj:j<al.length){s v:Int}{q:Nat}(ht:T[i]? =some s)(hs:st s al[j]=some v)(hq:T[q]? =some v):SR st al n i (j+1) T kn (E++[((i:Int),al[j],(q:Int))]):=
 ⟨h.f.edge ht (yGe hj) hs hq,h.k1,h.k2,h.nd,h.tr,h.pw ia hj _,h.ei' hj _,h.ea' hj _,by have:=h.el;simp;omega⟩
theorem new(h:SR st al n i j T kn E)(ia:Inc al)(hj:j<al.length){s v:Int}(ht:T[i]? =some s)(hs:st s al[j]=some v)(hk:kget kn v=none)(v0:0≤v)(v1:v<(n:Int)):SR st al n i (j+1) (T++[v]) (kput kn v (T.length:Int)) (E++[((i:Int),al[j],(T.length:Int))]):=by
 have hi:=(List.getElem?_eq_some_iff.1 ht).1;refine⟨h.f.new hi ht (yGe hj) hs,fun s' w hw=>?_,fun s' hs'=>?_,?_,fun s' hs'=>?_,h.pw ia hj _,h.ei' hj _,h.ea' hj _,by have:=h.el;simp;omega⟩
 ·rw [y6f] at hw;split at hw
  ·rename_i e;subst e;cases hw;exact⟨T.length,rfl,by rw [List.getElem?_append_right (Nat.le_refl _)];simp⟩
  ·obtain ⟨q,h1,h2⟩:=h.k1 s' w hw;exact⟨q,h1,by rw [List.getElem?_append_left (List.getElem?_eq_some_iff.1 h2).1,h2]⟩
 ·rw [y6f];split
  ·rfl
  ·rename_i e;rcases List.mem_append.1 hs' with hs'|hs'
   ·exact h.k2 s' hs'
   ·exact absurd (List.mem_singleton.1 hs') e
 ·unfold List.Nodup;rw [List.pairwise_append];refine⟨h.nd,List.pairwise_singleton _ _,fun a ha b hb e=>?_⟩;rw [List.mem_singleton.1 hb] at e;subst e;have:=h.k2 a ha;rw [hk] at this;cases this
 ·rcases List.mem_append.1 hs' with hs'|hs'
  ·exact h.tr s' hs'
  ·rw [List.mem_singleton.1 hs'];exact⟨v0,v1⟩
end SR
structure CanOf (st:Int→Int→Option Int) (al ms:List Int) (r:AutT) (X:List Int):Prop where
 right:Right r X.length
 ale:r.1=al
 x0:0<X.length→X[0]? =some 0
 disc:Disc st al X r.2.2.2
 mkd:∀(i:Nat) (s:Int),X[i]? =some s→((i:Int)∈r.2.2.1↔s∈ms)
theorem yer{ys:List Int}(hx:Inc xs)(hy:Inc ys)(h:∀x,x∈xs↔x∈ys):xs=ys:=y9B (lt:=fun a b:Int=>a<b) (fun a b h1 h2=>by omega) hx hy h
theorem SR.skips{st:Int→Int→Option Int}{al:List Int}{n i j:Nat}{T:List Int}{kn:List (Int×Int)}{E:List (Int×Int×Int)}(h:SR st al n i j T kn E){s:Int}(ht:T[i]? =some s):∀(b:Nat),j≤b→b≤al.length→(∀c (hc:c<al.length),j≤c→c<b→st s al[c]=none)→SR st al n i b T kn E
 | 0,hj,_,_=>by
  obtain rfl:j=0:=by omega
  exact h
 | b+1,hj,hb,hn=>by
  by_cases e:j=b+1
  ·subst e;exact h
  ·have hb2:b<al.length:=by omega
   exact(h.skips ht b (by omega) (by omega) fun c hc h1 h2=>hn c hc h1 (by omega)).skip ht (yGe hb2) (hn b hb2 (by omega) (by omega))
end Go.Proofs.YtecmobjeeonmaaaGreatDoor
namespace Go.Proofs.YtecmobjeeonmaaaGreatDoor
def evsOf(a:Aut):List (Nat×List (Nat×Nat)):=(List.range a.al.length).map fun i=>(i,(a.es.filter fun x=>x.e==a.al.getD i 0).map fun x=>(x.f.toNat,x.t.toNat))
def cmsOf(a:Aut)(ctrl:List Int):List (Nat×List Nat):=(List.range ctrl.length).map fun k=>(k,(a.es.filter fun x=>x.e==ctrl.getD k 0).map fun x=>x.f.toNat)
def stepF(es:List Ed)(s:Nat)(e:Int):Option Nat:=(es.find? fun x=>x.f==(s:Int)&&x.e==e).map fun x=>x.t.toNat
def y6k(es:List Ed)(S:Nat×Bool)(e:Int):Nat×Bool:=match stepF es S.1 e with
 | some t=>(t,S.2)
 | none=>(S.1,true)
theorem ycM{es:List Ed}(hes:∀x∈es,0≤x.f)(s:Nat)(e:Int):(((es.filter fun x=>x.e==e).map fun x=>(x.f.toNat,x.t.toNat)).find? fun p=>p.1==s).map (·.2)=stepF es s e:=by
 unfold stepF
 induction es with
 | nil=>rfl
 | cons x es ih=>
  have h0:=hes x (List.mem_cons_self ..);have ih:=ih (fun y hy=>hes y (List.mem_cons_of_mem _ hy));by_cases he:(x.e==e)=true
  ·rw [List.filter_cons_of_pos (p:=fun x:Ed=>x.e==e) he,List.map_cons];by_cases hf:x.f=(s:Int)
   ·rw [List.find?_cons_of_pos (by simp;omega),List.find?_cons_of_pos (by simp [hf];simpa using he)];rfl
   ·rw [List.find?_cons_of_neg (by simp;omega),List.find?_cons_of_neg (by simp [hf])];exact ih
  ·rw [List.filter_cons_of_neg (p:=fun x:Ed=>x.e==e) he,List.find?_cons_of_neg (by simp at he;simp [he])];exact ih
theorem yfC{es:List Ed}(hes:∀x∈es,0≤x.f){inp:List Bool}{i:Nat}{e:Int}(S:Nat×Bool):y7x inp (i,(es.filter fun x=>x.e==e).map fun x=>(x.f.toNat,x.t.toNat)) S=if inp.getD i false=true then y6k es S e else S:=by
 have h:=ycM hes S.1 e;unfold y7x y6k;split
 ·rw [←h];cases ((es.filter fun x=>x.e==e).map fun x=>(x.f.toNat,x.t.toNat)).find? (fun p=>p.1==S.1) <;> rfl
 ·rfl
theorem yet{es:List Ed}(hes:∀x∈es,0≤x.f)(al:List Int)(p:Int→Bool):∀(k:Nat) (S:Nat×Bool),k≤al.length→
  ((List.range k).map fun i=>(i,(es.filter fun x=>x.e==al.getD i 0).map fun x=>(x.f.toNat,x.t.toNat))).foldl (fun S x=>y7x (al.map p) x S) S=((al.take k).filter p).foldl (y6k es) S
 | 0,S,_=>by simp
 | k+1,S,hk=>by
  rw [List.range_succ,List.map_append,List.foldl_append,yet hes al p k S (by omega),List.take_succ_eq_append_getElem (by omega),List.filter_append,List.foldl_append];simp only [List.map_cons,List.map_nil,List.foldl_cons,List.foldl_nil];rw [yfC hes];have hg:al.getD k 0=al[k]:=by rw [List.getD_eq_getElem?_getD,yGe (by omega)];rfl
  have hi:(al.map p).getD k false=p al[k]:=by rw [List.getD_eq_getElem?_getD,List.getElem?_map,yGe (by omega)];rfl
  rw [hg,hi];cases hp:p al[k] with
  | true=>rw [if_pos rfl,List.filter_cons_of_pos hp];rfl
  | false=>rw [if_neg (by simp),List.filter_cons_of_neg (by rw [hp];simp)];rfl
theorem yeK{al ev:List Int}(ha:Inc al)(he:Inc ev)(hsub:∀x∈ev,x∈al):al.filter (hasB ev)=ev:=by
 refine yer (List.Pairwise.filter _ ha) he (fun x=>?_);rw [List.mem_filter,yc];exact⟨fun h=>h.2,fun h=>⟨hsub x h,h⟩⟩
def genP(a:Aut)(ctrl:List Int):List Ins:=
 genI (a.al.length+(ctrl.length+1)+a.n.toNat) (a.al.length+ctrl.length)
  ((evsOf a).map fun x=>(x.1,x.2.map fun e=>(a.al.length+(ctrl.length+1)+e.1,a.al.length+(ctrl.length+1)+e.2)))
  ((cmsOf a ctrl).map fun x=>(a.al.length+x.1,x.2.map fun y=>a.al.length+(ctrl.length+1)+y))
theorem yhm{a:Aut}{ctrl ev:List Int}{n:Nat}(hn:a.n=n)(hes:∀x∈a.es,0≤x.f∧x.f<(n:Int)∧0≤x.t∧x.t<(n:Int))(ha:Inc a.al)(he:Inc ev)(hsub:∀x∈ev,x∈a.al)
  {s:Nat} {al:Bool} {b:List Bool} (hs:s<n) (hv:View a.al.length ctrl.length n (a.al.map (hasB ev)) s al b):
  View a.al.length ctrl.length n (a.al.map (hasB ev)) (ev.foldl (y6k a.es) (s,al)).1 (ev.foldl (y6k a.es) (s,al)).2 (yq (genP a ctrl) 0 false b)∧(ev.foldl (y6k a.es) (s,al)).1<n∧
  ∀k,k<ctrl.length→(yq (genP a ctrl) 0 false b).getD (a.al.length+k) false=(stepF a.es (ev.foldl (y6k a.es) (s,al)).1 (ctrl.getD k 0)).isSome:=by
 have hes0:∀x∈a.es,0≤x.f:=fun x hx=>(hes x hx).1;have h1:=yc4 (evsOf a) hv hs (fun x hx=>by
  obtain⟨i,hi,rfl⟩:=List.mem_map.1 hx;refine⟨List.mem_range.1 hi,fun e he'=>?_⟩;obtain⟨y,hy,rfl⟩:=List.mem_map.1 he';have:=hes y (List.mem_filter.1 hy).1;dsimp only;omega)
 have h2:(evsOf a).foldl (fun S x=>y7x (a.al.map (hasB ev)) x S) (s,al)=ev.foldl (y6k a.es) (s,al):=by
  unfold evsOf;rw [yet hes0 a.al (hasB ev) a.al.length (s,al) (Nat.le_refl _),List.take_length,yeK ha he hsub]
 rw [h2] at h1;have h3:=yba (cmsOf a ctrl) h1.1 (fun x hx=>by
  obtain⟨k,hk,rfl⟩:=List.mem_map.1 hx;refine⟨List.mem_range.1 hk,fun y hy=>?_⟩;obtain⟨z,hz,rfl⟩:=List.mem_map.1 hy;have:=hes z (List.mem_filter.1 hz).1;omega) (by
  unfold cmsOf;rw [List.map_map];have:((fun x:Nat×List Nat=>x.1)∘fun k=>(k,(a.es.filter fun x=>x.e==ctrl.getD k 0).map fun x=>x.f.toNat))=fun k:Nat=>k:=rfl;rw [this,List.map_id'];exact List.nodup_range)
 have hev:yq (genP a ctrl) 0 false b=(cmsOf a ctrl).foldl (fun b x=>y6l (a.al.length+x.1) (x.2.map fun y=>a.al.length+(ctrl.length+1)+y) b) ((evsOf a).foldl (fun b x=>y7P x.1 (a.al.length+(ctrl.length+1)+n) (a.al.length+ctrl.length) (x.2.map fun e=>(a.al.length+(ctrl.length+1)+e.1,a.al.length+(ctrl.length+1)+e.2)) b) b):=by
  unfold genP;rw [ygU,hn,Int.toNat_natCast,List.foldl_map,List.foldl_map]
 rw [hev];refine⟨h3.1,h1.2,fun k hk=>?_⟩;have h4:=h3.2.1 (k,(a.es.filter fun x=>x.e==ctrl.getD k 0).map fun x=>x.f.toNat) (List.mem_map.2 ⟨k,List.mem_range.2 hk,rfl⟩);dsimp only at h4;rw [h4,Bool.eq_iff_iff,List.contains_iff_mem];unfold stepF;rw [Option.isSome_map,List.find?_isSome,List.mem_map];constructor
 ·rintro ⟨x,hx,hxs⟩;have h5:=List.mem_filter.1 hx;have:=hes0 x h5.1;refine⟨x,h5.1,?_⟩;rw [Bool.and_eq_true];exact⟨by simp;omega,h5.2⟩
 ·rintro ⟨x,hx,hp⟩;rw [Bool.and_eq_true] at hp;refine⟨x,List.mem_filter.2 ⟨hx,hp.2⟩,?_⟩;have:=hp.1;simp at this;omega
structure InsOk (N W m:Nat) (i:Nat) (x:Ins):Prop where
 op:1≤x.op∧x.op≤13
 jump:11≤x.op→(i:Int)<x.arg∧x.arg≤(N:Int)
 bit:x.op≤10→0≤x.arg∧x.arg<(W:Int)
 store:7≤x.op→x.op≤10→(m:Int)≤x.arg
def LocOk(N W m:Nat)(s:Nat)(L:List Ins):Prop:=∀(k:Nat) (x:Ins),L[k]? =some x→InsOk N W m (s+k) x
theorem LocOk.append{N W m s:Nat}{L M:List Ins}(h:LocOk N W m s L)(h':LocOk N W m (s+L.length) M):LocOk N W m s (L++M):=by
 intro k x hx;by_cases hk:k<L.length
 ·exact h k x (by rwa [List.getElem?_append_left hk] at hx)
 ·rw [List.getElem?_append_right (by omega)] at hx;have:=h' (k-L.length) x hx;rwa [show s+L.length+(k-L.length)=s+k by omega] at this
theorem LocOk.plain{N W m s:Nat}{L:List Ins}(h:∀x∈L,1≤x.op∧x.op≤10∧0≤x.arg∧x.arg<(W:Int)∧(7≤x.op→(m:Int)≤x.arg)):LocOk N W m s L:=by
 intro k x hx;have h1:=h x (List.mem_of_getElem? hx);exact⟨by omega,fun h2=>by omega,fun _=>⟨h1.2.2.1,h1.2.2.2.1⟩,fun h2 _=>h1.2.2.2.2 h2⟩
theorem ygo{N W m:Nat}{i moved alarm:Nat}{es:List (Nat×Nat)}{s:Nat}(hN:s+(6+5*es.length)≤N)(hi:i<W)(hm:moved<W)(hm2:m≤moved)(ha:alarm<W)(ha2:m≤alarm)(he:∀e∈es,e.1<W∧m≤e.1∧e.2<W∧m≤e.2):LocOk N W m s (y7e i moved alarm es s):=by
 unfold y7e;refine LocOk.append ?_ (LocOk.plain ?_)
 ·intro k x hx
  match k,hx with
  | 0,hx=>cases hx;exact⟨by dsimp only;omega,fun h=>by simp at h,fun _=>by dsimp only;omega,fun h=>by simp at h⟩
  | 1,hx=>cases hx;exact⟨by dsimp only;omega,fun _=>⟨by show((s+1:Nat):Int)<((s+6+5*es.length:Nat):Int);omega,by show((s+6+5*es.length:Nat):Int)≤(N:Int);omega⟩,fun h=>by simp at h,fun _ h=>by simp at h⟩
  | 2,hx=>cases hx;exact⟨by dsimp only;omega,fun h=>by simp at h,fun _=>by dsimp only;omega,fun h=>by simp at h⟩
  | 3,hx=>cases hx;exact⟨by dsimp only;omega,fun h=>by simp at h,fun _=>by dsimp only;omega,fun _ _=>by dsimp only;omega⟩
  | k+4,hx=>cases hx
 ·intro x hx;rcases List.mem_append.1 hx with h|h
  ·obtain ⟨e,hee,h⟩:=List.mem_flatMap.1 h;have:=he e hee;simp [edgeI] at h;rcases h with rfl|rfl|rfl|rfl|rfl <;> dsimp only <;> omega
  ·simp at h;rcases h with rfl|rfl <;> dsimp only <;> omega
theorem ycN{N W m:Nat}{moved alarm:Nat}(hm:moved<W)(hm2:m≤moved)(ha:alarm<W)(ha2:m≤alarm):∀(l:List (Nat×List (Nat×Nat))) {s:Nat},s+(y1y moved alarm l s).length≤N→(∀x∈l,x.1<W∧∀e∈x.2,e.1<W∧m≤e.1∧e.2<W∧m≤e.2)→LocOk N W m s (y1y moved alarm l s)
 | [],s,_,_=>fun k x hx=>by cases hx
 | (i,es)::l,s,hN,h=>by
  rw [y1y] at hN ⊢;rw [List.length_append,y6L] at hN;have hx:=h (i,es) (List.mem_cons_self ..);refine(ygo (es:=es) (by omega) hx.1 hm hm2 ha ha2 hx.2).append ?_;rw [y6L];exact ycN hm hm2 ha ha2 l (by omega) (fun y hy=>h y (List.mem_cons_of_mem _ hy))
theorem yeu{N W m s:Nat}{l:List (Nat×List Nat)}(h:∀x∈l,x.1<W∧m≤x.1∧∀y∈x.2,y<W):LocOk N W m s (y1f l):=by
 refine LocOk.plain fun x hx=>?_;obtain⟨c,hc,h1⟩:=List.mem_flatMap.1 hx;obtain⟨o,ms⟩:=c;have h2:=h _ hc;dsimp only at h2;cases ms with
 | nil=>
  simp [y3E] at h1;rcases h1 with rfl|rfl|rfl <;> dsimp only <;> omega
 | cons y ms=>
  simp [y3E] at h1;have hy:=h2.2.2 y (List.mem_cons_self ..);rcases h1 with rfl|⟨k,hk,rfl⟩|rfl
  ·dsimp only;omega
  ·have:=h2.2.2 k (List.mem_cons_of_mem _ hk);dsimp only;omega
  ·dsimp only;omega
theorem yis{a:Aut}{ctrl:List Int}{n:Nat}(hn:a.n=n)(hes:∀x∈a.es,0≤x.f∧x.f<(n:Int)∧0≤x.t∧x.t<(n:Int)):
  ∀(i:Nat) (x:Ins),(genP a ctrl)[i]? =some x→InsOk (genP a ctrl).length (a.al.length+(ctrl.length+1)+(n+1)) a.al.length i x:=by
 have h1:=ycN (N:=(genP a ctrl).length) (W:=a.al.length+(ctrl.length+1)+(n+1)) (m:=a.al.length) (moved:=a.al.length+(ctrl.length+1)+n) (alarm:=a.al.length+ctrl.length) (by omega) (by omega) (by omega) (by omega)
  ((evsOf a).map fun x=>(x.1,x.2.map fun e=>(a.al.length+(ctrl.length+1)+e.1,a.al.length+(ctrl.length+1)+e.2))) (s:=0) (by
   unfold genP genI;rw [hn,Int.toNat_natCast,List.length_append];omega) (fun x hx=>by
   obtain⟨y,hy,rfl⟩:=List.mem_map.1 hx;obtain⟨k,hk,rfl⟩:=List.mem_map.1 hy;refine⟨by have:=List.mem_range.1 hk;dsimp only;omega,fun e he=>?_⟩;obtain⟨z,hz,rfl⟩:=List.mem_map.1 he;obtain⟨q,hq,rfl⟩:=List.mem_map.1 hz;have:=hes q (List.mem_filter.1 hq).1;dsimp only;omega)
 have h2:=yeu (N:=(genP a ctrl).length) (W:=a.al.length+(ctrl.length+1)+(n+1)) (m:=a.al.length)
  (s:=0+(y1y (a.al.length+(ctrl.length+1)+n) (a.al.length+ctrl.length) ((evsOf a).map fun x=>(x.1,x.2.map fun e=>(a.al.length+(ctrl.length+1)+e.1,a.al.length+(ctrl.length+1)+e.2))) 0).length)
  (l:=(cmsOf a ctrl).map fun x=>(a.al.length+x.1,x.2.map fun y=>a.al.length+(ctrl.length+1)+y)) (fun x hx=>by
   obtain⟨y,hy,rfl⟩:=List.mem_map.1 hx;obtain⟨k,hk,rfl⟩:=List.mem_map.1 hy;have:=List.mem_range.1 hk;refine⟨by dsimp only;omega,by dsimp only;omega,fun z hz=>?_⟩;obtain⟨q,hq,rfl⟩:=List.mem_map.1 hz;obtain⟨r,hr,rfl⟩:=List.mem_map.1 hq;have:=hes r (List.mem_filter.1 hr).1;omega)
 have h3:=h1.append h2;intro i x hx;have h4:genP a ctrl=y1y (a.al.length+(ctrl.length+1)+n) (a.al.length+ctrl.length) ((evsOf a).map fun x=>(x.1,x.2.map fun e=>(a.al.length+(ctrl.length+1)+e.1,a.al.length+(ctrl.length+1)+e.2))) 0++y1f ((cmsOf a ctrl).map fun x=>(a.al.length+x.1,x.2.map fun y=>a.al.length+(ctrl.length+1)+y)):=by
  unfold genP genI;rw [hn,Int.toNat_natCast]
 rw [h4] at hx;have:=h3 i x hx;rwa [Nat.zero_add] at this
theorem ydL{α:Type}(p q:α→Bool):∀(l:List α),(∀x∈l,p x=true→q x=false)→l.countP (fun x=>p x||q x)=l.countP p+l.countP q
 | [],_=>rfl
 | x::l,h=>by
  have ih:=ydL p q l (fun y hy=>h y (List.mem_cons_of_mem _ hy));have hx:=h x (List.mem_cons_self ..);rw [List.countP_cons,List.countP_cons,List.countP_cons,ih];cases hp:p x with
  | true=>rw [hx hp];simp;omega
  | false=>cases hq:q x <;> simp;omega
theorem ydi{es:List Ed}{al:List Int}(hn:al.Nodup):∀k,k≤al.length→((List.range k).map fun i=>(es.filter fun x=>x.e==al.getD i 0).length).sum=es.countP fun x=>(al.take k).contains x.e
 | 0,_=>by simp
 | k+1,hk=>by
  have ih:=ydi (es:=es) hn k (by omega);rw [List.range_succ,List.map_append,List.sum_append,ih];simp only [List.map_cons,List.map_nil,List.sum_cons,List.sum_nil,Nat.add_zero];rw [←List.countP_eq_length_filter,←ydL]
  ·apply List.countP_congr;intro x _;have ht:al.take (k+1)=al.take k++[al[k]]:=List.take_succ_eq_append_getElem (by omega);have hg:al.getD k 0=al[k]:=by rw [List.getD_eq_getElem?_getD,yGe (by omega)];rfl
   show((al.take k).contains x.e||x.e==al.getD k 0)=true↔(al.take (k+1)).contains x.e=true;rw [ht,hg,Bool.or_eq_true,List.contains_iff_mem,List.contains_iff_mem,List.mem_append,List.mem_singleton,beq_iff_eq]
  ·intro x _ hp;have hm:x.e∈al.take k:=by simpa using hp
   have hg:al.getD k 0=al[k]:=by rw [List.getD_eq_getElem?_getD,yGe (by omega)];rfl
   rw [hg,beq_eq_false_iff_ne];intro e;rw [e] at hm;obtain⟨j,hj,hje⟩:=List.mem_iff_getElem.1 hm;rw [List.length_take] at hj;rw [List.getElem_take] at hje;exact(List.pairwise_iff_getElem.1 hn j k (by omega) (by omega) (by omega)) hje
theorem yca(moved alarm:Nat):∀(l:List (Nat×List (Nat×Nat))) (s:Nat),(y1y moved alarm l s).length=6*l.length+5*(l.map fun x=>x.2.length).sum
 | [],_=>rfl
 | (i,es)::l,s=>by
  rw [y1y,List.length_append,y6L,yca moved alarm l,List.map_cons,List.sum_cons,List.length_cons];dsimp only;omega
theorem ybc :∀(l:List (Nat×List Nat)),(y1f l).length≤3*l.length+(l.map fun x=>x.2.length).sum
 | []=>Nat.le_refl _
 | c::l=>by
  have hs:y1f (c::l)=y3E c.1 c.2++y1f l:=by simp [y1f]
  have ih:=ybc l;have hc:(y3E c.1 c.2).length≤3+c.2.length:=by
   cases c.2 with
   | nil=>simp [y3E]
   | cons m ms=>simp [y3E];omega
  rw [hs,List.length_append,List.map_cons,List.sum_cons,List.length_cons];omega
theorem yhn{a:Aut}{ctrl:List Int}(ha:Inc a.al)(hc:Inc ctrl):(genP a ctrl).length≤6*a.al.length+3*ctrl.length+6*a.es.length:=by
 have hna:a.al.Nodup:=List.Pairwise.imp (fun {x y} (h:x<y)=>by omega) ha;have hnc:ctrl.Nodup:=List.Pairwise.imp (fun {x y} (h:x<y)=>by omega) hc;have h1:=ydi (es:=a.es) hna a.al.length (Nat.le_refl _);have h2:=ydi (es:=a.es) hnc ctrl.length (Nat.le_refl _);have h3:=List.countP_le_length (p:=fun x:Ed=>(a.al.take a.al.length).contains x.e) (l:=a.es);have h4:=List.countP_le_length (p:=fun x:Ed=>(ctrl.take ctrl.length).contains x.e) (l:=a.es);unfold genP genI;rw [List.length_append,yca];have h5:=ybc ((cmsOf a ctrl).map fun x=>(a.al.length+x.1,x.2.map fun y=>a.al.length+(ctrl.length+1)+y));have e1:(((evsOf a).map fun x=>(x.1,x.2.map fun e=>(a.al.length+(ctrl.length+1)+e.1,a.al.length+(ctrl.length+1)+e.2))).map fun x=>x.2.length).sum=((List.range a.al.length).map fun i=>(a.es.filter fun x=>x.e==a.al.getD i 0).length).sum:=by
  unfold evsOf;rw [List.map_map,List.map_map];congr 1;apply List.map_congr_left;intro i _;simp
 have e2:(((cmsOf a ctrl).map fun x=>(a.al.length+x.1,x.2.map fun y=>a.al.length+(ctrl.length+1)+y)).map fun x=>x.2.length).sum=((List.range ctrl.length).map fun i=>(a.es.filter fun x=>x.e==ctrl.getD i 0).length).sum:=by
  unfold cmsOf;rw [List.map_map,List.map_map];congr 1;apply List.map_congr_left;intro i _;simp
 rw [e1];rw [e2] at h5;have l1:(evsOf a).length=a.al.length:=by simp [evsOf]
 have l2:(cmsOf a ctrl).length=ctrl.length:=by simp [cmsOf]
 rw [List.length_map,l1];rw [List.length_map,l2] at h5;omega
theorem yit{m c n:Nat}{inp out mem:List Bool}{s:Nat}{al:Bool}(hi:inp.length=m)(ho:out.length=c+1)(hm:mem.length=n+1)(hs:∀j,j<n→mem.getD j false=decide (j=s))(ha:out.getD c false=al):View m c n inp s al (inp++out++mem):=by
 refine⟨by simp;omega,fun j hj=>?_,fun j hj=>?_,?_⟩
 ·rw [List.getD_eq_getElem?_getD,List.append_assoc,List.getElem?_append_left (by omega),←List.getD_eq_getElem?_getD]
 ·rw [←hs j hj,List.getD_eq_getElem?_getD,List.getElem?_append_right (by simp;omega),List.getD_eq_getElem?_getD];congr 2;simp;omega
 ·rw [←ha,List.getD_eq_getElem?_getD,List.append_assoc,List.getElem?_append_right (by omega),List.getElem?_append_left (by omega),List.getD_eq_getElem?_getD];congr 2;omega
theorem View.mem{m c n:Nat}{inp:List Bool}{s:Nat}{al:Bool}{b:List Bool}(h:View m c n inp s al b):(b.drop (m+(c+1))).length=n+1∧(∀j,j<n→(b.drop (m+(c+1))).getD j false=decide (j=s)):=by
 have hl:=h.len;refine⟨by simp;omega,fun j hj=>?_⟩;rw [←h.one j hj,List.getD_eq_getElem?_getD,List.getElem?_drop,←List.getD_eq_getElem?_getD]
theorem View.out{m c n:Nat}{inp:List Bool}{s:Nat}{al:Bool}{b:List Bool}(h:View m c n inp s al b):((b.drop m).take (c+1)).length=c+1∧((b.drop m).take (c+1)).getD c false=al∧∀j,j<c+1→((b.drop m).take (c+1)).getD j false=b.getD (m+j) false:=by
 have hl:=h.len;have hg:∀j,j<c+1→((b.drop m).take (c+1)).getD j false=b.getD (m+j) false:=fun j hj=>by
  rw [List.getD_eq_getElem?_getD,List.getElem?_take,if_pos hj,List.getElem?_drop,←List.getD_eq_getElem?_getD]
 exact⟨by simp;omega,by rw [hg c (by omega)];exact h.al,hg⟩
end Go.Proofs.YtecmobjeeonmaaaGreatDoor
namespace Go.Proofs.YtecmobjeeonmaaaGreatDoor
open Go Go.RowKit
theorem yb5{S R:Type}{f:S→Option (S⊕(Unit⊕R))}(mk:Int→S)(n:Nat)(hn:n≤4000000)(b:Nat→Bool)(r:Nat→R)(step:∀i,i<n→f (mk (i:Int))=if b i=true then some (.inr (.inr (r i))) else some (.inl (mk ((i+1:Nat):Int))))(last:f (mk (n:Int))=some (.inr (.inl ()))):
  ∃o,iter f (mk 0)=some o∧((o= .inl ()∧∀i,i<n→b i=false)∨∃i,i<n∧o= .inr (r i)∧b i=true∧∀j,j<i→b j=false):=by
 refine yd (f:=f) (fun i s=>s=mk (i:Int)∧∀j,j<i→b j=false) _ n 0 (by omega) (fun i s hi ⟨e1,g1⟩=>?_) (fun s ⟨e1,g1⟩=>?_) (Nat.zero_le _) (mk 0) ⟨rfl,fun j hj=>absurd hj (by omega)⟩
 ·subst e1;rw [step i hi];cases hb:b i with
  | true=>exact .inr ⟨_,rfl,.inr ⟨i,hi,rfl,hb,g1⟩⟩
  | false=>
   refine .inl ⟨_,by rw [if_neg (by simp)],rfl,fun j hj=>?_⟩;by_cases e:j=i
   ·rw [e];exact hb
   ·exact g1 j (by omega)
 ·subst e1;exact⟨_,last,.inl ⟨rfl,g1⟩⟩
theorem ycv(p:Int):∃ev,y1m p=some ev∧Inc ev∧(∀x∈ev,0≤x∧x<5)∧ev.length≤5:=by
 obtain⟨o,h1,h2⟩:=yd (f:=y2B p) (fun i s=>s.1=(i:Int)∧Inc s.2∧(∀x∈s.2,0≤x∧x<(i:Int))∧s.2.length≤i) (fun o=>Inc o∧(∀x∈o,0≤x∧x<5)∧o.length≤5) 5 0 (by omega) (fun i s hi ⟨e1,e2,e3,e4⟩=>by
   obtain⟨s1,s2⟩:=s;dsimp only at e1 e2 e3 e4;subst e1;have hj:∀l:List Int,y1q ((i:Int),s2) l=some (.inl (((i+1:Nat):Int),l)):=fun l=>by
    rw [y1q];dsimp only;rw [nxt (by omega)]
   left;rw [y2B];dsimp only;rw [if_pos (by simp;omega),show ng (i:Int)=some () from if_neg (by omega),yOb];split
   ·rw [yj (by simp;omega),yOb,hj];refine⟨_,rfl,rfl,?_,fun x hx=>?_,by simp;omega⟩
    ·unfold Inc at e2 ⊢;rw [List.pairwise_append];exact⟨e2,List.pairwise_singleton ..,fun a ha b hb=>by rw [List.mem_singleton.1 hb];exact(e3 a ha).2⟩
    ·dsimp only at hx;rcases List.mem_append.1 hx with h|h
     ·have:=e3 x h;omega
     ·rw [List.mem_singleton.1 h];omega
   ·rw [hj];exact⟨_,rfl,rfl,e2,fun x hx=>by have:=e3 x hx;omega,by dsimp only;omega⟩) (fun s ⟨e1,e2,e3,e4⟩=>by
   obtain⟨s1,s2⟩:=s;dsimp only at e1 e2 e3 e4;subst e1;refine⟨s2,?_,e2,e3,e4⟩;rw [y2B];dsimp only;rw [if_neg (by simp)]) (by omega) (0,[]) ⟨rfl,List.Pairwise.nil,fun x hx=>(by cases hx),by simp⟩
 exact⟨o,by rw [y1m,h1];rfl,h2⟩
theorem ydM{xs:List Int}(h:xs.length≤1000000):y2K xs=some (xs,0,[],[]):=by
 rw [y2K,yj (by simp;omega)];rfl
theorem yfi{xs:List Int}{x:Int}(hl:xs.length≤1000000):y4E xs x=some (hasB xs x):=by
 obtain⟨o,h1,h2⟩:=yb5 (f:=y4M xs x) (fun i=>i) xs.length (by omega) (fun i=>xs[i]? == some x) (fun _=>()) (fun i hi=>by
  rw [y4M];rw [if_pos (ct_lt hi),ya hi,yOb,nxt (by omega),yGe hi];by_cases e:xs[i]=x
  ·rw [if_pos (by simpa using e),if_pos (by simpa using e)]
  ·rw [if_neg (by simpa using e),if_neg (by simpa using e)]) (by
  rw [y4M];rw [if_neg ct_ge])
 rw [y4E,h1,yOb];rcases h2 with ⟨rfl,h3⟩|⟨i,hi,rfl,h3,h4⟩
 ·have:hasB xs x=false:=by
   rw [←Bool.not_eq_true,yc];intro hm;obtain⟨k,hk,e⟩:=List.getElem_of_mem hm;have:=h3 k hk;rw [yGe hk,e] at this;simp at this
  rw [this]
 ·have:hasB xs x=true:=by
   rw [yc];rw [yGe hi] at h3;have h3:xs[i]=x:=by simpa using h3
   exact h3▸List.getElem_mem hi
  rw [this]
theorem ygp{xs:List Int}{x:Int}(hl:xs.length≤1000000)(hm:x∈xs):∃k:Nat,y5k xs x=some (k:Int)∧xs[k]? =some x:=by
 obtain⟨o,h1,h2⟩:=yb5 (f:=y3U xs x) (fun i=>i) xs.length (by omega) (fun i=>xs[i]? == some x) (fun i=>(i:Int)) (fun i hi=>by
  rw [y3U];rw [if_pos (ct_lt hi),ya hi,yOb,nxt (by omega),yGe hi];by_cases e:xs[i]=x
  ·rw [if_pos (by simpa using e),if_pos (by simpa using e)]
  ·rw [if_neg (by simpa using e),if_neg (by simpa using e)]) (by
  rw [y3U];rw [if_neg ct_ge])
 rw [y5k,h1,yOb];rcases h2 with ⟨rfl,h3⟩|⟨i,hi,rfl,h3,h4⟩
 ·exfalso;obtain⟨k,hk,e⟩:=List.getElem_of_mem hm;have:=h3 k hk;rw [yGe hk,e] at this;simp at this
 ·exact ⟨i,rfl,by simpa using h3⟩
theorem yho{a:AutT}{s e:Int}(h:∀x∈a.2.2.2,¬(x.1=s∧x.2.1=e)):st1 a s e=none:=by
 unfold st1;rw [Option.map_eq_none_iff,List.find?_eq_none];intro x hx;have:=h x hx;simpa using this
theorem y6Q{a:AutT}{n:Nat}(hr:Right a n)(s e:Int):yo a s e=some ((st1 a s e).getD (-1)):=by
 have hl:=hr.l3;obtain⟨o,h1,h2⟩:=yb5 (f:=y4n a s e) (fun i=>i) a.2.2.2.length (by omega) (fun i=>match a.2.2.2[i]? with | some x=>x.1==s&&x.2.1==e|none=>false) (fun i=>(a.2.2.2.getD i (0,0,0)).2.2) (fun i hi=>by
  rw [y4n];rw [if_pos (ct_lt hi),ya hi,yOb,nxt (by omega),yGe hi,List.getD_eq_getElem?_getD,yGe hi];dsimp only [Option.getD_some];by_cases e1:a.2.2.2[i].1=s
  ·rw [if_pos (by simpa using e1),yOb,yOb,yOb];by_cases e2:a.2.2.2[i].2.1=e
   ·rw [if_pos (by simpa using e2),if_pos (by simp [e1,e2])]
   ·rw [if_neg (by simpa using e2),if_neg (by simp [e2])]
  ·rw [if_neg (by simpa using e1),yOb,if_neg (by simp),if_neg (by simp [e1])]) (by
  rw [y4n];rw [if_neg ct_ge])
 rw [yo,h1,yOb];rcases h2 with ⟨rfl,h3⟩|⟨i,hi,rfl,h3,h4⟩
 ·rw [yho fun x hx hxx=>?_]
  ·rfl
  ·obtain ⟨k,hk,e'⟩:=List.getElem_of_mem hx;have:=h3 k hk;rw [yGe hk,e'] at this;simp [hxx.1,hxx.2] at this
 ·rw [yGe hi] at h3;have h3:a.2.2.2[i].1=s∧a.2.2.2[i].2.1=e:=by simpa using h3
  have:st1 a s e=some a.2.2.2[i].2.2:=by
   rw [y7d hr,←h3.1,←h3.2];exact List.getElem_mem hi
  rw [this,List.getD_eq_getElem?_getD,yGe hi];rfl
section
variable{a:AutT}{n:Nat}
theorem yhp(hr:Right a n)(hal:a.1.length≤32){i:Nat}{y:List Int}{X:List Int}{kn:List (Int×Int)}{E:List (Int×Int×Int)}(hS:SR (st1 a) a.1 n i 0 X kn E)(hi:i<X.length):
  ∃kn' X' E',iter (y2M a ((i:Int),y)) (0,X)=some X'∧SR (st1 a) a.1 n (i+1) 0 X' kn' E'∧∃U,X'=X++U:=by
 have hnl:=hr.nl;obtain⟨o,h1,kn',E',hS',hU⟩:=yd (f:=y2M a ((i:Int),y)) (fun j s=>s.1=(j:Int)∧∃kn E,SR (st1 a) a.1 n i j s.2 kn E∧∃U,s.2=X++U) (fun o=>∃kn E,SR (st1 a) a.1 n (i+1) 0 o kn E∧∃U,o=X++U) a.1.length 0 (by omega) (fun j s hj ⟨e1,kn1,E1,hS1,U,hU⟩=>by
   obtain⟨c,X1⟩:=s;dsimp only at e1 hS1 hU;subst e1;have hX1:=hS1.len;have hi1:i<X1.length:=by rw [hU,List.length_append];omega
   have hj2:∀l:List Int,y2L ((j:Int),X1) l=some (.inl (((j+1:Nat):Int),l)):=fun l=>by
    rw [y2L];dsimp only;rw [nxt (by omega)]
   left;rw [y2M];dsimp only;rw [if_pos (ct_lt hj),ya hi1,yOb,ya hj,yOb,y6Q hr,yOb];cases hst:st1 a X1[i] a.1[j] with
   | none=>
    rw [Option.getD_none,if_neg (by simp),yOb,if_neg (by simp),hj2];exact⟨_,rfl,rfl,kn1,E1,hS1.skip (yGe hi1) (yGe hj) hst,U,hU⟩
   | some t=>
    have ht:=ydh hr hst;rw [Option.getD_some,if_pos (by simp;omega),yfi (by omega),yOb,yOb];by_cases hm:t∈X1
    ·obtain ⟨q,hq⟩:=List.getElem?_of_mem hm;rw [yc.2 hm,if_neg (by simp),hj2];exact⟨_,rfl,rfl,kn1,_,hS1.edge hr.ali hj (yGe hi1) hst hq,U,hU⟩
    ·have hb:hasB X1 t=false:=by rw [←Bool.not_eq_true,yc];exact hm
     rw [hb,if_pos (by simp),yj (by simp;omega),yOb,hj2];have hk:kget kn1 t=none:=by
      cases hk:kget kn1 t with
      | none=>rfl
      | some v=>
       obtain⟨q,_,hq⟩:=hS1.k1 _ _ hk;exact absurd (List.mem_of_getElem? hq) hm
     exact⟨_,rfl,rfl,_,_,hS1.new hr.ali hj (yGe hi1) hst hk ht.2.2.1 ht.2.2.2.1,U++[t],by dsimp only;rw [hU,List.append_assoc]⟩) (fun s ⟨e1,kn1,E1,hS1,hU⟩=>by
   obtain⟨c,X1⟩:=s;dsimp only at e1 hS1 hU;subst e1;rw [y2M];dsimp only;rw [if_neg ct_ge];exact⟨_,rfl,kn1,E1,hS1.next (Nat.le_refl _) hal,hU⟩) (Nat.zero_le _) (0,X) ⟨rfl,kn,E,hS,[],(List.append_nil _).symm⟩
 exact⟨kn',o,E',h1,hS',hU⟩
theorem yhq(hr:Right a n)(h0:0<n):∃X kn E,y5j a=some X∧SR (st1 a) a.1 n X.length 0 X kn E∧X[0]? =some 0:=by
 have hnl:=hr.nl;have hal:a.1.length≤32:=Alp.len ⟨hr.ali,hr.alr⟩;have hS0:SR (st1 a) a.1 n 0 0 [0] (kput [] 0 0) []:=by
  refine⟨Fnd.start (by simp),fun s v hv=>?_,fun s hs=>?_,by simp,fun s hs=>?_,List.Pairwise.nil,fun x hx=>(by cases hx),fun x hx=>(by cases hx),by simp⟩
  ·rw [y6f] at hv;split at hv
   ·rename_i e;subst e;cases hv;exact⟨0,rfl,rfl⟩
   ·cases hv
  ·rw [List.mem_singleton.1 hs,y6f,if_pos rfl];rfl
  ·rw [List.mem_singleton.1 hs];omega
 obtain⟨o,h1,kn,E,h2,h3⟩:=yd (f:=y2N a) (fun i s=>s.1=(i:Int)∧i≤s.2.length∧∃kn E,SR (st1 a) a.1 n i 0 s.2 kn E∧s.2[0]? =some 0) (fun o=>∃kn E,SR (st1 a) a.1 n o.length 0 o kn E∧o[0]? =some 0) n 0 (by omega) (fun i s hi ⟨e1,hle,kn,E,hS,x0⟩=>by
   obtain⟨c,X⟩:=s;dsimp only at e1 hle hS x0;subst e1;have hXl:=hS.len;rw [y2N];dsimp only;by_cases hix:i<X.length
   ·left;obtain⟨kn',X',E',w1,w2,U,hU⟩:=yhp hr hal (y:=X) hS hix;rw [if_pos (ct_lt hix),w1,yOb,nxt (by omega)];exact⟨_,rfl,rfl,by dsimp only;rw [hU,List.length_append];omega,kn',E',w2,by dsimp only;rw [hU,List.getElem?_append_left (by omega)];exact x0⟩
   ·right;obtain rfl:i=X.length:=by omega
    rw [if_neg ct_ge];exact⟨_,rfl,kn,E,hS,x0⟩) (fun s ⟨e1,hle,kn,E,hS,x0⟩=>by
   obtain⟨c,X⟩:=s;dsimp only at e1 hle hS x0;subst e1;have hXl:=hS.len;have hX:n=X.length:=by omega
   rw [y2N];dsimp only;rw [if_neg (by simp;omega)];exact⟨_,rfl,kn,E,by rw [←hX];exact hX▸hS,x0⟩) (Nat.zero_le _) (0,[0]) ⟨rfl,by simp,kput [] 0 0,[],hS0,rfl⟩
 refine⟨o,kn,E,?_,h2,h3⟩;rw [y5j,if_pos (by rw [hr.nn];simp;omega),yj (by simp),yOb,y3T,show iter (y2N a) (0,([]:List Int)++[0])=some o from h1];rfl
structure EL (st:Int→Int→Option Int) (al X:List Int) (i j:Nat) (E:List (Int×Int×Int)):Prop where
 so:E.Pairwise fun x y=>x.1<y.1∨(x.1=y.1∧x.2.1<y.2.1)
 ei:∀x∈E,x.1<(i:Int)∨(x.1=(i:Int)∧∃b,∃hb:b<al.length,b<j∧al[b]=x.2.1)
 sn:∀x∈E,∃(a q:Nat) (t r:Int),x.1=(a:Int)∧x.2.2=(q:Int)∧X[a]? =some t∧X[q]? =some r∧x.2.1∈al∧st t x.2.1=some r
 ed:∀(a b:Nat) (t e r:Int),(a<i∨(a=i∧b<j))→X[a]? =some t→al[b]? =some e→st t e=some r→∃q:Nat,((a:Int),e,(q:Int))∈E∧X[q]? =some r
 el:E.length≤32*i+j
theorem EL.skip{st:Int→Int→Option Int}{al X:List Int}{i j:Nat}{E:List (Int×Int×Int)}(h:EL st al X i j E){s e:Int}(ht:X[i]? =some s)(he:al[j]? =some e)(hs:st s e=none):EL st al X i (j+1) E:=by
 refine⟨h.so,fun x hx=>?_,h.sn,fun a b t' e' r hab ha hb hst=>?_,by have:=h.el;omega⟩
 ·rcases h.ei x hx with h1|⟨h1,b,hb,h2,h3⟩
  ·exact .inl h1
  ·exact .inr ⟨h1,b,hb,by omega,h3⟩
 ·by_cases hx:a=i∧b=j
  ·obtain ⟨rfl,rfl⟩:=hx;rw [ht] at ha;rw [he] at hb;cases ha;cases hb;rw [hs] at hst;cases hst
  ·exact h.ed a b t' e' r (by omega) ha hb hst
theorem EL.edge{st:Int→Int→Option Int}{al X:List Int}{i j:Nat}{E:List (Int×Int×Int)}(h:EL st al X i j E)(ia:Inc al)(hj:j<al.length){s v:Int}{q:Nat}(ht:X[i]? =some s)(hs:st s al[j]=some v)(hq:X[q]? =some v):EL st al X i (j+1) (E++[((i:Int),al[j],(q:Int))]):=by
 refine⟨?_,fun x hx=>?_,fun x hx=>?_,fun a b t' e' r hab ha hb hst=>?_,by have:=h.el;rw [List.length_append,List.length_singleton];omega⟩
 ·rw [List.pairwise_append];refine⟨h.so,List.pairwise_singleton _ _,fun x hx y hy=>?_⟩;rw [List.mem_singleton.1 hy];rcases h.ei x hx with h1|⟨h1,b,hb,h2,h3⟩
  ·exact .inl h1
  ·refine .inr ⟨h1,?_⟩;rw [←h3];exact List.pairwise_iff_getElem.1 ia b j hb hj h2
 ·rcases List.mem_append.1 hx with hx|hx
  ·rcases h.ei x hx with h1|⟨h1,b,hb,h2,h3⟩
   ·exact .inl h1
   ·exact .inr ⟨h1,b,hb,by omega,h3⟩
  ·rw [List.mem_singleton.1 hx];exact .inr ⟨rfl,j,hj,by omega,rfl⟩
 ·rcases List.mem_append.1 hx with hx|hx
  ·exact h.sn x hx
  ·rw [List.mem_singleton.1 hx];exact⟨i,q,s,v,rfl,rfl,ht,hq,List.getElem_mem hj,hs⟩
 ·by_cases hx:a=i∧b=j
  ·obtain ⟨rfl,rfl⟩:=hx;rw [ht] at ha;rw [yGe hj] at hb;cases ha;cases hb;rw [hs] at hst;cases hst;exact⟨q,List.mem_append_right _ (List.mem_singleton.2 rfl),hq⟩
  ·obtain ⟨q',g1,g2⟩:=h.ed a b t' e' r (by omega) ha hb hst;exact⟨q',List.mem_append_left _ g1,g2⟩
theorem EL.next{st:Int→Int→Option Int}{al X:List Int}{i j:Nat}{E:List (Int×Int×Int)}(h:EL st al X i j E)(hj:al.length≤j)(hj2:j≤32):EL st al X (i+1) 0 E:=
 ⟨h.so,fun x hx=>by
  rcases h.ei x hx with h1|⟨h1,_⟩
  ·exact .inl (by omega)
  ·exact .inl (by omega),h.sn,fun a b t e r hab ha hb hst=>h.ed a b t e r (by have:=(List.getElem?_eq_some_iff.1 hb).1;omega) ha hb hst,by have:=h.el;omega⟩
theorem ygq(hr:Right a n)(hal:a.1.length≤32){X:List Int}{kn:List (Int×Int)}{E0:List (Int×Int×Int)}(hS:SR (st1 a) a.1 n X.length 0 X kn E0){i:Nat}(hi:i<X.length){ms:List Int}{y E:List (Int×Int×Int)}(hE:EL (st1 a) a.1 X i 0 E):
  ∃E',iter (y1B a X ((i:Int),ms,y)) (0,E)=some E'∧EL (st1 a) a.1 X (i+1) 0 E':=by
 have hnl:=hr.nl;have hXl:=hS.len;refine yd (f:=y1B a X ((i:Int),ms,y)) (fun j s=>s.1=(j:Int)∧EL (st1 a) a.1 X i j s.2) (fun o=>EL (st1 a) a.1 X (i+1) 0 o) a.1.length 0 (by omega) (fun j s hj ⟨e1,hE1⟩=>?_) (fun s ⟨e1,hE1⟩=>?_) (Nat.zero_le _) (0,E) ⟨rfl,hE⟩
 ·obtain ⟨c,E1⟩:=s;dsimp only at e1 hE1;subst e1;have hel:=hE1.el;have hj2:∀l:List (Int×Int×Int),y1A ((j:Int),E1) l=some (.inl (((j+1:Nat):Int),l)):=fun l=>by
   rw [y1A];dsimp only;rw [nxt (by omega)]
  left;rw [y1B];dsimp only;rw [if_pos (ct_lt hj),ya hi,yOb,ya hj,yOb,y6Q hr,yOb];cases hst:st1 a X[i] a.1[j] with
  | none=>
   rw [Option.getD_none,if_neg (by simp),hj2];exact⟨_,rfl,rfl,hE1.skip (yGe hi) (yGe hj) hst⟩
  | some t=>
   have ht:=ydh hr hst;obtain⟨q,_,hq⟩:=hS.f.ed i j X[i] a.1[j] t (.inl hi) (yGe hi) (yGe hj) hst;obtain⟨k,hk,hk2⟩:=ygp (xs:=X) (x:=t) (by omega) (List.mem_of_getElem? hq);rw [Option.getD_some,if_pos (by simp;omega),yOb,hk,yOb,yj (by simp;omega),yOb,hj2];exact⟨_,rfl,rfl,hE1.edge hr.ali hj (yGe hi) hst hk2⟩
 ·obtain ⟨c,E1⟩:=s;dsimp only at e1 hE1;subst e1;rw [y1B];dsimp only;rw [if_neg ct_ge];exact⟨_,rfl,hE1.next (Nat.le_refl _) hal⟩
theorem ygr(hr:Right a n)(h0:0<n):∃r X,y3G a=some r∧CanOf (st1 a) a.1 a.2.2.1 r X∧0<X.length∧X.length≤n:=by
 have hnl:=hr.nl;have hl1:=hr.l1;have hl2:=hr.l2;have hal:a.1.length≤32:=Alp.len ⟨hr.ali,hr.alr⟩;obtain⟨X,kn,E0,hf,hS,x0⟩:=yhq hr h0;have hXl:=hS.len;have hX0:0<X.length:=(List.getElem?_eq_some_iff.1 x0).1;obtain⟨o,h1,hE,m1,m2,mk⟩:=yd (f:=y2O a X) (fun i s=>s.1=(i:Int)∧i≤X.length∧EL (st1 a) a.1 X i 0 s.2.2∧Inc s.2.1∧(∀x∈s.2.1,0≤x∧x<(i:Int))∧∀(c:Nat) (x:Int),c<i→X[c]? =some x→((c:Int)∈s.2.1↔x∈a.2.2.1))
   (fun o=>EL (st1 a) a.1 X X.length 0 o.2∧Inc o.1∧(∀x∈o.1,0≤x∧x<(X.length:Int))∧∀(c:Nat) (x:Int),X[c]? =some x→((c:Int)∈o.1↔x∈a.2.2.1)) X.length 0 (by omega) (fun i s hi ⟨e1,_,hE,m1,m2,mk⟩=>by
   obtain⟨c,M,E⟩:=s;dsimp only at e1 hE m1 m2 mk;subst e1;have hMl:=y5U (n:=i) (lo:=0) m1 m2 (Int.le_refl _);have hj1:∀M':List Int,Inc M'→(∀x∈M',0≤x∧x<((i+1:Nat):Int))→(∀x:Int,x≠(i:Int)→(x∈M'↔x∈M))→((i:Int)∈M'↔X[i]∈a.2.2.1)→
     ∃s',y1C a X ((i:Int),M,E) M'=some (.inl s')∧s'.1=((i+1:Nat):Int)∧i+1≤X.length∧EL (st1 a) a.1 X (i+1) 0 s'.2.2∧Inc s'.2.1∧(∀x∈s'.2.1,0≤x∧x<((i+1:Nat):Int))∧∀(c:Nat) (x:Int),c<i+1→X[c]? =some x→((c:Int)∈s'.2.1↔x∈a.2.2.1):=fun M' q1 q2 q3 q4=>by
    obtain⟨E',w1,w2⟩:=ygq hr hal hS hi (ms:=M) (y:=E) hE;rw [y1C];dsimp only;rw [w1,yOb,nxt (by omega)];refine⟨_,rfl,rfl,hi,w2,q1,q2,fun c x hc hx=>?_⟩;dsimp only;by_cases e:c=i
    ·subst e;rw [yGe hi] at hx;cases hx;exact q4
    ·rw [q3 _ (by omega)];exact mk c x (by omega) hx
   left;rw [y2O];dsimp only;rw [if_pos (ct_lt hi),ya hi,yOb,yfi (by omega),yOb];cases hm:hasB a.2.2.1 X[i] with
   | true=>
    rw [if_pos rfl,yj (by simp;omega),yOb];refine hj1 _ ?_ (fun x hx=>?_) (fun x hx=>?_) ⟨fun _=>yc.1 hm,fun _=>List.mem_append_right _ (List.mem_singleton.2 rfl)⟩
    ·unfold Inc at m1 ⊢;rw [List.pairwise_append];exact⟨m1,List.pairwise_singleton _ _,fun c hc b hb=>by rw [List.mem_singleton.1 hb];exact(m2 c hc).2⟩
    ·rcases List.mem_append.1 hx with hx|hx
     ·have:=m2 x hx;omega
     ·rw [List.mem_singleton.1 hx];omega
    ·rw [List.mem_append,List.mem_singleton];exact⟨fun h=>h.resolve_right hx,.inl⟩
   | false=>
    rw [if_neg (by simp)];refine hj1 M m1 (fun x hx=>by have:=m2 x hx;omega) (fun x _=>Iff.rfl) ⟨fun hx=>by have:=m2 _ hx;omega,fun hx=>?_⟩;rw [yc.2 hx] at hm;cases hm) (fun s ⟨e1,_,hE,m1,m2,mk⟩=>by
   obtain⟨c,M,E⟩:=s;dsimp only at e1 hE m1 m2 mk;subst e1;rw [y2O];dsimp only;rw [if_neg ct_ge];exact⟨_,rfl,hE,m1,m2,fun c x hx=>mk c x (List.getElem?_eq_some_iff.1 hx).1 hx⟩) (Nat.zero_le _) (0,[],[]) ⟨rfl,Nat.zero_le _,⟨List.Pairwise.nil,fun x hx=>(by cases hx),fun x hx=>(by cases hx),fun a b t e r hab=>by omega,by simp⟩,List.Pairwise.nil,fun x hx=>(by cases hx),fun c x hc=>absurd hc (Nat.not_lt_zero _)⟩
 obtain⟨M,E⟩:=o;dsimp only at hE m1 m2 mk;have hMl:=y5U (n:=X.length) (lo:=0) m1 m2 (Int.le_refl _);have hD:=hS.f.disc hS.nd hS.so hS.ea hr.alr;have hEE:E=E0:=y9B (lt:=fun x y=>x.1<y.1∨(x.1=y.1∧x.2.1<y.2.1)) (fun a b h1 h2=>by omega) hE.so hD.so fun x=>by
  have same:∀{a q q':Nat} {t r r':Int},X[a]? =some t→X[q]? =some r→X[q']? =some r→q=q':=fun {a q q' t r r'} _ h1 h2=>by
   have e1:=(List.getElem?_eq_some_iff.1 h1).2;have e2:=(List.getElem?_eq_some_iff.1 h2).2;exact(List.getElem_inj hS.nd).1 (e1.trans e2.symm)
  constructor
  ·intro hx;obtain⟨c,q,t,r,g1,g2,g3,g4,g5,g6⟩:=hE.sn x hx;obtain⟨q',k1,k2⟩:=hD.ed c t x.2.1 r g3 g5 g6;have:=same (r':=r) g3 g4 k2;subst this;rw [←g1,←g2] at k1;exact k1
  ·intro hx;obtain⟨c,q,t,r,g1,g2,g3,g4,g5,g6⟩:=hD.sn x hx;obtain⟨b,hb,hbe⟩:=List.getElem_of_mem g5;obtain⟨q',k1,k2⟩:=hE.ed c b t x.2.1 r (.inl (List.getElem?_eq_some_iff.1 g3).1) g3 (by rw [yGe hb,hbe]) g6;have:=same (r':=r) g3 g4 k2;subst this;rw [←g1,←g2] at k1;exact k1
 subst hEE;have hEl:=hE.el;refine⟨(a.1,(X.length:Int),M,E),X,?_,⟨⟨rfl,by omega,hr.ali,hr.alr,m1,m2,fun x hx=>?_,hE.so,hl1,by dsimp only;omega,by dsimp only;omega⟩,rfl,fun _=>x0,hD,mk⟩,hX0,hXl⟩
 ·rw [y3G,hf,yOb,ydM (by omega),yOb,h1];rfl
 ·obtain ⟨c,q,t,r,g1,g2,g3,g4,g5,_⟩:=hE.sn x hx;have e3:=(List.getElem?_eq_some_iff.1 g3).1;have e4:=(List.getElem?_eq_some_iff.1 g4).1;exact⟨by omega,by omega,by omega,by omega,g5⟩
end
abbrev Row5 :=Int×Int×Int×Int×Int
def ybR(g:Row5×Row5×Row5×Row5×Row5):List Int:=
 [g.1.1,g.1.2.1,g.1.2.2.1,g.1.2.2.2.1,g.1.2.2.2.2,g.2.1.1,g.2.1.2.1,g.2.1.2.2.1,g.2.1.2.2.2.1,g.2.1.2.2.2.2,g.2.2.1.1,g.2.2.1.2.1,g.2.2.1.2.2.1,g.2.2.1.2.2.2.1,g.2.2.1.2.2.2.2,g.2.2.2.1.1,g.2.2.2.1.2.1,g.2.2.2.1.2.2.1,g.2.2.2.1.2.2.2.1,g.2.2.2.1.2.2.2.2,g.2.2.2.2.1,g.2.2.2.2.2.1,g.2.2.2.2.2.2.1,g.2.2.2.2.2.2.2.1,g.2.2.2.2.2.2.2.2]
structure GrIn (g:y1L):Prop where
 s:0≤g.1∧g.1<256
 c:∀y∈ybR g.2.2,0≤y∧y<256
structure MG (ev:List Int) (n i j:Nat) (E:List (Int×Int×Int)):Prop where
 er:∀x∈E,0≤x.1∧x.1≤(i:Int)∧x.2.1∈ev∧0≤x.2.2∧x.2.2<(n:Int)
 es:∀x∈E,x.1=(i:Int)→∃b,∃hb:b<ev.length,b<j∧ev[b]=x.2.1
 so:E.Pairwise fun x y=>x.1<y.1∨(x.1=y.1∧x.2.1<y.2.1)
 el:E.length≤5*i+j
theorem MG.push{ev:List Int}{n i j:Nat}{E:List (Int×Int×Int)}{q:Int}(h:MG ev n i j E)(ie:Inc ev)(hj:j<ev.length)(h0:0≤q)(h1:q<(n:Int)):MG ev n i (j+1) (E++[((i:Int),ev[j],q)]):=by
 refine⟨fun x hx=>?_,fun x hx e=>?_,?_,by have:=h.el;rw [List.length_append,List.length_singleton];omega⟩
 ·rcases List.mem_append.1 hx with hx|hx
  ·exact h.er x hx
  ·rw [List.mem_singleton.1 hx];exact⟨by dsimp only;omega,by dsimp only;omega,List.getElem_mem hj,h0,h1⟩
 ·rcases List.mem_append.1 hx with hx|hx
  ·obtain ⟨b,hb,h2,h3⟩:=h.es x hx e;exact⟨b,hb,by omega,h3⟩
  ·rw [List.mem_singleton.1 hx];exact⟨j,hj,by omega,rfl⟩
 ·rw [List.pairwise_append];refine⟨h.so,List.pairwise_singleton _ _,fun a ha b hb=>?_⟩;rw [List.mem_singleton.1 hb];have h2:=h.er a ha;by_cases e:a.1=(i:Int)
  ·obtain ⟨b,hb,h3,h4⟩:=h.es a ha e;refine .inr ⟨e,?_⟩;rw [←h4];exact List.pairwise_iff_getElem.1 ie b j hb hj h3
  ·exact .inl (by dsimp only;omega)
theorem MG.skip{ev:List Int}{n i j:Nat}{E:List (Int×Int×Int)}(h:MG ev n i j E):MG ev n i (j+1) E:=⟨h.er,fun x hx e=>by
 obtain⟨b,hb,h2,h3⟩:=h.es x hx e;exact⟨b,hb,by omega,h3⟩,h.so,by have:=h.el;omega⟩
theorem MG.next{ev:List Int}{n i j:Nat}{E:List (Int×Int×Int)}(h:MG ev n i j E)(hj:j≤5):MG ev n (i+1) 0 E:=⟨fun x hx=>by
 have:=h.er x hx;exact⟨this.1,by omega,this.2.2⟩,fun x hx e=>by have:=h.er x hx;omega,h.so,by have:=h.el;omega⟩
theorem yev{ev:List Int}(ie:Inc ev)(he:∀x∈ev,0≤x∧x<32)(hel:ev.length≤5){g:y1L}(hg:GrIn g):∃r n,y4d ev g=some r∧Right r n∧n≤5∧r.1=ev:=by
 obtain⟨s,m,c⟩:=g;obtain⟨hs,hc⟩:=hg;dsimp only at hs hc;rw [y4d,ydM (by omega)];dsimp only;by_cases h250:s≥250
 ·rw [if_pos (by simpa using h250),yOb];exact⟨_,0,rfl,⟨rfl,by omega,ie,he,List.Pairwise.nil,fun x hx=>(by cases hx),fun x hx=>(by cases hx),List.Pairwise.nil,by dsimp only;omega,by simp,by simp⟩,by omega,rfl⟩
 rw [if_neg (by simpa using h250),yOb];obtain⟨n,hn0,hn5,hn⟩:∃n:Nat,0<n∧n≤5∧W (1+W (s.tmod 5))=(n:Int):=by
  refine⟨(1+s % 5).toNat,by omega,by omega,?_⟩;rw [Int.tmod_eq_emod_of_nonneg hs.1,W_of (x:=s % 5) (by omega) (by omega),W_of (by omega) (by omega)];omega
 have hn2:W ((n:Int)+2)=((n+2:Nat):Int):=by rw [show (n:Int)+2=((n+2:Nat):Int) by omega,W_nat (by omega)]
 rw [hn];obtain⟨o,h1,m1,m2,hM⟩:=yd (f:=y4p ev (s,m,c)) (fun i t=>t.1=(i:Int)∧Inc t.2.1∧(∀x∈t.2.1,0≤x∧x<(i:Int))∧MG ev n i 0 t.2.2) (fun o=>Inc o.1∧(∀x∈o.1,0≤x∧x<(n:Int))∧MG ev n n 0 o.2) n 0 (by omega) (fun i t hi ⟨e1,m1,m2,hM⟩=>by
   obtain⟨t1,t2,t3⟩:=t;dsimp only at e1 m1 m2 hM;subst e1;have hMl:=y5U (n:=i) (lo:=0) m1 m2 (Int.le_refl _);have hj:∀l:List Int,Inc l→(∀x∈l,0≤x∧x<((i+1:Nat):Int))→∃s',y3c ev (s,m,c) ((i:Int),t2,t3) l=some (.inl s')∧s'.1=((i+1:Nat):Int)∧Inc s'.2.1∧(∀x∈s'.2.1,0≤x∧x<((i+1:Nat):Int))∧MG ev n (i+1) 0 s'.2.2:=by
    intro l hl1 hl2;obtain⟨o,h1,h2⟩:=yd (f:=y4o ev (s,m,c) ((i:Int),t2,t3)) (fun k t=>t.1=(k:Int)∧MG ev n i k t.2) (fun o=>MG ev n i ev.length o) ev.length 0 (by omega) (fun k t hk ⟨g1,g2⟩=>by
      obtain⟨u1,u2⟩:=t;dsimp only at g1 g2;subst g1;have hel2:=g2.el;have hj2:∀l:List (Int×Int×Int),y3b ((k:Int),u2) l=some (.inl (((k+1:Nat):Int),l)):=fun l=>by
       rw [y3b];dsimp only;rw [nxt (by omega)]
      left;have hlt:i*5+k*1<(ybR c).length:=by show _<25;omega
      obtain⟨v,hcell,hv⟩:∃v,(ybR c)[i*5+k*1]? =some v∧0≤v∧v<256:=⟨_,yGe hlt,hc _ (List.getElem_mem hlt)⟩;rw [ybR] at hcell;rw [y4o];dsimp only;rw [if_pos (by simp;omega),show rng (i:Int) 5=some () from if_pos (by simp;omega),yOb,show rng (k:Int) 5=some () from if_pos (by simp;omega),yOb,Int.toNat_natCast,Int.toNat_natCast,hcell,yOb,hn,hn2,show nz ((n+2:Nat):Int)=some () from if_neg (by omega),yOb,W_of (x:=v) (by omega) (by omega),Int.tmod_eq_emod_of_nonneg hv.1];have hm0:=Int.emod_nonneg v (show ((n+2:Nat):Int)≠0 by omega);by_cases hlt2:v % ((n+2:Nat):Int)<(n:Int)
      ·rw [if_pos (decide_eq_true hlt2),ya hk,yOb,yj (by rw [List.length_cons,List.length_nil];omega),yOb,hj2];exact⟨_,rfl,rfl,g2.push ie hk hm0 hlt2⟩
      ·rw [if_neg (by simpa using hlt2),hj2];exact⟨_,rfl,rfl,g2.skip⟩) (fun t ⟨g1,g2⟩=>by
      obtain⟨u1,u2⟩:=t;dsimp only at g1 g2;subst g1;rw [y4o];dsimp only;rw [if_neg (by simp)];exact⟨_,rfl,g2⟩) (Nat.zero_le _) (0,t3) ⟨rfl,hM⟩
    rw [y3c];dsimp only;rw [h1,yOb,nxt (by omega)];exact⟨_,rfl,rfl,hl1,hl2,h2.next hel⟩
   left;rw [y4p];dsimp only;rw [hn,if_pos (by simp;omega),show ng (i:Int)=some () from if_neg (by omega),yOb];split
   ·rw [yj (by simp;omega),yOb];refine hj _ ?_ (fun x hx=>?_)
    ·unfold Inc at m1 ⊢;rw [List.pairwise_append];exact⟨m1,List.pairwise_singleton _ _,fun c hc b hb=>by rw [List.mem_singleton.1 hb];exact(m2 c hc).2⟩
    ·rcases List.mem_append.1 hx with hx|hx
     ·have:=m2 x hx;omega
     ·rw [List.mem_singleton.1 hx];omega
   ·exact hj _ m1 (fun x hx=>by have:=m2 x hx;omega)) (fun t ⟨e1,m1,m2,hM⟩=>by
   obtain⟨t1,t2,t3⟩:=t;dsimp only at e1 m1 m2 hM;subst e1;rw [y4p];dsimp only;rw [hn,if_neg (by simp)];exact⟨_,rfl,m1,m2,hM⟩) (Nat.zero_le _) (0,[],[]) ⟨rfl,List.Pairwise.nil,fun x hx=>(by cases hx),⟨fun x hx=>(by cases hx),fun x hx=>(by cases hx),List.Pairwise.nil,by simp⟩⟩
 obtain⟨M,E⟩:=o;dsimp only at m1 m2 hM;have hMl:=y5U (n:=n) (lo:=0) m1 m2 (Int.le_refl _);have hel2:=hM.el;have hR:Right (ev,(n:Int),M,E) n:=⟨rfl,by omega,ie,he,m1,m2,fun x hx=>by
  have h:=hM.er x hx;refine⟨h.1,?_,h.2.2.2.1,h.2.2.2.2,h.2.2.1⟩;by_cases e:x.1=(n:Int)
  ·obtain ⟨b,_,hb,_⟩:=hM.es x hx e;omega
  ·omega,hM.so,by dsimp only;omega,by dsimp only;omega,by dsimp only;omega⟩
 obtain⟨r,X,hc1,hc2,hc3,hc4⟩:=ygr hR hn0;rw [h1,yOb,hc1,yOb];exact⟨r,X.length,rfl,hc2.right,by omega,hc2.ale⟩
structure PbOk (q:ProbT) (n1 n2:Nat):Prop where
 rP:Right q.1 n1
 rS:Right q.2.1 n2
 l1:n1≤40
 l2:n2≤40
 sub:∀x∈q.2.1.1,x∈q.1.1
 iu:Inc q.2.2
 ur:∀x∈q.2.2,0≤x∧x<32
theorem PbOk.open{q:ProbT}{n1 n2:Nat}(h:PbOk q n1 n2):∃t p T n1 n2 n,y7p q=some (some t,0)∧TaskOk q t p T n1 n2 n∧yw [q.1,q.2.1]=some (p,T,0):=by
 have hu:=Alp.len ⟨h.iu,h.ur⟩;refine ygn ⟨h.rP.l1,h.rP.l2,h.rP.l3,h.rS.l1,h.rS.l2,h.rS.l3,by omega⟩ ?_ (by rw [h.rP.nn];have:=h.l1;omega) (by rw [h.rS.nn];have:=h.l2;omega);have hm:mg (fun a b=>a && !b) q.2.1.1 q.1.1= []:=List.eq_nil_iff_forall_not_mem.2 fun x hx=>by
  rw [(y6x (fun a b=>a && !b) q.2.1.1 q.1.1 h.rS.ali h.rP.ali).2] at hx;obtain⟨_,h2⟩:=hx;rw [Bool.and_eq_true,yc] at h2;have:=yc.2 (h.sub x h2.1);rw [this] at h2;simp at h2
 unfold errP;rw [h.rP.err,h.rS.err,hm,if_neg (by simp),if_neg (by simp),if_neg (by simp)];exact y7a h.iu h.ur (fun q hq=>by cases hq)
abbrev PartT :=Int×y1L
abbrev Des26 :=PartT×PartT×Int
structure Des26In (d:Des26):Prop where
 g1:GrIn d.1.2
 g2:GrIn d.2.1.2
theorem ygs{d:Des26}(hd:Des26In d):∃q n1 n2,y5u d=some q∧PbOk q n1 n2∧n1≤5∧n2≤5∧∀x∈q.1.1,0≤x∧x<5:=by
 obtain⟨e1,a1,i1,r1,z1⟩:=ycv d.1.1;obtain⟨P,n1,b1,R1,s1,t1⟩:=yev i1 (fun x hx=>by have:=r1 x hx;omega) z1 hd.g1;obtain⟨e2,a2,i2,r2,z2⟩:=ycv d.2.1.1;have hsp:=y6x (fun a b=>a&&b) e2 P.1 i2 R1.ali;have hmem:∀x,x∈mg (fun a b=>a&&b) e2 P.1→x∈e2∧x∈P.1:=fun x hx=>by
  have:=(hsp.2 x).1 hx;simp only [Bool.and_eq_true] at this;exact⟨yc.1 this.2.1,yc.1 this.2.2⟩
 have hl:=y5U (n:=5) (lo:=0) hsp.1 (fun x hx=>r2 x (hmem x hx).1) (Int.le_refl _);obtain⟨S,n2,b2,R2,s2,t2⟩:=yev hsp.1 (fun x hx=>by have:=r2 x (hmem x hx).1;omega) (by omega) hd.g2;obtain⟨e3,a3,i3,r3,z3⟩:=ycv d.2.2;refine⟨(P,S,e3),n1,n2,?_,⟨R1,R2,by omega,by omega,fun x hx=>?_,i3,fun x hx=>by have:=r3 x hx;omega⟩,s1,s2,fun x hx=>?_⟩
 ·rw [y5u,a1,yOb,b1,yOb,a2,yOb,ydK (by omega) R1.l1,yOb,b2,yOb,a3];rfl
 ·dsimp only at hx;rw [t2] at hx;exact(hmem x hx).2
 ·dsimp only at hx;rw [t1] at hx;exact r1 x hx
end Go.Proofs.YtecmobjeeonmaaaGreatDoor
