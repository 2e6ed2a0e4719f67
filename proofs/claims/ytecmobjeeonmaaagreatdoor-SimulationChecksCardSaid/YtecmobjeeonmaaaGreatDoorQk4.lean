/- Parts of the proof, without what nothing here names. -/
import Derived.Test.YtecmobjeeonmaaaGreatDoorProg
import Derived.Shelf.SlSortCmp.InsertionK
import Derived.Shelf.SlSortCmp.NoneTotal
import Derived.Ground.SlsfProg
import Derived.Test.YtecmobjeeonmaaaGreatDoorQk3
set_option maxRecDepth 100000
set_option maxHeartbeats 8000000
namespace Go.Proofs.YtecmobjeeonmaaaGreatDoor
open Go Go.RowKit
noncomputable section
variable{p0:AutT×List Int×(List (Int×List Int))×List Bool}{p1:Int}
def y1x(a:Int×EdgL)(b:List (Int×Int×Int)):Option ((Int×EdgL)⊕EdgL):=
 some (.inl (W (a.1+1),b))
def y1y(p0:AutT)(d:List Int)(b:Int×List Int×EdgL)(a:Int×EdgL):Option ((Int×EdgL)⊕EdgL):=
 if decide (a.1<(p0.1.length:Int)) then
  (idx d b.1).bind fun f=>
  (idx p0.1 a.1).bind fun g=>
  (yq p0 f g).bind fun c=>
  if decide (c≥0) then
   (idx p0.1 a.1).bind fun h=>
   (y5d d c).bind fun e=>
   (app a.2 ([(b.1,h,e)]:List (Int×Int×Int))).bind fun i=>
   y1x a i
  else
   y1x a a.2
 else
  some (.inr a.2)
def y1z(p0:AutT)(d:List Int)(a:Int×List Int×EdgL)(b:List Int):Option ((Int×List Int×EdgL)⊕(List Int×EdgL)):=
 (iter (y1y p0 d a) (0,a.2.2)).bind fun c=>
 some (.inl (W (a.1+1),b,c))
def y2N(p0:AutT)(b:List Int)(a:Int×List Int×EdgL):Option ((Int×List Int×EdgL)⊕(List Int×EdgL)):=
 if decide (a.1<(b.length:Int)) then
  (idx b a.1).bind fun d=>
  (y4v p0.2.2.1 d).bind fun c=>
  if c then
   (app a.2.1 ([a.1]:List Int)).bind fun e=>
   y1z p0 b a e
  else
   y1z p0 b a a.2.1
 else
  some (.inr a.2)
def y3C(p0:AutT):Option AutT:=
 (y5c p0).bind fun b=>
 (y2J p0.1).bind fun c=>
 (iter (y2N p0 b) (0,c.2.2)).bind fun a=>
 some (c.1,(b.length:Int),a)
theorem y9g{p0:AutT}{r:AutT}(hm:y3C p0=some r):
  F0 195 [.a (lx35 p0)] [] (.g [lH 0,lI r.2.1,lH 1,lH 2]) [ROW qI 3 r.1,ROW qI 3 r.2.2.1,ROW qT 124 r.2.2.2]:=by
 unfold y3C at hm;refine Fw.mk2 Tryz.func195 Tryz.ntmps195 R (fun C=>?_) R;refine .sr (.bo 0 R (.al 1 zz35 R (.nr (.op (O.lg (l':=(lx35 p0)) ag35 Z R (.B R) R R R) R (bS hm fun e a0 hm=> .op (O.ca (r':= .h 2) [2] [(0,ROW qI 3 e)] (some 3) (ya6 a0) cf228 R R Z R R R R ⟨⟨_,R,I4⟩,trivial⟩ I3 R) R (.an R (.sr (.fa yT R (.lb nag32 R (bS hm fun m a1 hm=> .op (O.ca (r':= .g [lH 3,lI m.2.1,lH 4,lH 5]) [3,4,5] [(0,ROW qI 3 m.1),(1,ROW qI 3 m.2.2.1),(2,ROW qT 124 m.2.2.2)] (some 6) (y6A a1) cf194 R R Z R R R R ⟨⟨_,R,I4⟩,⟨_,R,I4⟩,⟨_,R,I4⟩,trivial⟩ I3 R) R (.al 6 zz35 R (.st ag35.sz R (.nr (.mv R (.op (O.lenH sl32 Z R R R) R (.fa y2S R (.st nag3.sz R (.ns (.seq (.sr (.an R (.block (bS hm fun s I hm=>?_)))))))))))))))))))))));refine .cut1 (z:= .exit 0) s (fun (s:List Int×EdgL)=>⟨[(4,.q 0 0),(2,.q 4 0)],[(0,.bx 35 [lH 1,lI (e.length:Int),lH 2,lH 3]),(1,ROW qI 3 m.1),(2,ROW qI 3 s.1),(3,ROW qT 124 s.2),(4,.bx 35 [lN,lI 0,lN,lN])],5⟩) ?_ fun X=>?_
 ·skip
  refine .blkE (.seqN (.sr (.op (O.lg (l':=[lH 1,lI (e.length:Int),lH 2,lH 3]) ag35 Z R (.B R) R R R) R (.st ag35.sz R (.ns (.ret ?_))))));cases hm;exact .rr [1,2,3] Tryz.results195 (.cell R R ag35 R .nil) R I3 ⟨⟨_,R,I4⟩,⟨_,R,I4⟩,⟨_,R,I4⟩,trivial⟩
 refine .iter (fun (d:Int×List Int×EdgL)=>⟨[(5,.i d.1),(4,.q 0 0),(3,.h 4),(2,.q 5 0),(1,.q 6 0)],[(0,.bx 35 [lH 1,lI (e.length:Int),lH 2,lH 3]),(1,ROW qI 3 m.1),(2,ROW qI 3 d.2.1),(3,ROW qT 124 d.2.2),(4,ROW qI 3 e),(5,.bx 35 [lN,lI 0,lN,lN]),(6,.bx 35 (lx35 p0))],7⟩) I [(0,6),(1,3),(2,4),(3,5),(4,2),(5,1),(6,0)] R ?_;intro d y hm V T;unfold y2N at hm;refine .seq (.sr (.mv R (.mv R (.op (O.lenH sl32 Z R R R) R (.bi R (.ns ?_))))));refine .cc hm R (fun hm=>?_) fun hm=> .exit (.seqX (.seqX ((X _ (T _ (oi hm).symm)).sub [(4,5)] R)));refine .skip (.seqN (.seq (.block ?_)));refine .join1 (fun (j:List Int)=>y1z p0 e d j=some y) (fun j=>⟨[(5,.i d.1),(4,.q 0 0),(3,.h 4),(2,.q 5 0),(1,.q 6 0)],[(0,.bx 35 [lH 1,lI (e.length:Int),lH 2,lH 3]),(1,ROW qI 3 m.1),(2,ROW qI 3 j),(3,ROW qT 124 d.2.2),(4,ROW qI 3 e),(5,.bx 35 [lN,lI 0,lN,lN]),(6,.bx 35 (lx35 p0))],7⟩) ?_ ?_
 ·intro j hm;unfold y1z at hm;refine .sr (.an R (.block (bS hm fun x J hm=>?_)));refine .cut1 (z:= .exit 2) x (fun (x:EdgL)=>⟨[(5,.i d.1),(4,.q 0 0),(3,.h 4),(2,.q 5 0),(1,.q 6 0)],[(0,.bx 35 [lH 1,lI (e.length:Int),lH 2,lH 3]),(1,ROW qI 3 m.1),(2,ROW qI 3 j),(3,ROW qT 124 x),(4,ROW qI 3 e),(5,.bx 35 [lN,lI 0,lN,lN]),(6,.bx 35 (lx35 p0))],7⟩) ?_ fun Y=>?_
  ·skip
   exact .blkE (.blkN (.seqN (.reg (.mv R (.bi R (.sa R (.nil ((V _ (oi hm).symm).sub [] R))))))))
  refine .iter (fun (f:Int×EdgL)=>⟨[(6,.i f.1),(5,.i d.1),(4,.q 0 0),(3,.h 4),(2,.q 5 0),(1,.q 6 0)],[(0,.bx 35 [lH 1,lI (e.length:Int),lH 2,lH 3]),(1,ROW qI 3 m.1),(2,ROW qI 3 j),(3,ROW qT 124 f.2),(4,ROW qI 3 e),(5,.bx 35 [lN,lI 0,lN,lN]),(6,.bx 35 (lx35 p0))],7⟩) J [] R ?_;intro f D hm W U;unfold y1y at hm;refine .seq (.sr (.mv R (.fa yT R (.lb nag32 R (.ln sl32 R (.bi R (.ns ?_)))))));refine .cc hm R (fun hm=>?_) fun hm=> .exit (.seqX (.seqX ((Y _ (U _ (oi hm).symm)).sub [] R)));refine .skip (.seqN ?_);refine .join1 (fun (o:List (Int×Int×Int))=>y1x f o=some D) (fun o=>⟨[(6,.i f.1),(5,.i d.1),(4,.q 0 0),(3,.h 4),(2,.q 5 0),(1,.q 6 0)],[(0,.bx 35 [lH 1,lI (e.length:Int),lH 2,lH 3]),(1,ROW qI 3 m.1),(2,ROW qI 3 j),(3,ROW qT 124 o),(4,ROW qI 3 e),(5,.bx 35 [lN,lI 0,lN,lN]),(6,.bx 35 (lx35 p0))],7⟩) ?_ ?_
  ·intro o hm;unfold y1x at hm;exact .reg (.mv R (.bi R (.sa R (.nil ((W _ (oi hm).symm).sub [] R)))))
  ·intro u;refine .block (.seq ?_);refine .sub (τ:=⟨[(6,.i f.1),(5,.i d.1),(4,.q 0 0),(3,.h 4),(2,.q 5 0),(1,.q 6 0)],[(0,.bx 35 [lH 1,lI (e.length:Int),lH 2,lH 3]),(1,ROW qI 3 m.1),(2,ROW qI 3 j),(3,ROW qT 124 f.2),(4,ROW qI 3 e),(5,.bx 35 [lN,lI 0,lN,lN]),(6,.bx 35 (lx35 p0))],7⟩) ?_ [] R;refine bS hm fun a4 v hm=>bS hm fun a5 N hm=>bS hm fun F K hm=>?_;refine .drw [(7,[]),(7,[]),(7,[]),(7,[oF,oT,oT]),(7,fA 1 (tT 3)),(7,[]),(7,[oF,oF,oF,oF,oF,oT]),(7,[]),(7,fA 5 (tT 3)),(7,fA 5 (tT 4)),(7,tT 10),(7,tT 11)] [_,_,_,_,_,_,_,_,_,_,_,_] ⟨[(7,.i F),(6,.i f.1),(5,.i d.1),(4,.q 0 0),(3,.h 4),(2,.q 5 0),(1,.q 6 0)],[(0,.bx 35 [lH 1,lI (e.length:Int),lH 2,lH 3]),(1,ROW qI 3 m.1),(2,ROW qI 3 j),(3,ROW qT 124 f.2),(4,ROW qI 3 e),(5,.bx 35 [lN,lI 0,lN,lN]),(6,.bx 35 (lx35 p0))],7⟩ ⟨O.lg (l':=(lx35 p0)) ag35 Z R (.B R) R R R,O.mv Z R R,O.mv Z R R,O.ir sl32 Z R R R v R,O.ld nag3 Z R (.R R v lv3) R R,O.faP yT Z R R,O.ld nag32 Z R (.B R) R R,O.mv Z R R,O.ix sl32 Z R R N R,O.ld nag3 Z R (.E lv3) R R,O.ca0 (yK K) cf55 R R Z R R R,O.as Z R R,trivial⟩ (by kernel_rfl) R ?_;refine .seqN (.sr (.mv R (.bi R (.ns ?_))));refine .cc hm R (fun hm=>?_) fun hm=> .skip (.blkN ((u _ hm).sub [] R));refine .sub (τ:=⟨[(7,.i F),(6,.i f.1),(5,.i d.1),(4,.q 0 0),(3,.h 4),(2,.q 5 0),(1,.q 6 0)],[(0,.bx 35 [lH 1,lI (e.length:Int),lH 2,lH 3]),(1,ROW qI 3 m.1),(2,ROW qI 3 j),(3,ROW qT 124 f.2),(4,ROW qI 3 e),(5,.bx 35 [lN,lI 0,lN,lN]),(6,.bx 35 (lx35 p0))],7⟩) ?_ [] R;refine bS hm fun H P hm=>bS hm fun G L hm=>bS hm fun a3 Q hm=>?_;refine .drg 8 [(7,[]),(7,[oT]),(7,[]),(7,[]),(7,[oF,oF,oF,oT]),(7,[]),(7,fA 3 (tT 3)),(7,fA 3 (tT 4)),(7,[]),(7,[]),(7,[oF,oF,oF,oF,oF,oF,oF,oF,oT,oT]),(7,fA 2 (tT 9)),(7,fA 2 (tT 10)),(7,tT 13),(8,tT 14),(8,tT 15)] [_,_,_,_,_,_,_,_,_,_,_,_,_,_,_,_] ⟨[(6,.i f.1),(5,.i d.1),(4,.q 0 0),(3,.h 4),(2,.q 5 0),(1,.q 6 0)],[(0,.bx 35 [lH 1,lI (e.length:Int),lH 2,lH 7]),(1,ROW qI 3 m.1),(2,ROW qI 3 j),(7,ROW qT 124 a3),(4,ROW qI 3 e),(5,.bx 35 [lN,lI 0,lN,lN]),(6,.bx 35 (lx35 p0))],8⟩ ⟨O.faP y1J Z R R,O.ld nag33 Z R (.B R) R R,O.mv Z R R,O.faP yT Z R R,O.ld nag32 Z R (.B R) R R,O.mv Z R R,O.ix sl32 Z R R P R,O.ld nag3 Z R (.E lv3) R R,O.mv Z R R,O.mv Z R R,O.caZ (ya7 L) cf230 R R Z R ⟨⟨R,.hr R,trivial⟩,⟨R,LnL.rf⟩,trivial⟩ (fun _ _ _ _ _ h=>h) R,O.bu (l:=[lI d.1,lI H,lI G]) pl124 R Z R R R,O.bsF (r:=qT) (zs:=([(d.1,H,G)]:List (Int×Int×Int))) bs33 R R Z R R R (.c (.p .k (.p .k .k)) .n) R R R,O.ap 7 Tryz.underlying33 el124 R R Z R R (.fr R) Q R,O.faP y1J Z R R,O.st nag33.sz Z R R R R R,trivial⟩ (by kernel_rfl) R ?_;exact .blkN ((u _ hm).sub [(3,7)] R)
 ·intro t;refine .seq ?_;refine .sub (τ:=⟨[(5,.i d.1),(4,.q 0 0),(3,.h 4),(2,.q 5 0),(1,.q 6 0)],[(0,.bx 35 [lH 1,lI (e.length:Int),lH 2,lH 3]),(1,ROW qI 3 m.1),(2,ROW qI 3 d.2.1),(3,ROW qT 124 d.2.2),(4,ROW qI 3 e),(5,.bx 35 [lN,lI 0,lN,lN]),(6,.bx 35 (lx35 p0))],7⟩) ?_ [] R;refine bS hm fun a6 w hm=>bS hm fun a2 M hm=>?_;refine .drw [(7,[]),(7,[oT]),(7,[]),(7,[]),(7,[oF,oF,oT,oT]),(7,fA 2 (tT 3)),(7,tT 6)] [_,_,_,_,_,_,_] ⟨[(28,.b a2),(5,.i d.1),(4,.q 0 0),(3,.h 4),(2,.q 5 0),(1,.q 6 0)],[(0,.bx 35 [lH 1,lI (e.length:Int),lH 2,lH 3]),(1,ROW qI 3 m.1),(2,ROW qI 3 d.2.1),(3,ROW qT 124 d.2.2),(4,ROW qI 3 e),(5,.bx 35 [lN,lI 0,lN,lN]),(6,.bx 35 (lx35 p0))],7⟩ ⟨O.faP y6N Z R R,O.ld nag32 Z R (.B R) R R,O.mv Z R R,O.mv Z R R,O.ir sl32 Z R R R w R,O.ld nag3 Z R (.R R w lv3) R R,O.ca0 (y8d M) cf229 R R Z R R R,trivial⟩ (by kernel_rfl) R ?_;exact .seqN (.cc hm R (fun hm=> .reg (.fa y6N R (.lb nag32 R (.mv R (.op (O.bsF (r:=qI) (zs:=([d.1]:List Int)) bs32 R R Z R R R (.c .k .n) R R R) R (bS hm fun a7 S hm=> .op (O.ap 7 Tryz.underlying32 el3 R R Z R R (.fr R) S R) R (.fa y6N R (.st nag32.sz R (.nil ((t _ hm).sub [(2,7)] R)))))))))) fun hm=> .skip ((t _ hm).sub [] R))
def y3b(a:Int×EdgL)(b:List (Int×Int×Int)):Option ((Int×EdgL)⊕EdgL):=
 some (.inl (W (a.1+1),b))
def y4j(p0:List Int)(p1:y1I)(b:Int×List Int×EdgL)(a:Int×EdgL):Option ((Int×EdgL)⊕EdgL):=
 if((decide (a.1<(p0.length:Int)))&&(decide (a.1<5))) then
  (rng b.1 5).bind fun _=>
  (rng a.1 5).bind fun _=>
  (([p1.2.2.1.1,p1.2.2.1.2.1,p1.2.2.1.2.2.1,p1.2.2.1.2.2.2.1,p1.2.2.1.2.2.2.2,p1.2.2.2.1.1,p1.2.2.2.1.2.1,p1.2.2.2.1.2.2.1,p1.2.2.2.1.2.2.2.1,p1.2.2.2.1.2.2.2.2,p1.2.2.2.2.1.1,p1.2.2.2.2.1.2.1,p1.2.2.2.2.1.2.2.1,p1.2.2.2.2.1.2.2.2.1,p1.2.2.2.2.1.2.2.2.2,p1.2.2.2.2.2.1.1,p1.2.2.2.2.2.1.2.1,p1.2.2.2.2.2.1.2.2.1,p1.2.2.2.2.2.1.2.2.2.1,p1.2.2.2.2.2.1.2.2.2.2,p1.2.2.2.2.2.2.1,p1.2.2.2.2.2.2.2.1,p1.2.2.2.2.2.2.2.2.1,p1.2.2.2.2.2.2.2.2.2.1,p1.2.2.2.2.2.2.2.2.2.2]:List Int)[b.1.toNat*5+a.1.toNat*1]?).bind fun c=>
  (nz (W ((W (1+(W (p1.1.tmod 5))))+2))).bind fun _=>
  if decide (((W c).tmod (W ((W (1+(W (p1.1.tmod 5))))+2)))<(W (1+(W (p1.1.tmod 5))))) then
   (idx p0 a.1).bind fun d=>
   (app a.2 ([(b.1,d,((W c).tmod (W ((W (1+(W (p1.1.tmod 5))))+2))))]:List (Int×Int×Int))).bind fun e=>
   y3b a e
  else
   y3b a a.2
 else
  some (.inr a.2)
def y3c(p0:List Int)(p1:y1I)(a:Int×List Int×EdgL)(b:List Int):Option ((Int×List Int×EdgL)⊕(List Int×EdgL)):=
 (iter (y4j p0 p1 a) (0,a.2.2)).bind fun c=>
 some (.inl (W (a.1+1),b,c))
def y4k(p0:List Int)(p1:y1I)(a:Int×List Int×EdgL):Option ((Int×List Int×EdgL)⊕(List Int×EdgL)):=
 if decide (a.1<(W (1+(W (p1.1.tmod 5))))) then
  (ng a.1).bind fun _=>
  if((IntKind.u8.wrap (((BitVec.ofInt 8 (p1.2.1.fdiv (2 ^ (min a.1.toNat 8))) &&& BitVec.ofInt 8 1).toNat:Int)))==1) then
   (app a.2.1 ([a.1]:List Int)).bind fun b=>
   y3c p0 p1 a b
  else
   y3c p0 p1 a a.2.1
 else
  some (.inr a.2)
def y4b(p0:List Int)(p1:y1I):Option AutT:=
 if decide (p1.1≥250) then
  (y2J p0).bind fun d=>
  some d
 else
  (y2J p0).bind fun b=>
  (iter (y4k p0 p1) (0,b.2.2)).bind fun a=>
  (y3C (b.1,W (1+(W (p1.1.tmod 5))),a)).bind fun c=>
  some c
theorem y7R{p0:List Int}{p1:y1I}{r:AutT}(hm:y4b p0 p1=some r):
    F0 143 [.f qI p0,.a (lx26 p1)] [] (.g [lH 0,lI r.2.1,lH 1,lH 2]) [ROW qI 3 r.1,ROW qI 3 r.2.2.1,ROW qT 124 r.2.2.2]:=by
  unfold y4b at hm;refine Fw.mk2 Tryz.func143 Tryz.ntmps143 R (fun C=>?_) R;refine .sr (.bo 0 R (.al 1 zz35 R (.ns (.seq (.sr (.fa yg2 R (.lb nag5 R (.bi R (.ns ?_)))))))));refine .cc hm R (fun hm=>?_) fun hm=>?_
  ·refine .sr (.mv R (bS hm fun G a2 hm=> .op (O.ca (r':= .g [lH 2,lI G.2.1,lH 3,lH 4]) [2,3,4] [(0,ROW qI 3 G.1),(1,ROW qI 3 G.2.2.1),(2,ROW qT 124 G.2.2.2)] (some 5) (y6A a2) cf194 R R Z R R R R ⟨⟨_,R,I4⟩,⟨_,R,I4⟩,⟨_,R,I4⟩,trivial⟩ I3 R) R (.st ag35.sz R (.ns (.ret (.seqR ?_))))));cases hm;exact .rr [2,3,4] Tryz.results143 (.cell R R ag35 R .nil) R I3 ⟨⟨_,R,I4⟩,⟨_,R,I4⟩,⟨_,R,I4⟩,trivial⟩
  ·refine .skip (.seqN (.sr (.mv R (bS hm fun s a3 hm=> .op (O.ca (r':= .g [lH 2,lI s.2.1,lH 3,lH 4]) [2,3,4] [(0,ROW qI 3 s.1),(1,ROW qI 3 s.2.2.1),(2,ROW qT 124 s.2.2.2)] (some 5) (y6A a3) cf194 R R Z R R R R ⟨⟨_,R,I4⟩,⟨_,R,I4⟩,⟨_,R,I4⟩,trivial⟩ I3 R) R (.al 5 zz35 R (.st ag35.sz R (.nr (.fa yg2 R (.lb nag5 R (.op (O.rem Z R R (by decide) R) R (.op (O.cv Tryz.underlying5 Tryz.underlying3 Z R R) R (.bi R (.fa y2S R (.st nag3.sz R (.ns (.seq (.sr (.an R (.block (bS hm fun u L hm=>?_))))))))))))))))))));refine .cut1 (z:= .exit 0) u (fun (u:List Int×EdgL)=>⟨[(5,.q 0 0),(4,.q 4 0)],[(0,.bx 35 [lH 1,lI (W (1+(W (p1.1.tmod 5)))),lH 2,lH 3]),(1,ROW qI 3 s.1),(2,ROW qI 3 u.1),(3,ROW qT 124 u.2),(4,.bx 35 [lN,lI 0,lN,lN])],5⟩) ?_ fun a0=>?_
   · skip
     refine .blkE (.seqN (.sr (.op (O.lg (l':=[lH 1,lI (W (1+(W (p1.1.tmod 5)))),lH 2,lH 3]) ag35 Z R (.B R) R R R) R (bS hm fun v N hm=> .op (O.caY (r':= .g [lH 5,lI v.2.1,lH 6,lH 7]) [5,6,7] [(0,ROW qI 3 v.1),(1,ROW qI 3 v.2.2.1),(2,ROW qT 124 v.2.2.2)] (some 8) (y9g N) cf195 R R Z R R ⟨⟨R,.hr R,.rf,.hr R,.hr R,trivial⟩,trivial⟩ R ⟨.row flr3,.row flr3,.row y5C,trivial⟩ (fun _ _ _ _ h=>h) ⟨⟨_,R,I4⟩,⟨_,R,I4⟩,⟨_,R,I4⟩,trivial⟩ I3 R) R (.st ag35.sz R (.ns (.ret ?_)))))));cases hm;exact .rr [5,6,7] Tryz.results143 (.cell R R ag35 R .nil) R I3 ⟨⟨_,R,I4⟩,⟨_,R,I4⟩,⟨_,R,I4⟩,trivial⟩
   refine .iter (fun (e:Int×List Int×EdgL)=>⟨[(6,.i e.1),(5,.q 0 0),(4,.q 4 0),(3,.q 5 0),(0,.f qI p0)],[(0,.bx 35 [lH 1,lI (W (1+(W (p1.1.tmod 5)))),lH 2,lH 3]),(1,ROW qI 3 s.1),(2,ROW qI 3 e.2.1),(3,ROW qT 124 e.2.2),(4,.bx 35 [lN,lI 0,lN,lN]),(5,.bx 26 (lx26 p1))],6⟩) L [(0,5),(1,2),(2,3),(3,4),(4,1),(5,0)] R ?_;intro e H hm X U;unfold y4k at hm;refine .seq (.sr (.mv R (.fa y2S R (.lb nag3 R (.bi R (.ns ?_))))));refine .cc hm R (fun hm=>?_) fun hm=> .exit (.seqX (.seqX ((a0 _ (U _ (oi hm).symm)).sub [] R)));refine .skip (.seqN (.seq (.block ?_)));refine .join1 (fun (o:List Int)=>y3c p0 p1 e o=some H) (fun o=>⟨[(6,.i e.1),(5,.q 0 0),(4,.q 4 0),(3,.q 5 0),(0,.f qI p0)],[(0,.bx 35 [lH 1,lI (W (1+(W (p1.1.tmod 5)))),lH 2,lH 3]),(1,ROW qI 3 s.1),(2,ROW qI 3 o),(3,ROW qT 124 e.2.2),(4,.bx 35 [lN,lI 0,lN,lN]),(5,.bx 26 (lx26 p1))],6⟩) ?_ ?_
   · intro o hm;unfold y3c at hm;refine .sr (.an R (.block (bS hm fun D M hm=>?_)));refine .cut1 (z:= .exit 2) D (fun (D:EdgL)=>⟨[(6,.i e.1),(5,.q 0 0),(4,.q 4 0),(3,.q 5 0),(0,.f qI p0)],[(0,.bx 35 [lH 1,lI (W (1+(W (p1.1.tmod 5)))),lH 2,lH 3]),(1,ROW qI 3 s.1),(2,ROW qI 3 o),(3,ROW qT 124 D),(4,.bx 35 [lN,lI 0,lN,lN]),(5,.bx 26 (lx26 p1))],6⟩) ?_ fun a1=>?_
     · skip
       exact .blkE (.blkN (.seqN (.reg (.mv R (.bi R (.sa R (.nil ((X _ (oi hm).symm).sub [] R))))))))
     refine .iter (fun (j:Int×EdgL)=>⟨[(7,.i j.1),(6,.i e.1),(5,.q 0 0),(4,.q 4 0),(3,.q 5 0),(0,.f qI p0)],[(0,.bx 35 [lH 1,lI (W (1+(W (p1.1.tmod 5)))),lH 2,lH 3]),(1,ROW qI 3 s.1),(2,ROW qI 3 o),(3,ROW qT 124 j.2),(4,.bx 35 [lN,lI 0,lN,lN]),(5,.bx 26 (lx26 p1))],6⟩) M [] R ?_;intro j I hm Y V;unfold y4j at hm;refine .seq (.sr (.mv R (.mv R (.ln sl32 R (.bi R (.mv R ?_))))));refine .cut 3 (fun (F:Bool)=>((decide (j.1<(p0.length:Int)))&&(decide (j.1<5)))=F) (fun F=>⟨[(47,.b F),(7,.i j.1),(6,.i e.1),(5,.q 0 0),(4,.q 4 0),(3,.q 5 0),(0,.f qI p0)],[(0,.bx 35 [lH 1,lI (W (1+(W (p1.1.tmod 5)))),lH 2,lH 3]),(1,ROW qI 3 s.1),(2,ROW qI 3 o),(3,ROW qT 124 j.2),(4,.bx 35 [lN,lI 0,lN,lN]),(5,.bx 26 (lx26 p1))],6⟩) ?_ ?_
     · rintro _ rfl;refine .ns ?_;refine .cc hm R (fun hm=>?_) fun hm=> .exit (.seqX (.seqX ((a1 _ (V _ (oi hm).symm)).sub [] R)));refine .skip (.seqN ?_);refine .join1 (fun (t:List (Int×Int×Int))=>y3b j t=some I) (fun t=>⟨[(7,.i j.1),(6,.i e.1),(5,.q 0 0),(4,.q 4 0),(3,.q 5 0),(0,.f qI p0)],[(0,.bx 35 [lH 1,lI (W (1+(W (p1.1.tmod 5)))),lH 2,lH 3]),(1,ROW qI 3 s.1),(2,ROW qI 3 o),(3,ROW qT 124 t),(4,.bx 35 [lN,lI 0,lN,lN]),(5,.bx 26 (lx26 p1))],6⟩) ?_ ?_
       · intro t hm;unfold y3b at hm;exact .reg (.mv R (.bi R (.sa R (.nil ((Y _ (oi hm).symm).sub [] R)))))
       · intro y;refine .block (.seq ?_);refine .sub (τ:=⟨[(7,.i j.1),(6,.i e.1),(5,.q 0 0),(4,.q 4 0),(3,.q 5 0),(0,.f qI p0)],[(0,.bx 35 [lH 1,lI (W (1+(W (p1.1.tmod 5)))),lH 2,lH 3]),(1,ROW qI 3 s.1),(2,ROW qI 3 o),(3,ROW qT 124 j.2),(4,.bx 35 [lN,lI 0,lN,lN]),(5,.bx 26 (lx26 p1))],6⟩) ?_ [] R;refine bS hm fun _ a5 hm=>bS hm fun _ a6 hm=>bS hm fun w P hm=>bS hm fun _ a7 hm=>?_;refine .drw [(6,[]),(6,[]),(6,[]),(6,[oT,oF,oT]),(6,tT 4),(6,tT 5),(6,tT 6),(6,[]),(6,[oF,oF,oF,oF,oF,oF,oF,oT]),(6,[oF,oF,oF,oF,oF,oF,oF,oT,oT]),(6,tT 10),(6,tT 11)] [_,_,_,_,_,_,_,_,_,_,_,_] ⟨[(8,.i ((W w).tmod (W ((W (1+(W (p1.1.tmod 5))))+2)))),(7,.i j.1),(6,.i e.1),(5,.q 0 0),(4,.q 4 0),(3,.q 5 0),(0,.f qI p0)],[(0,.bx 35 [lH 1,lI (W (1+(W (p1.1.tmod 5)))),lH 2,lH 3]),(1,ROW qI 3 s.1),(2,ROW qI 3 o),(3,ROW qT 124 j.2),(4,.bx 35 [lN,lI 0,lN,lN]),(5,.bx 26 (lx26 p1))],6⟩ ⟨O.mv Z R R,O.mv Z R R,O.faP yiE Z R R,O.ia ia24 Z R R a5 R,O.ia ia23 Z R R a6 R,O.ldA (off:=2) (k:=e.1.toNat*5+j.1.toNat*1) (m:=25) (cs:=[p1.2.2.1.1,p1.2.2.1.2.1,p1.2.2.1.2.2.1,p1.2.2.1.2.2.2.1,p1.2.2.1.2.2.2.2,p1.2.2.2.1.1,p1.2.2.2.1.2.1,p1.2.2.2.1.2.2.1,p1.2.2.2.1.2.2.2.1,p1.2.2.2.1.2.2.2.2,p1.2.2.2.2.1.1,p1.2.2.2.2.1.2.1,p1.2.2.2.2.1.2.2.1,p1.2.2.2.2.1.2.2.2.1,p1.2.2.2.2.1.2.2.2.2,p1.2.2.2.2.2.1.1,p1.2.2.2.2.2.1.2.1,p1.2.2.2.2.2.1.2.2.1,p1.2.2.2.2.2.1.2.2.2.1,p1.2.2.2.2.2.1.2.2.2.2,p1.2.2.2.2.2.2.1,p1.2.2.2.2.2.2.2.1,p1.2.2.2.2.2.2.2.2.1,p1.2.2.2.2.2.2.2.2.2.1,p1.2.2.2.2.2.2.2.2.2.2]) nag5 Z R R R (by omega) P R,O.cv Tryz.underlying5 Tryz.underlying3 Z R R,O.faP y2S Z R R,O.ld nag3 Z R (.B R) R R,O.bi Z R R R R,O.rem Z R R (yhU a7) R,O.as Z R R,trivial⟩ (by kernel_rfl) R ?_;refine .seqN (.sr (.mv R (.fa y2S R (.lb nag3 R (.bi R (.ns ?_))))));refine .cc hm R (fun hm=>?_) fun hm=> .skip (.blkN ((y _ hm).sub [] R));refine .sub (τ:=⟨[(8,.i ((W w).tmod (W ((W (1+(W (p1.1.tmod 5))))+2)))),(7,.i j.1),(6,.i e.1),(5,.q 0 0),(4,.q 4 0),(3,.q 5 0),(0,.f qI p0)],[(0,.bx 35 [lH 1,lI (W (1+(W (p1.1.tmod 5)))),lH 2,lH 3]),(1,ROW qI 3 s.1),(2,ROW qI 3 o),(3,ROW qT 124 j.2),(4,.bx 35 [lN,lI 0,lN,lN]),(5,.bx 26 (lx26 p1))],6⟩) ?_ [] R;refine bS hm fun K Q hm=>bS hm fun a4 S hm=>?_;refine .drg 7 [(6,[]),(6,[oT]),(6,[]),(6,[]),(6,[]),(6,[oF,oF,oF,oT,oT]),(6,fA 3 (tT 3)),(6,[]),(6,fA 2 (tT 6)),(6,fA 2 (tT 7)),(6,tT 10),(7,tT 11),(7,tT 12)] [_,_,_,_,_,_,_,_,_,_,_,_,_] ⟨[(7,.i j.1),(6,.i e.1),(5,.q 0 0),(4,.q 4 0),(3,.q 5 0),(0,.f qI p0)],[(0,.bx 35 [lH 1,lI (W (1+(W (p1.1.tmod 5)))),lH 2,lH 6]),(1,ROW qI 3 s.1),(2,ROW qI 3 o),(6,ROW qT 124 a4),(4,.bx 35 [lN,lI 0,lN,lN]),(5,.bx 26 (lx26 p1))],7⟩ ⟨O.faP y1J Z R R,O.ld nag33 Z R (.B R) R R,O.mv Z R R,O.mv Z R R,O.mv Z R R,O.ix sl32 Z R R Q R,O.ld nag3 Z R (.E lv3) R R,O.mv Z R R,O.bu (l:=[lI e.1,lI K,lI ((W w).tmod (W ((W (1+(W (p1.1.tmod 5))))+2)))]) pl124 R Z R R R,O.bsF (r:=qT) (zs:=([(e.1,K,((W w).tmod (W ((W (1+(W (p1.1.tmod 5))))+2))))]:List (Int×Int×Int))) bs33 R R Z R R R (.c (.p .k (.p .k .k)) .n) R R R,O.ap 6 Tryz.underlying33 el124 R R Z R R (.fr R) S R,O.faP y1J Z R R,O.st nag33.sz Z R R R R R,trivial⟩ (by kernel_rfl) R ?_
         exact .blkN ((y _ hm).sub [(3,6)] R)
     · intro J;rcases Bool.eq_false_or_eq_true (decide (j.1<(p0.length:Int))) with hc|hc
       · refine .know (d:=44) R hc ?_;exact .op (O.mv (Gu.mk R R) R R) R (.op (O.bi (Gu.mk R R) R R R R) R (.op (O.pkT Z R R R R) R ((J (decide (j.1<5)) (andT hc).symm).sub [] R)))
       · refine .know (d:=44) R hc ?_;exact .sk R (.sk R (.op (O.pkF Z R R R R) R ((J false (andF hc).symm).sub [] R)))
   · intro x;refine .sr (.fa yiD R (.lb nag5 R (.mv R (bS hm fun _ a8 hm=> .op (O.shr Z R R (yeN a8) R) R (.bi R (.bi R (.ns ?_)))))));exact .cc hm R (fun hm=> .reg (.fa y6N R (.lb nag32 R (.mv R (.op (O.bsF (r:=qI) (zs:=([e.1]:List Int)) bs32 R R Z R R R (.c .k .n) R R R) R (bS hm fun a9 T hm=> .op (O.ap 6 Tryz.underlying32 el3 R R Z R R (.fr R) T R) R (.fa y6N R (.st nag32.sz R (.nil ((x _ hm).sub [(2,6)] R)))))))))) fun hm=> .skip ((x _ hm).sub [] R)
def y5o(p0:(Int×y1I)×(Int×y1I)×Int):Option PbT:=
 (y1m p0.1.1).bind fun b=>
 (y4b b p0.1.2).bind fun a=>
 (y1m p0.2.1.1).bind fun c=>
 (y4a c a.1).bind fun d=>
 (y4b d p0.2.1.2).bind fun e=>
 (y1m p0.2.2).bind fun f=>
 some (a,e,f)
theorem yae{p0:(Int×y1I)×(Int×y1I)×Int}{r:PbT}(hm:y5o p0=some r):
  F0 72 [.a (lx30 p0)] [] (.tp [.a [lH 0,lI r.1.2.1,lH 1,lH 2],.a [lH 3,lI r.2.1.2.1,lH 4,lH 5],.h 6]) [ROW qI 3 r.1.1,ROW qI 3 r.1.2.2.1,ROW qT 124 r.1.2.2.2,ROW qI 3 r.2.1.1,ROW qI 3 r.2.1.2.2.1,ROW qT 124 r.2.1.2.2.2,ROW qI 3 r.2.2]:=by
 unfold y5o at hm;refine Fw.mk2 Tryz.func72 Tryz.ntmps72 R (fun C=>?_) R;refine .sr (.bo 0 R (.al 1 zz35 R (.al 2 zz35 R (.an R (.seq ?_)))));refine .sub (τ:=⟨[(3,.q 2 0),(2,.q 1 0),(1,.q 0 0)],[(2,.bx 35 [lN,lI 0,lN,lN]),(1,.bx 35 [lN,lI 0,lN,lN]),(0,.bx 30 (lx30 p0))],3⟩) ?_ [] R;refine bS hm fun n d hm=>bS hm fun b e hm=>?_;refine .drg 7 [(3,[]),(3,[oT]),(3,[oT,oT]),(3,tT 3),(3,[]),(3,[oF,oF,oF,oF,oT]),(3,[oF,oF,oF,oF,oT,oT]),(4,tT 7),(7,tT 8)] [_,_,_,_,_,_,_,_,_] ⟨[(3,.q 2 0),(2,.q 1 0),(1,.q 0 0)],[(2,.bx 35 [lN,lI 0,lN,lN]),(1,.bx 35 [lH 4,lI b.2.1,lH 5,lH 6]),(4,ROW qI 3 b.1),(5,ROW qI 3 b.2.2.1),(6,ROW qT 124 b.2.2.2),(0,.bx 30 (lx30 p0))],7⟩ ⟨O.faP yg5 Z R R,O.faP yg3 Z R R,O.ld nag22 Z R (.B R) R R,O.ca (r':= .h 3) [3] [(0,ROW qI 3 n)] (some 4) (y5K d) cf144 R R Z R R R R ⟨⟨_,R,I4⟩,trivial⟩ I3 R,O.faP yg5 Z R R,O.faP yg4 Z R R,O.lg (l':=(lx26 p0.1.2)) ag26 Z R (.B R) R R R,O.caY (r':= .g [lH 4,lI b.2.1,lH 5,lH 6]) [4,5,6] [(0,ROW qI 3 b.1),(1,ROW qI 3 b.2.2.1),(2,ROW qT 124 b.2.2.2)] (some 7) (y7R e) cf143 R R Z R R ⟨⟨R,.hr R,trivial⟩,⟨R,LnL.rf⟩,trivial⟩ R ⟨.row flr3,.row flr3,.row y5C,trivial⟩ (fun _ _ _ _ h=>h) ⟨⟨_,R,I4⟩,⟨_,R,I4⟩,⟨_,R,I4⟩,trivial⟩ I3 R,O.st ag35.sz Z R R R R R,trivial⟩ (by kernel_rfl) R ?_;refine .seqN (.seq ?_);refine .sub (τ:=⟨[(3,.q 2 0),(2,.q 1 0),(1,.q 0 0)],[(2,.bx 35 [lN,lI 0,lN,lN]),(1,.bx 35 [lH 4,lI b.2.1,lH 5,lH 6]),(4,ROW qI 3 b.1),(5,ROW qI 3 b.2.2.1),(6,ROW qT 124 b.2.2.2),(0,.bx 30 (lx30 p0))],7⟩) ?_ [] R;refine bS hm fun o f hm=>bS hm fun p i hm=>bS hm fun c j hm=>?_;refine .drg 12 [(7,[]),(7,[oT]),(7,[oT,oT]),(7,tT 3),(7,[]),(7,[oF,oF,oF,oF,oT]),(8,tT 6),(7,[]),(7,[oF,oF,oF,oF,oF,oF,oF,oT]),(7,[oF,oF,oF,oF,oF,oF,oF,oT,oT]),(9,tT 10),(12,tT 11)] [_,_,_,_,_,_,_,_,_,_,_,_] ⟨[(3,.q 2 0),(2,.q 1 0),(1,.q 0 0)],[(2,.bx 35 [lH 9,lI c.2.1,lH 10,lH 11]),(9,ROW qI 3 c.1),(10,ROW qI 3 c.2.2.1),(11,ROW qT 124 c.2.2.2),(1,.bx 35 [lH 4,lI b.2.1,lH 5,lH 6]),(4,ROW qI 3 b.1),(5,ROW qI 3 b.2.2.1),(6,ROW qT 124 b.2.2.2),(0,.bx 30 (lx30 p0))],12⟩ ⟨O.faP yg6 Z R R,O.faP yg3 Z R R,O.ld nag22 Z R (.B R) R R,O.ca (r':= .h 7) [7] [(0,ROW qI 3 o)] (some 8) (y5K f) cf144 R R Z R R R R ⟨⟨_,R,I4⟩,trivial⟩ I3 R,O.faP yT Z R R,O.ld nag32 Z R (.B R) R R,O.caY (r':= .h 8) [8] [(0,ROW qI 3 p)] (some 9) (y7Q i) cf145 R R Z R R ⟨⟨R,.hr R,trivial⟩,⟨R,.hr R,trivial⟩,trivial⟩ R ⟨.row flr3,trivial⟩ (fun _ _ _ _ h=>h) ⟨⟨_,R,I4⟩,trivial⟩ I3 R,O.faP yg6 Z R R,O.faP yg4 Z R R,O.lg (l':=(lx26 p0.2.1.2)) ag26 Z R (.B R) R R R,O.caY (r':= .g [lH 9,lI c.2.1,lH 10,lH 11]) [9,10,11] [(0,ROW qI 3 c.1),(1,ROW qI 3 c.2.2.1),(2,ROW qT 124 c.2.2.2)] (some 12) (y7R j) cf143 R R Z R R ⟨⟨R,.hr R,trivial⟩,⟨R,LnL.rf⟩,trivial⟩ R ⟨.row flr3,.row flr3,.row y5C,trivial⟩ (fun _ _ _ _ h=>h) ⟨⟨_,R,I4⟩,⟨_,R,I4⟩,⟨_,R,I4⟩,trivial⟩ I3 R,O.st ag35.sz Z R R R R R,trivial⟩ (by kernel_rfl) R ?_;refine .seqN (.seq ?_);refine .sub (τ:=⟨[(3,.q 2 0),(2,.q 1 0),(1,.q 0 0)],[(2,.bx 35 [lH 9,lI c.2.1,lH 10,lH 11]),(9,ROW qI 3 c.1),(10,ROW qI 3 c.2.2.1),(11,ROW qT 124 c.2.2.2),(1,.bx 35 [lH 4,lI b.2.1,lH 5,lH 6]),(4,ROW qI 3 b.1),(5,ROW qI 3 b.2.2.1),(6,ROW qT 124 b.2.2.2),(0,.bx 30 (lx30 p0))],12⟩) ?_ [] R
 refine bS hm fun m k hm=>?_;refine .drd 13 [(12,[],[]),(12,[],[1]),(12,[],[]),(12,[oF,oF,oT],[]),(12,[oF,oF,oT,oT],[]),(13,[oT,oF,oT,oT,oT],[]),(13,[oT,oT,oT,oT,oT,oT],[]),(13,[oT,oT,oT,oT,oT,oT,oT],[])] [_,_,_,_,_,_,_,_] ⟨[(4,.h 12),(3,.q 2 0),(2,.q 1 0)],[(12,ROW qI 3 m),(2,.bx 35 [lH 9,lI c.2.1,lH 10,lH 11]),(9,ROW qI 3 c.1),(10,ROW qI 3 c.2.2.1),(11,ROW qT 124 c.2.2.2),(1,.bx 35 [lH 4,lI b.2.1,lH 5,lH 6]),(4,ROW qI 3 b.1),(5,ROW qI 3 b.2.2.1),(6,ROW qT 124 b.2.2.2)],13⟩ ⟨O.lg (l':=[lH 4,lI b.2.1,lH 5,lH 6]) ag35 Z R (.B R) R R R,O.lg (l':=[lH 9,lI c.2.1,lH 10,lH 11]) ag35 Z R (.B R) R R R,O.faP yiF Z R R,O.ld nag22 Z R (.B R) R R,O.ca (r':= .h 12) [12] [(0,ROW qI 3 m)] (some 13) (y5K k) cf144 R R Z R R R R ⟨⟨_,R,I4⟩,trivial⟩ I3 R,O.st ag35.sz Z R R R R R,O.st ag35.sz Z R R R R R,O.as Z R R,trivial⟩ (by kernel_rfl) R ?_;refine .seqN (.ret ?_);cases hm;exact .rr [4,5,6,9,10,11,12] Tryz.results72 (.cell R R ag35 R (.cell R R ag35 R (.tmp R .nil))) R I3 ⟨⟨_,R,I4⟩,⟨_,R,I4⟩,⟨_,R,I4⟩,⟨_,R,I4⟩,⟨_,R,I4⟩,⟨_,R,I4⟩,⟨_,R,I4⟩,trivial⟩
def y4l(p0:AutT)(p1:Int)(p2:Int)(a:Int):Option (Int⊕(Unit⊕Int)):=
 if decide (a<(p0.2.2.2.length:Int)) then
  (idx p0.2.2.2 a).bind fun c=>
  (if (c.1==p1) then
   (idx p0.2.2.2 a).bind fun e=>
   some (e.2.1==p2)
  else
   some false).bind fun b=>
  if b then
   (idx p0.2.2.2 a).bind fun d=>
   some (.inr (.inr (d.2.2)))
  else
   some (.inl (W (a+1)))
 else
  some (.inr (.inl ()))
def y4c(p0:AutT)(p1:Int)(p2:Int):Option Int:=
 (iter (y4l p0 p1 p2) 0).bind fun b=>
 match b with
 | .inl c=>
  some (-1)
 | .inr (a)=>
  some a
theorem y7S{p0:AutT}{p2:Int}{r:Int}(hm:y4c p0 p1 p2=some r):
  F0 73 [.a (lx35 p0),.i p1,.i p2] [] (.i r) []:=by
 unfold y4c at hm;refine Fw.mk2 Tryz.func73 Tryz.ntmps73 R (fun C=>?_) R;refine .sr (.bo 0 R (.an R (.seq (.sr (.an R (.block (bS hm fun u s hm=>?_)))))));refine .cutU (z:= .exit 0) (fun f=> .inl f=u) (fun (f:Unit)=>⟨[],[],0⟩) ?_ fun n=>?_
 ·rintro f rfl;dsimp only at hm;refine .blkE (.seqN (.sr (.an R (.ret ?_))));cases hm;exact .rr [] Tryz.results73 (.tmp R .nil) R I3 trivial
 refine .cutU (z:= .ret) (fun c=> .inr (c)=u) (fun (c:Int)=>⟨[(6,.i c)],[],0⟩) ?_ fun o=>?_
 ·rintro c rfl;dsimp only at hm;refine .blkR (.seqR ?_);cases hm;exact .rr [] Tryz.results73 (.tmp R .nil) R I3 trivial
 refine .iter (fun (e:Int)=>⟨[(7,.i e),(3,.q 0 0),(1,.i p1),(2,.i p2)],[(0,.bx 35 (lx35 p0))],1⟩) s [] R ?_;intro e w hm t j;unfold y4l at hm;refine .seq (.sr (.mv R (.fa y1J R (.lb nag33 R (.ln sl33 R (.bi R (.ns ?_)))))));refine .cc hm R (fun hm=>?_) fun hm=> .exit (.seqX (.seqX ((n _ (j _ (oi hm).symm)).sub [] R)));refine .skip (.seqN (.seq (.block (.sr (.fa y1J R (.lb nag33 R (.mv R (bS hm fun x k hm=> .ix sl33 k R (.fe y3r R (.le nag3 lv124 R (.mv R (.bi R (.mv R (bS hm fun p eb16 hm=>?_))))))))))))));refine .cut 9 (fun (g:Bool)=>p=g) (fun g=>⟨[(32,.b g),(7,.i e),(3,.q 0 0),(1,.i p1),(2,.i p2)],[(0,.bx 35 (lx35 p0))],1⟩) ?_ ?_
 ·rintro _ rfl;exact .ns (.cc hm R (fun hm=> .sr (.fa y1J R (.lb nag33 R (.mv R (bS hm fun y l hm=> .ix sl33 l R (.fe y4Y R (.le nag3 lv124 R (.an R (.ret (.blkR (.seqR (.seqR ((o _ (j _ (oi hm).symm)).sub [] R))))))))))))) fun hm=> .skip (.blkN (.seqN (.reg (.mv R (.bi R (.sa R (.nil ((t _ (oi hm).symm).sub [] R)))))))))
 ·intro h;rcases ifS eb16 with ⟨hc,hm⟩|⟨hc,hm⟩
  ·refine .know (d:=23) R hc ?_;exact .op (O.faP y1J (Gu.mk R R) R R) R (.op (O.ld nag33 (Gu.mk R R) R (.B R) R R) R (.op (O.mv (Gu.mk R R) R R) R (bS hm fun v m hm=> .op (O.ix sl33 (Gu.mk R R) R R m R) R (.op (O.faE y4X (Gu.mk R R) R R) R (.op (O.ld nag3 (Gu.mk R R) R (.E lv124) R R) R (.op (O.mv (Gu.mk R R) R R) R (.op (O.bi (Gu.mk R R) R R R R) R (.op (O.pkT Z R R R R) R ((h (v.2.1==p2) (oi hm).symm).sub [] R)))))))))
  ·refine .know (d:=23) R hc ?_;exact .sk R (.sk R (.sk R (.sk R (.sk R (.sk R (.sk R (.sk R (.op (O.pkF Z R R R R) R ((h false (oi hm).symm).sub [] R)))))))))
def y6k(p0:AutT)(p1:List Int)(p2:List Int):Option Int:=
 (y2b p0).bind fun a=>
 if(a != 0) then
  some a
 else
  (y1M p1 p0.2.1).bind fun b=>
  if(b != 0) then
   some b
  else
   (y1M p2 32).bind fun c=>
   some c
theorem ybh{p0:AutT}{p1:List Int}{p2:List Int}{r:Int}(hm:y6k p0 p1 p2=some r):
    F0 146 [.a (lx35 p0),.f qI p1,.f qI p2] [] (.i r) []:=by
  unfold y6k at hm;refine Fw.mk2 Tryz.func146 Tryz.ntmps146 R (fun C=>?_) R;refine .sr (.bo 0 R (.an R (.seq (.sr (.op (O.lg (l':=(lx35 p0)) ag35 Z R (.B R) R R R) R (bS hm fun e b hm=> .c0 (y6y b) cf101 R (.an R (.sr (.mv R (.bi R (.ns ?_)))))))))));refine .cc hm R (fun hm=>?_) fun hm=>?_
  ·refine .sr (.mv R (.an R (.ret (.seqR ?_))));cases hm;exact .rr [] Tryz.results146 (.tmp R .nil) R I3 trivial
  ·refine .skip (.seqN (.seq (.sr (.mv R (.fa y2S R (.lb nag3 R (bS hm fun g c hm=> .c0 (y4Z c) cf25 R (.an R (.sr (.mv R (.bi R (.ns ?_))))))))))));refine .cc hm R (fun hm=>?_) fun hm=>?_
   ·refine .sr (.mv R (.an R (.ret (.seqR ?_))));cases hm;exact .rr [] Tryz.results146 (.tmp R .nil) R I3 trivial
   ·refine .skip (.seqN (.sr (.mv R (bS hm fun h d hm=> .c0 (y4Z d) cf25 R (.an R (.ret ?_))))));cases hm;exact .rr [] Tryz.results146 (.tmp R .nil) R I3 trivial
def y5p(p0:AutT)(a:Int×(List (Int×List Int))):Option ((Int×(List (Int×List Int)))⊕(List (Int×List Int))):=
 if decide (a.1<(p0.2.2.2.length:Int)) then
  (idx p0.2.2.2 a.1).bind fun b=>
  (app ((kget a.2 b.2.2).getD []) ([b.1]:List Int)).bind fun c=>
  some (.inl (W (a.1+1),(kput a.2 b.2.2 c)))
 else
  some (.inr a.2)
def y5q(p1:List Int)(a:Int×List Bool):Option ((Int×List Bool)⊕(List Bool)):=
 if decide (a.1<(p1.length:Int)) then
  (idx p1 a.1).bind fun b=>
  (idx a.2 b).bind fun d=>
  (upd a.2 b false).bind fun c=>
  some (.inl (W (a.1+1),c))
 else
  some (.inr a.2)
def y4d(c:List Bool)(a:Int×List Bool):Option ((Int×List Bool)⊕(List Bool)):=
 if decide (a.1<(c.length:Int)) then
  (idx a.2 a.1).bind fun d=>
  (upd a.2 a.1 true).bind fun b=>
  some (.inl (W (a.1+1),b))
 else
  some (.inr a.2)
def y6l(p0:AutT)(p1:List Int)(p2:List Int):Option (AutT×List Int×(List (Int×List Int))×List Bool):=
 (mkL p0.2.1 false).bind fun c=>
 (iter (y4d c) (0,c)).bind fun d=>
 (iter (y5q p1) (0,d)).bind fun a=>
 (iter (y5p p0) (0,([]:List (Int×List Int)))).bind fun b=>
 some (p0,p2,b,a)
theorem ybi{p0:AutT}{p1:List Int}{p2:List Int}{r:(AutT×List Int×(List (Int×List Int))×List Bool)}(hm:y6l p0 p1 p2=some r):
  F0 197 [.a (lx35 p0),.f qI p1,.f qI p2] [] (.q 0 0) [.bx 289 [lF qI r.1.1,lI r.1.2.1,lF qI r.1.2.2.1,lF qT r.1.2.2.2,lF qI r.2.1,lM kvI (rL qI) r.2.2.1,lH 1],ROW rB 4 r.2.2.2]:=by
 unfold y6l at hm;refine Fw.mk2 Tryz.func197 Tryz.ntmps197 R (fun C=>?_) R;refine .sr (.bo 0 R (.an R (.seq ?_)));refine .sub (τ:=⟨[(3,.q 0 0),(1,.f qI p1),(2,.f qI p2)],[(0,.bx 35 (lx35 p0))],1⟩) ?_ [] R;refine bS hm fun U Q hm=>?_;refine .drw [(1,[]),(1,[]),(1,[]),(1,[]),(1,[oF,oF,oF,oT]),(1,[oF,oF,oF,oT,oT]),(3,tT 6),(3,tT 7),(4,tT 8)] [_,_,_,_,_,_,_,_,_] ⟨[(7,.q 3 0),(3,.q 0 0),(1,.f qI p1)],[(3,.bx 289 [lF qI p0.1,lI p0.2.1,lF qI p0.2.2.1,lF qT p0.2.2.2,lF qI p2,lH 1,lH 2]),(1,MTB flr3 3 none ([]:List (Int×List Int))),(2,ROW rB 4 U),(0,.bx 35 (lx35 p0))],4⟩ ⟨O.lg (l':=(lx35 p0)) ag35 Z R (.B R) R R R,O.mv Z R R,O.mkM flr3 3 1 R Z R,O.faP y2S Z R R,O.ld nag3 Z R (.B R) R R,O.mk (z:=false) 2 Tryz.underlying144 zr4 R R Z R R Q R,O.bu (l:=[lF qI p0.1,lI p0.2.1,lF qI p0.2.2.1,lF qT p0.2.2.2,lF qI p2,lH 1,lH 2]) pl289 R Z R R R,O.box 3 R Z R R R,O.as Z R R,trivial⟩ (by kernel_rfl) R ?_;refine .seqN (.seq (.sr (.mv R (.op (O.nc .B Z R R) R (.fa y6B R (.lb y3i R (.op (O.lenH sl144 Z R R R) R (.mv R (.ns (.block (bS hm fun K P hm=>?_)))))))))));refine .cut1 (z:= .exit 0) K (fun (K:List Bool)=>⟨[(7,.q 0 0),(3,.q 3 0),(1,.f qI p1)],[(0,.bx 289 [lF qI p0.1,lI p0.2.1,lF qI p0.2.2.1,lF qT p0.2.2.2,lF qI p2,lH 1,lH 2]),(1,MTB flr3 3 none ([]:List (Int×List Int))),(2,ROW rB 4 K),(3,.bx 35 (lx35 p0))],4⟩) ?_ fun L=>?_
 ·skip
  refine .blkE (.seqN (.seq (.sr (.mv R (.ln sl32 R (.mv R (.ns (.block (bS hm fun h u hm=>?_)))))))));refine .cut1 (z:= .exit 2) h (fun (h:List Bool)=>⟨[(7,.q 0 0),(3,.q 3 0)],[(0,.bx 289 [lF qI p0.1,lI p0.2.1,lF qI p0.2.2.1,lF qT p0.2.2.2,lF qI p2,lH 1,lH 2]),(1,MTB flr3 3 none ([]:List (Int×List Int))),(2,ROW rB 4 h),(3,.bx 35 (lx35 p0))],4⟩) ?_ fun M=>?_
  ·skip
   refine .blkE (.seqN (.seq (.sr (.fa y1J R (.lb nag33 R (.ln sl33 R (.mv R (.ns (.block (bS hm fun s v hm=>?_))))))))));refine .cut1 (z:= .exit 4) s (fun (s:(List (Int×List Int)))=>⟨[(7,.q 0 0)],[(0,.bx 289 [lF qI p0.1,lI p0.2.1,lF qI p0.2.2.1,lF qT p0.2.2.2,lF qI p2,lH 1,lH 2]),(1,MTB flr3 3 none s),(2,ROW rB 4 h)],3⟩) ?_ fun N=>?_
   ·skip
    refine .blkE (.seqN (.sr (.mv R (.an R (.ret (.fz 1 [] [0] R R fMt R R ?_))))));cases hm;exact .rr [0,2] Tryz.results197 (.tmp R .nil) R I3 ⟨⟨_,R,I4⟩,⟨_,R,I4⟩,trivial⟩
   refine .iter (fun (g:Int×(List (Int×List Int)))=>⟨[(52,.i g.1),(51,.i (p0.2.2.2.length:Int)),(50,.f qT p0.2.2.2),(7,.q 0 0)],[(0,.bx 289 [lF qI p0.1,lI p0.2.1,lF qI p0.2.2.1,lF qT p0.2.2.2,lF qI p2,lH 1,lH 2]),(1,MTB flr3 3 none g.2),(2,ROW rB 4 h)],3⟩) v [] R ?_;intro g X hm J H;unfold y5p at hm;refine .sr (.bi R (.ns (.seq ?_)));refine .cc hm R (fun hm=>?_) fun hm=> .exit (.seqX (.seqX ((N _ (H _ (oi hm).symm)).sub [] R)));refine .skip (.seqN (.seq (.block (.sr (bS hm fun d w hm=> .ix sl33 w R (.op (O.lg (l':=[lI d.1,lI d.2.1,lI d.2.2]) ag124 Z R (.E lv124) R R R) R (.al 3 zz124 R (.st ag124.sz R (.ns ?_)))))))));refine .sub (τ:=⟨[(12,.q 3 0),(52,.i g.1),(51,.i (p0.2.2.2.length:Int)),(50,.f qT p0.2.2.2),(7,.q 0 0)],[(3,.bx 124 [lI d.1,lI d.2.1,lI d.2.2]),(0,.bx 289 [lF qI p0.1,lI p0.2.1,lF qI p0.2.2.1,lF qT p0.2.2.2,lF qI p2,lH 1,lH 2]),(1,MTB flr3 3 none g.2),(2,ROW rB 4 h)],4⟩) ?_ [] R;refine bS hm fun V x hm=>?_;refine .drz 6 [(12,1),(12,4),(16,5)] [(4,[],[1],[]),(4,[oT],[1],[]),(4,[oT,oT],[1],[]),(4,[oT,oT,oT],[1],[]),(4,[],[1],[]),(4,[oF,oF,oF,oF,oT],[1],[]),(4,[],[],[]),(4,[oF,oF,oF,oF,oF,oF,oT],[],[]),(4,[oF,oF,oF,oF,oF,oF,oT,oT],[],[]),(4,[oF,oF,oF,oF,oF,oF,oT,oT,oT],[],[]),(4,[],[],[]),(4,[oF,oF,oF,oF,oF,oF,oF,oF,oF,oF,oT],[],[]),(4,[oF,oF,oF,oF,oF,oF,oT,oT,oT,oT,oT,oT],[],[]),(4,[],[1],[]),(4,[oF,oF,oF,oF,oF,oF,oF,oF,oF,oF,oF,oF,oF,oT],[1],[]),(4,[oF,oF,oF,oF,oF,oF,oF,oF,oF,oF,oF,oF,oF,oT,oT],[1],[]),(5,[oF,oF,oF,oF,oF,oF,oT,oT,oT,oT,oT,oT,oT,oT,oT,oT],[],[]),(6,[oT,oT,oT,oT,oT,oT,oT,oT,oT,oT,oT,oT,oT,oT,oT,oT,oT],[],[(12,4)])] [_,_,_,_,_,_,_,_,_,_,_,_,_,_,_,_,_,_] ⟨[(52,.i g.1),(51,.i (p0.2.2.2.length:Int)),(50,.f qT p0.2.2.2),(7,.q 0 0)],[(0,.bx 289 [lF qI p0.1,lI p0.2.1,lF qI p0.2.2.1,lF qT p0.2.2.2,lF qI p2,lH 1,lH 2]),(1,MTB flr3 3 none (kput g.2 d.2.2 V)),(2,ROW rB 4 h)],6⟩ ⟨O.mv Z R R,O.nc .B Z R R,O.faP yd4 Z R R,O.ld yec Z R (.B R) R R,O.faP y4Y Z R R,O.ld nag3 Z R (.B R) R R,O.mv Z R R,O.nc .B Z R R,O.faP yd4 Z R R,O.ld yec Z R (.B R) R R,O.faP y4Y Z R R,O.ld nag3 Z R (.B R) R R,O.luM (k:=d.2.2) 4 ycF R Z R R (.o R) R,O.faP y3r Z R R,O.ld nag3 Z R (.B R) R R,O.bsF (r:=qI) (zs:=([d.1]:List Int)) bs32 R R Z R R R (.c .k .n) R R R,O.ap 5 Tryz.underlying32 el3 R R Z R R (.fr R) x R,O.muM (k:=d.2.2) ycF Z R R (.o R) R R R (fun _ e=>by cases e;rfl),trivial⟩ (by kernel_rfl) R ?_;exact .blkN (.seqN (.reg (.bi R (.mv R (.nil ((J _ (oi hm).symm).sub [] R))))))
  refine .iter (fun (j:Int×List Bool)=>⟨[(38,.i j.1),(37,.i (p1.length:Int)),(36,.f qI p1),(7,.q 0 0),(3,.q 3 0)],[(0,.bx 289 [lF qI p0.1,lI p0.2.1,lF qI p0.2.2.1,lF qT p0.2.2.2,lF qI p2,lH 1,lH 2]),(1,MTB flr3 3 none ([]:List (Int×List Int))),(2,ROW rB 4 j.2),(3,.bx 35 (lx35 p0))],4⟩) u [] R ?_;intro j W hm I G;unfold y5q at hm;refine .sr (.bi R (.ns (.seq ?_)));exact .cc hm R (fun hm=> .skip (.seqN (.seq (.block (.sr (bS hm fun a0 y hm=> .ix sl32 y R (.le nag3 lv3 R (.an R (.reg (.mv R (.op (O.nc .B Z R R) R (.fa y6B R (.lb y3i R (.mv R (bS hm fun a1 m hm=> .op (O.ir sl144 Z R R R m R) R (bS hm fun a2 D hm=> .op (O.su (z:=false) nag4.sz Z R R m D R R R lv4 R .b) R (.nil (.blkN (.seqN (.reg (.bi R (.mv R (.nil ((I _ (oi hm).symm).sub [] R)))))))))))))))))))))))) fun hm=> .exit (.seqX (.seqX ((M _ (G _ (oi hm).symm)).sub [] R)))
 refine .iter (fun (t:Int×List Bool)=>⟨[(26,.i t.1),(25,.i (U.length:Int)),(7,.q 0 0),(3,.q 3 0),(1,.f qI p1)],[(0,.bx 289 [lF qI p0.1,lI p0.2.1,lF qI p0.2.2.1,lF qT p0.2.2.2,lF qI p2,lH 1,lH 2]),(1,MTB flr3 3 none ([]:List (Int×List Int))),(2,ROW rB 4 t.2),(3,.bx 35 (lx35 p0))],4⟩) P [(0,3),(3,0)] R ?_;intro t Y hm T S;unfold y4d at hm;refine .sr (.bi R (.ns (.seq ?_)));exact .cc hm R (fun hm=> .skip (.seqN (.seq (.block (.sr (.mv R (.an R (.reg (.mv R (.op (O.nc .B Z R R) R (.fa y6B R (.lb y3i R (.mv R (bS hm fun a3 p hm=> .op (O.ir sl144 Z R R R p R) R (bS hm fun a4 F hm=> .op (O.su (z:=true) nag4.sz Z R R p F R R R lv4 R .b) R (.nil (.blkN (.seqN (.reg (.bi R (.mv R (.nil ((T _ (oi hm).symm).sub [] R))))))))))))))))))))))) fun hm=> .exit (.seqX (.seqX ((L _ (S _ (oi hm).symm)).sub [] R)))
def y1g(a:Int×(List (Int×Int×Int×Int)))(b:List (Int×Int×Int×Int)):Option ((Int×(List (Int×Int×Int×Int)))⊕(List (Int×Int×Int×Int))):=
 some (.inl (W (a.1+1),b))
def y1O(p1:Int)(a:Int×(List (Int×Int×Int×Int)))(b:Int×Int×Int)(c:Bool):Option ((Int×(List (Int×Int×Int×Int)))⊕(List (Int×Int×Int×Int))):=
 if c then
  y1g a a.2
 else
  (app a.2 ([(b.1,p1,2,b.2.1)]:List (Int×Int×Int×Int))).bind fun d=>
  y1g a d
def yI(p1:Int)(a:Int×(List (Int×Int×Int×Int)))(b:Int×Int×Int)(c:Bool):Option ((Int×(List (Int×Int×Int×Int)))⊕(List (Int×Int×Int×Int))):=
 if c then
  y1g a a.2
 else
  if decide ((a.2.length:Int)>0) then
   (idx a.2 (W ((a.2.length:Int)-1))).bind fun d=>
   y1O p1 a b (d.1==b.1)
  else
   y1O p1 a b false
def y2U(p0:AutT×List Int×(List (Int×List Int))×List Bool)(p1:Int)(a:Int×(List (Int×Int×Int×Int))):Option ((Int×(List (Int×Int×Int×Int)))⊕(List (Int×Int×Int×Int))):=
 if decide (a.1<(p0.1.2.2.2.length:Int)) then
  (idx p0.1.2.2.2 a.1).bind fun b=>
  (idx p0.2.2.2 b.1).bind fun d=>
  if(!d) then
   yI p1 a b true
  else
   (idx p0.2.2.2 b.2.2).bind fun e=>
   if e then
    yI p1 a b true
   else
    (ye p0.2.1 b.2.1).bind fun c=>
    yI p1 a b (!c)
 else
  some (.inr a.2)
def y3S(p0:AutT×List Int×(List (Int×List Int))×List Bool)(p1:Int):Option (List (Int×Int×Int×Int)):=
 (iter (y2U p0 p1) (0,([]:List (Int×Int×Int×Int)))).bind fun a=>
 some a
theorem y9s{r:(List (Int×Int×Int×Int))}(hm:y3S p0 p1=some r):
  F0 231 [.o (lQ 289 (lx289 p0) 0),.i p1] [] (.h 0) [ROW rE286 286 r]:=by
 unfold y3S at hm;refine Fw.mk2 Tryz.func231 Tryz.ntmps231 R (fun C=>?_) R;refine .sr (.an R (.sr (.an R (.seq (.sr (.mv R (.op (O.nc .Q Z R R) R (.fq y8a R (.fq y1J R (.lq nag33 R (.ln sl33 R (.mv R (.ns (.block (bS hm fun H I hm=>?_)))))))))))))));refine .cut1 (z:= .exit 0) H (fun (H:(List (Int×Int×Int×Int)))=>⟨[(5,.h 0)],[(0,ROW rE286 286 H)],1⟩) ?_ fun T=>?_
 ·skip
  refine .blkE (.seqN (.sr (.mv R (.an R (.ret ?_)))));cases hm;exact .rr [0] Tryz.results231 (.tmp R .nil) R I3 ⟨⟨_,R,I4⟩,trivial⟩
 refine .nlg rE286 286 5 0 R R (.iter (fun (d:Int×(List (Int×Int×Int×Int)))=>⟨[(15,.i d.1),(14,.i (p0.1.2.2.2.length:Int)),(13,.f qT p0.1.2.2.2),(5,.h 0),(0,.o (lQ 289 (lx289 p0) 0)),(1,.i p1)],[(0,ROW rE286 286 d.2)],1⟩) I [] R ?_);intro d e hm S P;unfold y2U at hm;refine .sr (.bi R (.ns (.seq ?_)));refine .cc hm R (fun hm=>?_) fun hm=> .exit (.seqX (.seqX ((T _ (P _ (oi hm).symm)).sub [] R)));refine .skip (.seqN ?_);refine .join1 (fun (w:List (Int×Int×Int×Int))=>y1g d w=some e) (fun w=>⟨[(15,.i d.1),(14,.i (p0.1.2.2.2.length:Int)),(13,.f qT p0.1.2.2.2),(5,.h 0),(0,.o (lQ 289 (lx289 p0) 0)),(1,.i p1)],[(0,ROW rE286 286 w)],1⟩) ?_ ?_
 ·intro w hm;unfold y1g at hm;exact .reg (.bi R (.mv R (.nil ((S _ (oi hm).symm).sub [] R))))
 ·intro g;refine .block (.sr (bS hm fun a K hm=> .ix sl33 K R (.op (O.lg (l':=[lI a.1,lI a.2.1,lI a.2.2]) ag124 Z R (.E lv124) R R R) R (.al 1 zz124 R (.st ag124.sz R (.ns (.seq ?_)))))));refine .join1 (fun (u:Bool)=>yI p1 d a u=some e) (fun u=>⟨[(47,.b u),(7,.q 0 0),(15,.i d.1),(14,.i (p0.1.2.2.2.length:Int)),(13,.f qT p0.1.2.2.2),(5,.h 1),(0,.o (lQ 289 (lx289 p0) 0)),(1,.i p1)],[(0,.bx 124 [lI a.1,lI a.2.1,lI a.2.2]),(1,ROW rE286 286 d.2)],2⟩) ?_ ?_
  ·intro u hm;unfold yI at hm;refine .cc hm R (fun hm=> .exit (.seqX (.blkE ((g _ hm).sub [(0,1)] R)))) fun hm=>?_;refine .skip (.seqN (.seq (.sr (.mv R (.op (O.lenH sl127 Z R R R) R (.an R ?_))))));refine .join1 (fun (v:Bool)=>y1O p1 d a v=some e) (fun v=>⟨[(62,.b v),(7,.q 0 0),(15,.i d.1),(14,.i (p0.1.2.2.2.length:Int)),(13,.f qT p0.1.2.2.2),(5,.h 1),(0,.o (lQ 289 (lx289 p0) 0)),(1,.i p1)],[(0,.bx 124 [lI a.1,lI a.2.1,lI a.2.2]),(1,ROW rE286 286 d.2)],2⟩) ?_ ?_
   ·intro v hm;unfold y1O at hm;exact .cc hm R (fun hm=> .exit (.seqX (.blkE ((g _ hm).sub [(0,1)] R)))) fun hm=> .skip (.seqN (.reg (.mv R (.fa y3r R (.lb nag3 R (.mv R (.fa y4X R (.lb nag3 R (.op (O.bu (l:=[lI a.1,lI p1,lI 2,lI a.2.1]) pl286 R Z R R R) R (.op (O.bsF (r:=rE286) (zs:=([(a.1,p1,2,a.2.1)]:List (Int×Int×Int×Int))) bs127 R R Z R R R (.c (.p .k (.p .k (.p .k .k))) .n) R R R) R (bS hm fun W L hm=> .op (O.ap 2 Tryz.underlying127 el286 R R Z R R (.fr R) L R) R (.sa R (.nil (.blkN ((g _ hm).sub [(0,2)] R)))))))))))))))
   ·intro x;refine .sub (τ:=⟨[(8,.i (d.2.length:Int)),(7,.q 0 0),(15,.i d.1),(14,.i (p0.1.2.2.2.length:Int)),(13,.f qT p0.1.2.2.2),(5,.h 1),(0,.o (lQ 289 (lx289 p0) 0)),(1,.i p1)],[(0,.bx 124 [lI a.1,lI a.2.1,lI a.2.2]),(1,ROW rE286 286 d.2)],2⟩) ?_ [] R;refine .drP 2 [(2,[]),(2,[oT])] [_,_] ⟨O.mv Z R R,O.bi Z R R R R,trivial⟩ fun D=>?_;rcases ifS hm with ⟨m,hm⟩|⟨m,hm⟩
    ·skip
     exact bS hm fun V y hm=> .drF D [(2,[oT,oT]),(2,tT 3),(2,tT 3),(2,tA 3 (fA 1 (tT 1))),(2,tT 6),(2,tT 7),(2,tT 8),(2,tT 3),(2,tA 3 (fA 6 (tT 1))),(2,tT 11),(2,tT 12)] [_,_,_,_,_,_,_,_,_,_,_] ⟨[(62,.b (V.1==a.1)),(7,.q 0 0),(15,.i d.1),(14,.i (p0.1.2.2.2.length:Int)),(13,.f qT p0.1.2.2.2),(5,.h 1),(0,.o (lQ 289 (lx289 p0) 0)),(1,.i p1)],[(0,.bx 124 [lI a.1,lI a.2.1,lI a.2.2]),(1,ROW rE286 286 d.2)],2⟩ ⟨O.kn (O.mv Z R R) m,O.mv (Gu.mk R R) R R,O.mv (Gu.mk R R) R R,O.bi (Gu.mk R R) R R R R,O.ir sl127 (Gu.mk R R) R R R y R,O.faR yeX (Gu.mk R R) R R,O.ld nag3 (Gu.mk R R) R (.R R y lv286) R R,O.faP y3r (Gu.mk R R) R R,O.ld nag3 (Gu.mk R R) R (.B R) R R,O.bi (Gu.mk R R) R R R R,O.pkT Z R R R R,trivial⟩ (by kernel_rfl) R ((x _ hm).sub [] R)
    ·skip
     exact .drF D [(2,[oT,oT]),(2,tT 3),(2,tT 3),(2,tA 3 (fA 1 (tT 1))),(2,tT 6),(2,tT 7),(2,tT 8),(2,tT 3),(2,tA 3 (fA 6 (tT 1))),(2,tT 11),(2,tT 12)] [_,_,_,_,_,_,_,_,_,_,_] ⟨[(62,.b false),(7,.q 0 0),(15,.i d.1),(14,.i (p0.1.2.2.2.length:Int)),(13,.f qT p0.1.2.2.2),(5,.h 1),(0,.o (lQ 289 (lx289 p0) 0)),(1,.i p1)],[(0,.bx 124 [lI a.1,lI a.2.1,lI a.2.2]),(1,ROW rE286 286 d.2)],2⟩ ⟨O.kn (O.mv Z R R) m,O.skip R R R R,O.skip R R R R,O.skip R R R R,O.skip R R R R,O.skip R R R R,O.skip R R R R,O.skip R R R R,O.skip R R R R,O.skip R R R R,O.pkF Z R R R R,trivial⟩ (by kernel_rfl) R ((x _ hm).sub [] R)
  ·intro j;refine .sub (τ:=⟨[(7,.q 1 0),(15,.i d.1),(14,.i (p0.1.2.2.2.length:Int)),(13,.f qT p0.1.2.2.2),(5,.h 0),(0,.o (lQ 289 (lx289 p0) 0)),(1,.i p1)],[(1,.bx 124 [lI a.1,lI a.2.1,lI a.2.2]),(0,ROW rE286 286 d.2)],2⟩) ?_ [] R;refine bS hm fun X M hm=> .drP 9 [(2,[]),(2,[oT]),(2,[oT,oT]),(2,tT 3),(2,[]),(2,[oF,oF,oF,oF,oT]),(2,tT 6),(2,tT 7),(2,tT 8)] [_,_,_,_,_,_,_,_,_] ⟨O.mv Z R R,O.nc .Q Z R R,O.faQ y6B Z R R,O.ld y3i Z R .Q R R,O.faP y3r Z R R,O.ld nag3 Z R (.B R) R R,O.ix sl144 Z R R M R,O.ld nag4 Z R (.E lv4) R R,O.not Z R R,trivial⟩ fun F=>?_;rcases ifS hm with ⟨s,hm⟩|⟨s,hm⟩
   ·skip
    exact .drF F [(2,tT 9),(2,tT 10),(2,tT 11),(2,tT 12),(2,tT 13),(2,tT 10),(2,tA 10 (fA 4 (tT 1))),(2,tT 16),(2,tT 17),(2,tT 18),(2,tT 19),(2,tT 20),(2,tT 21),(2,tT 22),(2,tT 23),(2,tT 20),(2,tA 20 (fA 4 (tT 1))),(2,tT 26),(2,tT 27),(2,tT 28)] [_,_,_,_,_,_,_,_,_,_,_,_,_,_,_,_,_,_,_,_] ⟨[(47,.b true),(7,.q 1 0),(15,.i d.1),(14,.i (p0.1.2.2.2.length:Int)),(13,.f qT p0.1.2.2.2),(5,.h 0),(0,.o (lQ 289 (lx289 p0) 0)),(1,.i p1)],[(1,.bx 124 [lI a.1,lI a.2.1,lI a.2.2]),(0,ROW rE286 286 d.2)],2⟩ ⟨O.kn (O.mv Z R R) s,O.skip R R R R,O.skip R R R R,O.skip R R R R,O.skip R R R R,O.skip R R R R,O.skip R R R R,O.skip R R R R,O.skip R R R R,O.pkT Z R R R R,O.mv Z R R,O.skip R R R R,O.skip R R R R,O.skip R R R R,O.skip R R R R,O.skip R R R R,O.skip R R R R,O.skip R R R R,O.skip R R R R,O.pkT Z R R R R,trivial⟩ (by kernel_rfl) R ((j _ hm).sub [(0,1),(1,0)] R)
   ·skip
    refine bS hm fun Y N hm=> .drX F 19 [(2,tT 9),(2,tT 10),(2,tT 11),(2,tT 12),(2,tT 13),(2,tT 10),(2,tA 10 (fA 4 (tT 1))),(2,tT 16),(2,tT 17),(2,tT 18)] [_,_,_,_,_,_,_,_,_,_] ⟨O.kn (O.mv Z R R) s,O.mv (Gu.mk R R) R R,O.nc .Q (Gu.mk R R) R R,O.faQ y6B (Gu.mk R R) R R,O.ld y3i (Gu.mk R R) R .Q R R,O.faP y4Y (Gu.mk R R) R R,O.ld nag3 (Gu.mk R R) R (.B R) R R,O.ix sl144 (Gu.mk R R) R R N R,O.ld nag4 (Gu.mk R R) R (.E lv4) R R,O.pkF Z R R R R,trivial⟩ (by kernel_rfl) fun G=>?_;rcases ifS hm with ⟨t,hm⟩|⟨t,hm⟩
    ·skip
     exact .drF G [(2,tT 19),(2,tT 20),(2,tT 21),(2,tT 22),(2,tT 23),(2,tT 20),(2,tA 20 (fA 4 (tT 1))),(2,tT 26),(2,tT 27),(2,tT 28)] [_,_,_,_,_,_,_,_,_,_] ⟨[(47,.b true),(7,.q 1 0),(15,.i d.1),(14,.i (p0.1.2.2.2.length:Int)),(13,.f qT p0.1.2.2.2),(5,.h 0),(0,.o (lQ 289 (lx289 p0) 0)),(1,.i p1)],[(1,.bx 124 [lI a.1,lI a.2.1,lI a.2.2]),(0,ROW rE286 286 d.2)],2⟩ ⟨O.kn (O.mv Z R R) t,O.skip R R R R,O.skip R R R R,O.skip R R R R,O.skip R R R R,O.skip R R R R,O.skip R R R R,O.skip R R R R,O.skip R R R R,O.pkT Z R R R R,trivial⟩ (by kernel_rfl) R ((j _ hm).sub [(0,1),(1,0)] R)
    ·skip
     exact bS hm fun U J hm=> .drF G [(2,tT 19),(2,tT 20),(2,tT 21),(2,tT 22),(2,tT 23),(2,tT 20),(2,tA 20 (fA 4 (tT 1))),(2,tT 26),(2,tT 27),(2,tT 28)] [_,_,_,_,_,_,_,_,_,_] ⟨[(47,.b (!U)),(7,.q 1 0),(15,.i d.1),(14,.i (p0.1.2.2.2.length:Int)),(13,.f qT p0.1.2.2.2),(5,.h 0),(0,.o (lQ 289 (lx289 p0) 0)),(1,.i p1)],[(1,.bx 124 [lI a.1,lI a.2.1,lI a.2.2]),(0,ROW rE286 286 d.2)],2⟩ ⟨O.kn (O.mv Z R R) t,O.mv (Gu.mk R R) R R,O.nc .Q (Gu.mk R R) R R,O.faQ yi7 (Gu.mk R R) R R,O.ld nag32 (Gu.mk R R) R .Q R R,O.faP y4X (Gu.mk R R) R R,O.ld nag3 (Gu.mk R R) R (.B R) R R,O.ca0 (yg J) cf104 R R (Gu.mk R R) R R R,O.not (Gu.mk R R) R R,O.pkF Z R R R R,trivial⟩ (by kernel_rfl) R ((j _ hm).sub [(0,1),(1,0)] R)
def yW(c:Int×List Int×List Int)(a:List Int)(b:List Int):Option ((Int×List Int×List Int)⊕(List Int×List Int)):=
 some (.inl (W (c.1+1),a,b))
def yX(p0:AutT×List Int×(List (Int×List Int))×List Bool)(e:Int×List Int×List Int)(c:Int)(a:Int×List Int×List Int):Option ((Int×List Int×List Int)⊕(List Int×List Int)):=
 if decide (a.1<(((kget p0.2.2.1 c).getD []).length:Int)) then
  (idx ((kget p0.2.2.1 c).getD []) a.1).bind fun b=>
  (idx p0.2.2.2 b).bind fun f=>
  (if f then
   (idx a.2.2 b).bind fun k=>
   some (decide (k<0))
  else
   some false).bind fun d=>
  if d then
   (idx a.2.1 e.1).bind fun g=>
   (idx a.2.2 g).bind fun h=>
   (idx a.2.2 b).bind fun l=>
   (upd a.2.2 b (W (h+1))).bind fun i=>
   (app a.2.1 ([b]:List Int)).bind fun j=>
   yW a j i
  else
   yW a a.2.1 a.2.2
 else
  some (.inr a.2)
def yY(p0:AutT×List Int×(List (Int×List Int))×List Bool)(a:Int×List Int×List Int):Option ((Int×List Int×List Int)⊕(List Int)):=
 if decide (a.1<(a.2.1.length:Int)) then
  (idx a.2.1 a.1).bind fun c=>
  (iter (yX p0 a c) (0,a.2)).bind fun b=>
  some (.inl (W (a.1+1),b))
 else
  some (.inr a.2.2)
def yZ(c:Int×List Int×List Int)(a:List Int)(b:List Int):Option ((Int×List Int×List Int)⊕(List Int×List Int)):=
 some (.inl (W (c.1+1),a,b))
def y1a(p0:AutT×List Int×(List (Int×List Int))×List Bool)(a:Int×List Int×List Int):Option ((Int×List Int×List Int)⊕(List Int×List Int)):=
 if decide (a.1<(p0.1.2.2.1.length:Int)) then
  (idx p0.1.2.2.1 a.1).bind fun b=>
  (idx p0.2.2.2 b).bind fun c=>
  if c then
   (idx a.2.2 b).bind fun f=>
   (upd a.2.2 b 0).bind fun d=>
   (app a.2.1 ([b]:List Int)).bind fun e=>
   yZ a e d
  else
   yZ a a.2.1 a.2.2
 else
  some (.inr a.2)
def y1b(c:List Int)(a:Int×List Int):Option ((Int×List Int)⊕(List Int)):=
 if decide (a.1<(c.length:Int)) then
  (idx a.2 a.1).bind fun d=>
  (upd a.2 a.1 (-1)).bind fun b=>
  some (.inl (W (a.1+1),b))
 else
  some (.inr a.2)
def y1r(p0:AutT×List Int×(List (Int×List Int))×List Bool):Option (List Int):=
 (mkL p0.1.2.1 (0:Int)).bind fun c=>
 (iter (y1b c) (0,c)).bind fun d=>
 (iter (y1a p0) (0,([]:List Int),d)).bind fun a=>
 (iter (yY p0) (0,a)).bind fun b=>
 some b
theorem y6z{r:List Int}(hm:y1r p0=some r):
  F0 201 [.o (lQ 289 (lx289 p0) 0)] [] (.h 0) [ROW qI 3 r]:=by
 unfold y1r at hm;refine Fw.mk2 Tryz.func201 Tryz.ntmps201 R (fun C=>?_) R;refine .sr (.an R (.sr (.mv R (.op (O.nc .Q Z R R) R (.fq y8a R (.fq y2S R (.lq nag3 R (bS hm fun x1 b9 hm=> .op (O.mk (z:=(0:Int)) 0 Tryz.underlying32 zr3 R R Z R R b9 R) R (.an R (.seq (.sr (.mv R (.op (O.lenH sl32 Z R R R) R (.mv R (.ns (.block (bS hm fun o8 b8 hm=>?_)))))))))))))))));refine .cut1 (z:= .exit 0) o8 (fun (o8:List Int)=>⟨[(3,.h 0),(0,.o (lQ 289 (lx289 p0) 0))],[(0,ROW qI 3 o8)],1⟩) ?_ fun b5=>?_
 ·skip
  refine .blkE (.seqN (.sr (.an R (.seq (.sr (.mv R (.op (O.nc .Q Z R R) R (.fq y8a R (.fq y6N R (.lq nag32 R (.ln sl32 R (.mv R (.ns (.block (bS hm fun E a3 hm=>?_)))))))))))))));refine .cut1 (z:= .exit 2) E (fun (E:List Int×List Int)=>⟨[(5,.h 0),(3,.h 1),(0,.o (lQ 289 (lx289 p0) 0))],[(0,ROW qI 3 E.1),(1,ROW qI 3 E.2)],2⟩) ?_ fun b6=>?_
  ·skip
   refine .blkE (.seqN (.seq (.sr (.an R (.block (bS hm fun I a4 hm=>?_))))));refine .cut1 (z:= .exit 4) I (fun (I:List Int)=>⟨[(3,.h 0)],[(0,ROW qI 3 I)],1⟩) ?_ fun b7=>?_
   ·skip
    refine .blkE (.seqN (.sr (.mv R (.an R (.ret ?_)))));cases hm;exact .rr [0] Tryz.results201 (.tmp R .nil) R I3 ⟨⟨_,R,I4⟩,trivial⟩
   refine .iter (fun (a:Int×List Int×List Int)=>⟨[(8,.i a.1),(5,.h 0),(3,.h 1),(0,.o (lQ 289 (lx289 p0) 0))],[(0,ROW qI 3 a.2.1),(1,ROW qI 3 a.2.2)],2⟩) a4 [] R ?_;intro a c2 hm b0 a7;unfold yY at hm;refine .seq (.sr (.mv R (.mv R (.op (O.lenH sl32 Z R R R) R (.bi R (.ns ?_))))));refine .cc hm R (fun hm=>?_) fun hm=> .exit (.seqX (.seqX ((b7 _ (a7 _ (oi hm).symm)).sub [(0,1)] R)));refine .skip (.seqN (.seq (.block (.seq ?_))));refine .sub (τ:=⟨[(8,.i a.1),(5,.h 0),(3,.h 1),(0,.o (lQ 289 (lx289 p0) 0))],[(0,ROW qI 3 a.2.1),(1,ROW qI 3 a.2.2)],2⟩) ?_ [] R;refine bS hm fun g H hm=>?_;refine .drw [(2,[]),(2,[oT]),(2,[oT,oT]),(2,tT 3),(2,[]),(2,[]),(2,[oF,oF,oF,oF,oT,oT]),(2,fA 4 (tT 3)),(2,tT 8),(2,tT 9),(2,[])] [_,_,_,_,_,_,_,_,_,_,_] ⟨[(67,.i 0),(66,.i (((kget p0.2.2.1 g).getD []).length:Int)),(65,.f qI ((kget p0.2.2.1 g).getD [])),(8,.i a.1),(5,.h 0),(3,.h 1),(0,.o (lQ 289 (lx289 p0) 0))],[(0,ROW qI 3 a.2.1),(1,ROW qI 3 a.2.2)],2⟩ ⟨O.mv Z R R,O.nc .Q Z R R,O.faQ yd4 Z R R,O.ld yec Z R .Q R R,O.mv Z R R,O.mv Z R R,O.ir sl32 Z R R R H R,O.ld nag3 Z R (.R R H lv3) R R,O.mlS (k:=g) yg7 Z R (.o R) R,O.len sl32 Z R R,O.mv Z R R,trivial⟩ (by kernel_rfl) R ?_;refine .seqN (.block (bS hm fun F a5 hm=>?_));refine .cut1 (z:= .exit 6) F (fun (F:List Int×List Int)=>⟨[(8,.i a.1),(5,.h 0),(3,.h 1),(0,.o (lQ 289 (lx289 p0) 0))],[(0,ROW qI 3 F.1),(1,ROW qI 3 F.2)],2⟩) ?_ fun a1=>?_
   ·skip
    exact .blkE (.blkN (.seqN (.reg (.mv R (.bi R (.sa R (.nil ((b0 _ (oi hm).symm).sub [] R))))))))
   refine .iter (fun (e:Int×List Int×List Int)=>⟨[(67,.i e.1),(66,.i (((kget p0.2.2.1 g).getD []).length:Int)),(65,.f qI ((kget p0.2.2.1 g).getD [])),(8,.i a.1),(5,.h 0),(3,.h 1),(0,.o (lQ 289 (lx289 p0) 0))],[(0,ROW qI 3 e.2.1),(1,ROW qI 3 e.2.2)],2⟩) a5 [] R ?_;intro e a0 hm b1 a8;unfold yX at hm;refine .sr (.bi R (.ns (.seq ?_)));refine .cc hm R (fun hm=>?_) fun hm=> .exit (.seqX (.seqX ((a1 _ (a8 _ (oi hm).symm)).sub [] R)));refine .skip (.seqN ?_);refine .join2 (fun (l:List Int) (m:List Int)=>yW e l m=some a0) (fun l m=>⟨[(5,.h 0),(67,.i e.1),(66,.i (((kget p0.2.2.1 g).getD []).length:Int)),(65,.f qI ((kget p0.2.2.1 g).getD [])),(8,.i a.1),(3,.h 1),(0,.o (lQ 289 (lx289 p0) 0))],[(0,ROW qI 3 l),(1,ROW qI 3 m)],2⟩) ?_ ?_
   ·intro l m hm;unfold yW at hm;exact .reg (.bi R (.mv R (.nil ((b1 _ (oi hm).symm).sub [] R))))
   ·intro t;refine .block (.sr (bS hm fun K L hm=> .ix sl32 L R (.le nag3 lv3 R (.an R (.sr (.mv R (.op (O.nc .Q Z R R) R (.fq y6B R (.lq y3i R (.mv R (bS hm fun c4 M hm=> .ix sl144 M R (.le nag4 lv4 R (.mv R (bS hm fun a2 eb107 hm=>?_))))))))))))));refine .cut 6 (fun (s:Bool)=>a2=s) (fun s=>⟨[(84,.b s),(10,.i K),(67,.i e.1),(66,.i (((kget p0.2.2.1 g).getD []).length:Int)),(65,.f qI ((kget p0.2.2.1 g).getD [])),(8,.i a.1),(5,.h 0),(3,.h 1),(0,.o (lQ 289 (lx289 p0) 0))],[(0,ROW qI 3 e.2.1),(1,ROW qI 3 e.2.2)],2⟩) ?_ ?_
    ·rintro _ rfl;exact .ns (.cc hm R (fun hm=> .sr (.mv R (.mv R (.mv R (.mv R (.mv R (bS hm fun c5 v hm=> .op (O.ir sl32 Z R R R v R) R (.op (O.ld nag3 Z R (.R R v lv3) R R) R (bS hm fun b2 w hm=> .op (O.ir sl32 Z R R R w R) R (.op (O.ld nag3 Z R (.R R w lv3) R R) R (.bi R (bS hm fun c6 x hm=> .op (O.ir sl32 Z R R R x R) R (bS hm fun c7 N hm=> .op (O.su (z:=W (b2+1)) nag3.sz Z R R x N R R R lv3 R .k) R (.ns (.reg (.mv R (.mv R (.op (O.bsF (r:=qI) (zs:=([K]:List Int)) bs32 R R Z R R R (.c .k .n) R R R) R (bS hm fun c8 P hm=> .op (O.ap 2 Tryz.underlying32 el3 R R Z R R (.fr R) P R) R (.sa R (.nil (.blkN ((t _ _ hm).sub [(0,2)] R))))))))))))))))))))))) fun hm=> .skip (.blkN ((t _ _ hm).sub [] R)))
    ·intro G;rcases ifS eb107 with ⟨hc,hm⟩|⟨hc,hm⟩
     ·refine .know (d:=78) R hc ?_;exact .op (O.mv (Gu.mk R R) R R) R (.op (O.mv (Gu.mk R R) R R) R (bS hm fun b3 y hm=> .op (O.ir sl32 (Gu.mk R R) R R R y R) R (.op (O.ld nag3 (Gu.mk R R) R (.R R y lv3) R R) R (.op (O.bi (Gu.mk R R) R R R R) R (.op (O.pkT Z R R R R) R ((G (decide (b3<0)) (oi hm).symm).sub [] R))))))
     ·refine .know (d:=78) R hc ?_;exact .sk R (.sk R (.sk R (.sk R (.sk R (.op (O.pkF Z R R R R) R ((G false (oi hm).symm).sub [] R))))))
  refine .nlg qI 3 5 0 R R (.iter (fun (j:Int×List Int×List Int)=>⟨[(32,.i j.1),(31,.i (p0.1.2.2.1.length:Int)),(30,.f qI p0.1.2.2.1),(5,.h 0),(3,.h 1),(0,.o (lQ 289 (lx289 p0) 0))],[(0,ROW qI 3 j.2.1),(1,ROW qI 3 j.2.2)],2⟩) a3 [(0,1),(1,0)] R ?_);intro j Y hm a9 a6;unfold y1a at hm;refine .sr (.bi R (.ns (.seq ?_)));refine .cc hm R (fun hm=>?_) fun hm=> .exit (.seqX (.seqX ((b6 _ (a6 _ (oi hm).symm)).sub [] R)));refine .skip (.seqN ?_);refine .join2 (fun (p:List Int) (q:List Int)=>yZ j p q=some Y) (fun p q=>⟨[(5,.h 0),(32,.i j.1),(31,.i (p0.1.2.2.1.length:Int)),(30,.f qI p0.1.2.2.1),(3,.h 1),(0,.o (lQ 289 (lx289 p0) 0))],[(0,ROW qI 3 p),(1,ROW qI 3 q)],2⟩) ?_ ?_
  ·intro p q hm;unfold yZ at hm;exact .reg (.bi R (.mv R (.nil ((a9 _ (oi hm).symm).sub [] R))))
  ·intro u;refine .block (.sr (bS hm fun b4 S hm=> .ix sl32 S R (.le nag3 lv3 R (.an R (.sr (.mv R (.op (O.nc .Q Z R R) R (.fq y6B R (.lq y3i R (.mv R (bS hm fun c9 T hm=> .ix sl144 T R (.le nag4 lv4 R (.ns ?_)))))))))))));exact .cc hm R (fun hm=> .sr (.mv R (.mv R (bS hm fun d0 B hm=> .op (O.ir sl32 Z R R R B R) R (bS hm fun d1 U hm=> .op (O.su (z:=0) nag3.sz Z R R B U R R R lv3 R .k) R (.ns (.reg (.mv R (.mv R (.op (O.bsF (r:=qI) (zs:=([b4]:List Int)) bs32 R R Z R R R (.c .k .n) R R R) R (bS hm fun d2 V hm=> .op (O.ap 2 Tryz.underlying32 el3 R R Z R R (.fr R) V R) R (.sa R (.nil (.blkN ((u _ _ hm).sub [(0,2)] R))))))))))))))) fun hm=> .skip (.blkN ((u _ _ hm).sub [] R))
 refine .iter (fun (J:Int×List Int)=>⟨[(19,.i J.1),(18,.i (x1.length:Int)),(3,.h 0),(0,.o (lQ 289 (lx289 p0) 0))],[(0,ROW qI 3 J.2)],1⟩) b8 [] R ?_;intro J c3 hm c1 c0;unfold y1b at hm;refine .sr (.bi R (.ns (.seq ?_)));exact .cc hm R (fun hm=> .skip (.seqN (.seq (.block (.sr (.mv R (.an R (.reg (.mv R (.mv R (bS hm fun d3 D hm=> .op (O.ir sl32 Z R R R D R) R (bS hm fun d4 X hm=> .op (O.su (z:=(-1)) nag3.sz Z R R D X R R R lv3 R .k) R (.nil (.blkN (.seqN (.reg (.bi R (.mv R (.nil ((c1 _ (oi hm).symm).sub [] R)))))))))))))))))))) fun hm=> .exit (.seqX (.seqX ((b5 _ (c0 _ (oi hm).symm)).sub [] R)))
def y1k(a:Int×(List (Int×Int×Int×Int)))(b:List (Int×Int×Int×Int)):Option ((Int×(List (Int×Int×Int×Int)))⊕(List (Int×Int×Int×Int))):=
 some (.inl (W (a.1+1),b))
def y2p(p0:AutT×List Int×(List (Int×List Int))×List Bool)(p1:Int)(b:List Int)(a:Int×(List (Int×Int×Int×Int))):Option ((Int×(List (Int×Int×Int×Int)))⊕(List (Int×Int×Int×Int))):=
 if decide (a.1<(b.length:Int)) then
  (idx b a.1).bind fun c=>
  (idx p0.2.2.2 a.1).bind fun d=>
  if(d&&(decide (c<0))) then
   (app a.2 ([(a.1,p1,3,(-1))]:List (Int×Int×Int×Int))).bind fun e=>
   y1k a e
  else
   y1k a a.2
 else
  some (.inr a.2)
def y2V(p0:AutT×List Int×(List (Int×List Int))×List Bool)(p1:Int):Option (List (Int×Int×Int×Int)):=
 (y1r p0).bind fun b=>
 (iter (y2p p0 p1 b) (0,([]:List (Int×Int×Int×Int)))).bind fun a=>
 some a
theorem y8t{r:(List (Int×Int×Int×Int))}(hm:y2V p0 p1=some r):
  F0 232 [.o (lQ 289 (lx289 p0) 0),.i p1] [] (.h 0) [ROW rE286 286 r]:=by
 unfold y2V at hm;refine Fw.mk2 Tryz.func232 Tryz.ntmps232 R (fun C=>?_) R;refine .sr (.an R (.sr (.an R (.seq (.sr (.mv R (bS hm fun e F hm=> .op (O.ca (r':= .h 0) [0] [(0,ROW qI 3 e)] (some 1) (y6z F) cf201 R R Z R R R R ⟨⟨_,R,I4⟩,trivial⟩ I3 R) R (.op (O.lenH sl32 Z R R R) R (.mv R (.ns (.block (bS hm fun m w hm=>?_))))))))))));refine .cut1 (z:= .exit 0) m (fun (m:(List (Int×Int×Int×Int)))=>⟨[(5,.h 0)],[(0,ROW rE286 286 m)],1⟩) ?_ fun E=>?_
 ·skip
  refine .blkE (.seqN (.sr (.mv R (.an R (.ret ?_)))));cases hm;exact .rr [0] Tryz.results232 (.tmp R .nil) R I3 ⟨⟨_,R,I4⟩,trivial⟩
 refine .nlg rE286 286 5 0 R R (.iter (fun (a:Int×(List (Int×Int×Int×Int)))=>⟨[(11,.i a.1),(10,.i (e.length:Int)),(9,.h 0),(5,.h 1),(0,.o (lQ 289 (lx289 p0) 0)),(1,.i p1)],[(0,ROW qI 3 e),(1,ROW rE286 286 a.2)],2⟩) w [] R ?_);intro a s hm D B;unfold y2p at hm;refine .sr (.bi R (.ns (.seq ?_)));refine .cc hm R (fun hm=>?_) fun hm=> .exit (.seqX (.seqX ((E _ (B _ (oi hm).symm)).sub [(0,1)] R)));refine .skip (.seqN ?_);refine .join1 (fun (f:List (Int×Int×Int×Int))=>y1k a f=some s) (fun f=>⟨[(5,.h 0),(11,.i a.1),(10,.i (e.length:Int)),(9,.h 1),(0,.o (lQ 289 (lx289 p0) 0)),(1,.i p1)],[(0,ROW rE286 286 f),(1,ROW qI 3 e)],2⟩) ?_ ?_
 ·intro f hm;unfold y1k at hm;exact .reg (.bi R (.mv R (.nil ((D _ (oi hm).symm).sub [(0,1),(1,0)] R))))
 ·intro g;refine .block (.sr (.mv R (bS hm fun u j hm=> .op (O.ir sl32 Z R R R j R) R (.op (O.ld nag3 Z R (.R R j lv3) R R) R (.sa R (.an R (.sr (.mv R (.op (O.nc .Q Z R R) R (.fq y6B R (.lq y3i R (.mv R (bS hm fun v x hm=> .ix sl144 x R (.le nag4 lv4 R (.mv R ?_)))))))))))))));refine .cut 3 (fun (q:Bool)=>(v&&(decide (u<0)))=q) (fun q=>⟨[(26,.b q),(6,.i a.1),(11,.i a.1),(10,.i (e.length:Int)),(9,.h 0),(5,.h 1),(0,.o (lQ 289 (lx289 p0) 0)),(1,.i p1)],[(0,ROW qI 3 e),(1,ROW rE286 286 a.2)],2⟩) ?_ ?_
  ·rintro _ rfl;exact .ns (.cc hm R (fun hm=> .reg (.mv R (.mv R (.mv R (.op (O.bu (l:=[lI a.1,lI p1,lI 3,lI (-1)]) pl286 R Z R R R) R (.op (O.bsF (r:=rE286) (zs:=([(a.1,p1,3,(-1))]:List (Int×Int×Int×Int))) bs127 R R Z R R R (.c (.p .k (.p .k (.p .k .k))) .n) R R R) R (bS hm fun G y hm=> .op (O.ap 2 Tryz.underlying127 el286 R R Z R R (.fr R) y R) R (.sa R (.nil (.blkN ((g _ hm).sub [(0,2),(1,0)] R))))))))))) fun hm=> .skip (.blkN ((g _ hm).sub [(0,1),(1,0)] R)))
  ·intro t;rcases Bool.eq_false_or_eq_true v with hc|hc
   ·refine .know (d:=23) R hc ?_;exact .op (O.mv (Gu.mk R R) R R) R (.op (O.bi (Gu.mk R R) R R R R) R (.op (O.pkT Z R R R R) R ((t (decide (u<0)) (andT hc).symm).sub [] R)))
   ·refine .know (d:=23) R hc ?_;exact .sk R (.sk R (.op (O.pkF Z R R R R) R ((t false (andF hc).symm).sub [] R)))
def y3T(p0:AutT×List Int×(List (Int×List Int))×List Bool)(p1:Int)(p2:Bool):Option (List (Int×Int×Int×Int)):=
 (y3S p0 p1).bind fun a=>
 if((decide ((a.length:Int)>0))||(!p2)) then
  some a
 else
  (y2V p0 p1).bind fun b=>
  some b
theorem y9t{p2:Bool}{r:(List (Int×Int×Int×Int))}(hm:y3T p0 p1 p2=some r):
    F0 198 [.o (lQ 289 (lx289 p0) 0),.i p1,.b p2] [] (.h 0) [ROW rE286 286 r]:=by
  unfold y3T at hm;refine Fw.mk2 Tryz.func198 Tryz.ntmps198 R (fun C=>?_) R;refine .sr (.an R (.seq (.sr (.mv R (.mv R (bS hm fun a f hm=> .op (O.ca (r':= .h 0) [0] [(0,ROW rE286 286 a)] (some 1) (y9s f) cf231 R R Z R R R R ⟨⟨_,R,I4⟩,trivial⟩ I3 R) R (.an R (.sr (.mv R (.op (O.lenH sl127 Z R R R) R (.bi R (.mv R ?_))))))))))));refine .cut 3 (fun (c:Bool)=>((decide ((a.length:Int)>0))||(!p2))=c) (fun c=>⟨[(17,.b c),(7,.h 0),(0,.o (lQ 289 (lx289 p0) 0)),(1,.i p1)],[(0,ROW rE286 286 a)],1⟩) ?_ ?_
  · rintro _ rfl;refine .ns ?_;refine .cc hm R (fun hm=>?_) fun hm=>?_
    ·refine .sr (.mv R (.an R (.ret (.seqR ?_))));cases hm;exact .rr [0] Tryz.results198 (.tmp R .nil) R I3 ⟨⟨_,R,I4⟩,trivial⟩
    ·refine .skip (.seqN (.sr (.mv R (.mv R (bS hm fun j g hm=> .op (O.ca (r':= .h 1) [1] [(0,ROW rE286 286 j)] (some 2) (y8t g) cf232 R R Z R R R R ⟨⟨_,R,I4⟩,trivial⟩ I3 R) R (.an R (.ret ?_)))))));cases hm;exact .rr [1] Tryz.results198 (.tmp R .nil) R I3 ⟨⟨_,R,I4⟩,trivial⟩
  · intro e;rcases Bool.eq_false_or_eq_true (decide ((a.length:Int)>0)) with hc|hc
    · refine .know (d:=14) R hc ?_;exact .sk R (.sk R (.op (O.pkT Z R R R R) R ((e true (orT hc).symm).sub [] R)))
    · refine .know (d:=14) R hc ?_;exact .op (O.mv (Gu.mk R R) R R) R (.op (O.not (Gu.mk R R) R R) R (.op (O.pkF Z R R R R) R ((e (!p2) (orF hc).symm).sub [] R)))
def yN(a:Int×List Int×(List (Int×Int))×List Int×EdgL)(b:List Int)(c:List (Int×Int))(d:List Int)(e:List (Int×Int×Int)):Option ((Int×List Int×(List (Int×Int))×List Int×EdgL)⊕(List Int×List Int×EdgL)):=
 some (.inl (W (a.1+1),b,c,d,e))
def yO(e:Int×List Int×(List (Int×Int))×List Int×EdgL)(f:Int×Int×Int)(a:Int×List Int×(List (Int×Int))×EdgL)(b:List Int)(d:Int)(c:List (Int×Int)):Option ((Int×List Int×(List (Int×Int))×EdgL)⊕(List Int×(List (Int×Int))×EdgL)):=
 (app a.2.2.2 ([(e.1,f.2.1,d)]:List (Int×Int×Int))).bind fun g=>
 some (.inl (W (a.1+1),b,c,g))
def yP(c:Int×List Int×(List (Int×Int))×List Int×EdgL)(d:List (Int×Int×Int))(a:Int×List Int×(List (Int×Int))×EdgL):Option ((Int×List Int×(List (Int×Int))×EdgL)⊕(List Int×(List (Int×Int))×EdgL)):=
 if decide (a.1<(d.length:Int)) then
  (idx d a.1).bind fun b=>
  if(!((kget a.2.2.1 b.2.2).isSome)) then
   (app a.2.1 ([b.2.2]:List Int)).bind fun e=>
   yO c b a e (a.2.1.length:Int) (kput a.2.2.1 b.2.2 (a.2.1.length:Int))
  else
   yO c b a a.2.1 ((kget a.2.2.1 b.2.2).getD 0) a.2.2.1
 else
  some (.inr a.2)
def yQ(p0:AutT×List Int×(List (Int×List Int))×List Bool)(f:(List EdgL))(a:Int×List Int×(List (Int×Int))×List Int×EdgL):Option ((Int×List Int×(List (Int×Int))×List Int×EdgL)⊕(List Int×List Int×EdgL)):=
 if decide (a.1<(a.2.1.length:Int)) then
  (idx a.2.1 a.1).bind fun g=>
  (idx f g).bind fun h=>
  (iter (yP a h) (0,a.2.1,a.2.2.1,a.2.2.2.2)).bind fun b=>
  (idx b.1 a.1).bind fun d=>
  (ye p0.1.2.2.1 d).bind fun c=>
  if c then
   (app a.2.2.2.1 ([a.1]:List Int)).bind fun e=>
   yN a b.1 b.2.1 e b.2.2
  else
   yN a b.1 b.2.1 a.2.2.2.1 b.2.2
 else
  some (.inr (a.2.1,a.2.2.2))
def yR(b:Int×(List EdgL))(a:List EdgL):Option ((Int×(List EdgL))⊕(List EdgL)):=
 some (.inl (W (b.1+1),a))
def yS(p0:AutT×List Int×(List (Int×List Int))×List Bool)(a:Int×(List EdgL)):Option ((Int×(List EdgL))⊕(List EdgL)):=
 if decide (a.1<(p0.1.2.2.2.length:Int)) then
  (idx p0.1.2.2.2 a.1).bind fun b=>
  (idx p0.2.2.2 b.2.2).bind fun c=>
  if c then
   (idx a.2 b.1).bind fun d=>
   (app d ([b]:List (Int×Int×Int))).bind fun e=>
   (idx a.2 b.1).bind fun g=>
   (upd a.2 b.1 e).bind fun f=>
   yR a f
  else
   yR a a.2
 else
  some (.inr a.2)
def y2q(p0:AutT×List Int×(List (Int×List Int))×List Bool):Option (AutT×List Int):=
 (y2o p0.1.1).bind fun d=>
 (if (p0.1.2.1==0) then
  some true
 else
  (idx p0.2.2.2 0).bind fun b=>
  some (!b)).bind fun e=>
 if e then
  some ((d,0,([]:List Int),([]:List (Int×Int×Int))),([]:List Int))
 else
  (mkL p0.1.2.1 ([]:List (Int×Int×Int))).bind fun f=>
  (iter (yS p0) (0,f)).bind fun c=>
  (iter (yQ p0 c) (0,([0]:List Int),(kput ([]:List (Int×Int)) 0 0),([]:List Int),([]:List (Int×Int×Int)))).bind fun a=>
  some ((d,(a.1.length:Int),a.2),a.1)
theorem y7Y{r:AutT×List Int}(hm:y2q p0=some r):
    F0 202 [.o (lQ 289 (lx289 p0) 0)] [] (.tp [.a [lH 0,lI r.1.2.1,lH 1,lH 2],.h 3]) [ROW qI 3 r.1.1,ROW qI 3 r.1.2.2.1,ROW qT 124 r.1.2.2.2,ROW qI 3 r.2]:=by
  unfold y2q at hm;refine Fw.mk2 Tryz.func202 Tryz.ntmps202 R (fun C=>?_) R;refine .sr (.al 0 zz35 R (.an R (.sr (.mv R (.op (O.nc .Q Z R R) R (.fq y8a R (.fq yT R (.lq nag32 R (bS hm fun w c9 hm=> .op (O.ca (r':= .h 1) [1] [(0,ROW qI 3 w)] (some 2) (y6n c9) cf103 R R Z R R R R ⟨⟨_,R,I4⟩,trivial⟩ I3 R) R (.op (O.bu (l:=[lH 1,lI 0,lN,lN]) pl35 R Z R R R) R (.al 2 zz35 R (.st ag35.sz R (.ns (.seq (.sr (.mv R (.op (O.nc .Q Z R R) R (.fq y8a R (.fq y2S R (.lq nag3 R (.bi R (.mv R (bS hm fun b2 eb2 hm=>?_)))))))))))))))))))))));refine .cut 8 (fun (v3:Bool)=>b2=v3) (fun v3=>⟨[(36,.b v3),(4,.q 2 0),(2,.q 0 0),(0,.o (lQ 289 (lx289 p0) 0))],[(2,.bx 35 [lH 1,lI 0,lN,lN]),(1,ROW qI 3 w),(0,.bx 35 [lN,lI 0,lN,lN])],3⟩) ?_ ?_
  · rintro _ rfl;refine .ns ?_;refine .cc hm R (fun hm=>?_) fun hm=>?_
    ·refine .sr (.op (O.lg (l':=[lH 1,lI 0,lN,lN]) ag35 Z R (.B R) R R R) R (.st ag35.sz R (.an R (.ret (.seqR (.nlb qI 3 0 2 R R (.nlb qT 124 0 3 R R (.nlg qI 3 3 0 R R ?_))))))));cases hm;exact .rr [1,3,4,5] Tryz.results202 (.cell R R ag35 R (.tmp R .nil)) R I3 ⟨⟨_,R,I4⟩,⟨_,R,I4⟩,⟨_,R,I4⟩,⟨_,R,I4⟩,trivial⟩
    ·refine .skip (.seqN (.sr (.mv R (.op (O.nc .Q Z R R) R (.fq y8a R (.fq y2S R (.lq nag3 R (bS hm fun x5 d0 hm=> .op (O.mkT y5C 124 3 Tryz.underlying314 zv33 R R Z R R d0 R) R (.an R (.seq (.sr (.mv R (.op (O.nc .Q Z R R) R (.fq y8a R (.fq y1J R (.lq nag33 R (.ln sl33 R (.mv R (.ns (.block (bS hm fun x b1 hm=>?_)))))))))))))))))))));refine .cut1 (z:= .exit 0) x (fun (x:(List EdgL))=>⟨[(5,.h 0),(4,.q 1 0),(2,.q 3 0),(0,.o (lQ 289 (lx289 p0) 0))],[(0,TAB y5C 33 124 none x),(1,.bx 35 [lH 2,lI 0,lN,lN]),(2,ROW qI 3 w),(3,.bx 35 [lN,lI 0,lN,lN])],4⟩) ?_ fun c6=>?_
     · skip
       refine .blkE (.seqN (.sr (.op (O.mk2 (kv:=kvI) (r:=qI) 4 R Z R) R (.op (O.ins (k:=0) (v:=0) md229 (fun _ _=>eqI) Z R R (.o R) R .k) R (.mv R (.an R (.sr (.op (O.bsO (r:=qI) (zs:=([0]:List Int)) 5 R bs32 R R Z R R R (.c .k .n) R R R) R (.an R (.seq (.sr (.an R (.block (bS hm fun D b3 hm=>?_))))))))))))));refine .cut1 (z:= .exit 2) D (fun (D:List Int×List Int×EdgL)=>⟨[(9,.h 0),(4,.q 1 0),(2,.q 5 0)],[(0,ROW qI 3 D.1),(1,.bx 35 [lH 2,lI 0,lH 3,lH 4]),(2,ROW qI 3 w),(3,ROW qI 3 D.2.1),(4,ROW qT 124 D.2.2),(5,.bx 35 [lN,lI 0,lN,lN])],6⟩) ?_ fun c7=>?_
       · skip
         refine .blkE (.seqN (.sr (.mv R (.op (O.lenH sl32 Z R R R) R (.fa y2S R (.st nag3.sz R (.nr (.op (O.lg (l':=[lH 2,lI (D.1.length:Int),lH 3,lH 4]) ag35 Z R (.B R) R R R) R (.mv R (.st ag35.sz R (.an R (.ret ?_))))))))))));cases hm;exact .rr [2,3,4,0] Tryz.results202 (.cell R R ag35 R (.tmp R .nil)) R I3 ⟨⟨_,R,I4⟩,⟨_,R,I4⟩,⟨_,R,I4⟩,⟨_,R,I4⟩,trivial⟩
       refine .fz 0 [5] [] R R fTb R R (.nlb qI 3 1 2 R R (.nlb qT 124 1 3 R R (.iter (fun (g:Int×List Int×(List (Int×Int))×List Int×EdgL)=>⟨[(10,.i g.1),(9,.h 0),(8,.h 1),(5,.f (rL qT) x),(4,.q 2 0),(2,.q 6 0),(0,.o (lQ 289 (lx289 p0) 0))],[(0,ROW qI 3 g.2.1),(1,MAP kvI qI 229 g.2.2.1),(2,.bx 35 [lH 3,lI 0,lH 4,lH 5]),(3,ROW qI 3 w),(4,ROW qI 3 g.2.2.2.1),(5,ROW qT 124 g.2.2.2.2),(6,.bx 35 [lN,lI 0,lN,lN])],7⟩) b3 [(0,5),(1,4),(2,1),(3,2),(4,6),(5,7),(6,3)] R ?_)));intro g a9 hm c0 b7;unfold yQ at hm;refine .seq (.sr (.mv R (.mv R (.op (O.lenH sl32 Z R R R) R (.bi R (.ns ?_))))));refine .cc hm R (fun hm=>?_) fun hm=> .exit (.seqX (.seqX ((c7 _ (b7 _ (oi hm).symm)).sub [(1,2),(2,3),(3,4),(4,5),(5,6)] R)));refine .skip (.seqN ?_);refine .join4 (fun (M:List Int) (N:List (Int×Int)) (P:List Int) (S:List (Int×Int×Int))=>yN g M N P S=some a9) (fun M N P S=>⟨[(10,.i g.1),(9,.h 0),(8,.h 1),(5,.f (rL qT) x),(4,.q 2 0),(2,.q 6 0),(0,.o (lQ 289 (lx289 p0) 0))],[(0,ROW qI 3 M),(1,MAP kvI qI 229 N),(2,.bx 35 [lH 3,lI 0,lH 4,lH 5]),(3,ROW qI 3 w),(4,ROW qI 3 P),(5,ROW qT 124 S),(6,.bx 35 [lN,lI 0,lN,lN])],7⟩) ?_ ?_
       · intro M N P S hm;unfold yN at hm;exact .reg (.mv R (.bi R (.sa R (.nil ((c0 _ (oi hm).symm).sub [] R)))))
       · intro U;refine .block (.seq (.sr (.mv R (.mv R (.mv R (bS hm fun d8 V hm=> .op (O.ir sl32 Z R R R V R) R (.op (O.ld nag3 Z R (.R R V lv3) R R) R (bS hm fun T b5 hm=> .ix sl314 b5 R (.le nag33 lv33 R (.ln sl33 R (.mv R (.ns (.block (bS hm fun u b4 hm=>?_))))))))))))));refine .cut1 (z:= .exit 4) u (fun (u:List Int×(List (Int×Int))×EdgL)=>⟨[(10,.i g.1),(9,.h 0),(8,.h 1),(5,.f (rL qT) x),(4,.q 2 0),(2,.q 6 0),(0,.o (lQ 289 (lx289 p0) 0))],[(0,ROW qI 3 u.1),(1,MAP kvI qI 229 u.2.1),(2,.bx 35 [lH 3,lI 0,lH 4,lH 5]),(3,ROW qI 3 w),(4,ROW qI 3 g.2.2.2.1),(5,ROW qT 124 u.2.2),(6,.bx 35 [lN,lI 0,lN,lN])],7⟩) ?_ fun c8=>?_
         · skip
           refine .blkE (.seqN (.seq ?_));refine .sub (τ:=⟨[(10,.i g.1),(9,.h 0),(8,.h 1),(5,.f (rL qT) x),(4,.q 2 0),(2,.q 6 0),(0,.o (lQ 289 (lx289 p0) 0))],[(0,ROW qI 3 u.1),(1,MAP kvI qI 229 u.2.1),(2,.bx 35 [lH 3,lI 0,lH 4,lH 5]),(3,ROW qI 3 w),(4,ROW qI 3 g.2.2.2.1),(5,ROW qT 124 u.2.2),(6,.bx 35 [lN,lI 0,lN,lN])],7⟩) ?_ [] R;refine bS hm fun d1 K hm=>bS hm fun c2 W hm=>?_;refine .drw [(7,[]),(7,[oT]),(7,[oT,oT]),(7,tT 3),(7,tT 4),(7,[]),(7,[]),(7,[oF,oF,oF,oF,oF,oT,oT]),(7,fA 5 (tT 3)),(7,tT 9)] [_,_,_,_,_,_,_,_,_,_] ⟨[(136,.b c2),(10,.i g.1),(9,.h 0),(8,.h 1),(5,.f (rL qT) x),(4,.q 2 0),(2,.q 6 0),(0,.o (lQ 289 (lx289 p0) 0))],[(0,ROW qI 3 u.1),(1,MAP kvI qI 229 u.2.1),(2,.bx 35 [lH 3,lI 0,lH 4,lH 5]),(3,ROW qI 3 w),(4,ROW qI 3 g.2.2.2.1),(5,ROW qT 124 u.2.2),(6,.bx 35 [lN,lI 0,lN,lN])],7⟩ ⟨O.mv Z R R,O.nc .Q Z R R,O.faQ y8a Z R R,O.faQ y6N Z R R,O.ld nag32 Z R .Q R R,O.mv Z R R,O.mv Z R R,O.ir sl32 Z R R R K R,O.ld nag3 Z R (.R R K lv3) R R,O.ca0 (yg W) cf104 R R Z R R R,trivial⟩ (by kernel_rfl) R ?_;exact .seqN (.cc hm R (fun hm=> .reg (.fa y6N R (.lb nag32 R (.mv R (.op (O.bsF (r:=qI) (zs:=([g.1]:List Int)) bs32 R R Z R R R (.c .k .n) R R R) R (bS hm fun d2 X hm=> .op (O.ap 7 Tryz.underlying32 el3 R R Z R R (.fr R) X R) R (.fa y6N R (.st nag32.sz R (.nil (.blkN ((U _ _ _ _ hm).sub [(4,7)] R))))))))))) fun hm=> .skip (.blkN ((U _ _ _ _ hm).sub [] R)))
         refine .iter (fun (t:Int×List Int×(List (Int×Int))×EdgL)=>⟨[(92,.i t.1),(91,.i (T.length:Int)),(90,.f qT T),(10,.i g.1),(9,.h 0),(8,.h 1),(5,.f (rL qT) x),(4,.q 2 0),(2,.q 6 0),(0,.o (lQ 289 (lx289 p0) 0))],[(0,ROW qI 3 t.2.1),(1,MAP kvI qI 229 t.2.2.1),(2,.bx 35 [lH 3,lI 0,lH 4,lH 5]),(3,ROW qI 3 w),(4,ROW qI 3 g.2.2.2.1),(5,ROW qT 124 t.2.2.2),(6,.bx 35 [lN,lI 0,lN,lN])],7⟩) b4 [] R ?_;intro t b0 hm c1 b8;unfold yP at hm;refine .sr (.bi R (.ns (.seq ?_)));refine .cc hm R (fun hm=>?_) fun hm=> .exit (.seqX (.seqX ((c8 _ (b8 _ (oi hm).symm)).sub [] R)));refine .skip (.seqN (.seq (.block (.sr (bS hm fun s Y hm=> .ix sl33 Y R (.op (O.lg (l':=[lI s.1,lI s.2.1,lI s.2.2]) ag124 Z R (.E lv124) R R R) R (.al 7 zz124 R (.st ag124.sz R (.nr (.mv R (.fa y4Y R (.lb nag3 R (.op (O.mi2 (k:=s.2.2) md229 Z (.ow R R) (.o R) R) R (.mv R (.ex R (.ex R (.sa R (.an R ?_))))))))))))))))));refine .join3 (fun (F:List Int) (y:Int) (G:List (Int×Int))=>yO g s t F y G=some b0) (fun F y G=>⟨[(9,.h 0),(13,.i y),(12,.q 1 0),(92,.i t.1),(91,.i (T.length:Int)),(90,.f qT T),(10,.i g.1),(8,.h 2),(5,.f (rL qT) x),(4,.q 3 0),(2,.q 7 0),(0,.o (lQ 289 (lx289 p0) 0))],[(0,ROW qI 3 F),(1,.bx 124 [lI s.1,lI s.2.1,lI s.2.2]),(2,MAP kvI qI 229 G),(3,.bx 35 [lH 4,lI 0,lH 5,lH 6]),(4,ROW qI 3 w),(5,ROW qI 3 g.2.2.2.1),(6,ROW qT 124 t.2.2.2),(7,.bx 35 [lN,lI 0,lN,lN])],8⟩) ?_ ?_
         · intro F y G hm;unfold yO at hm;exact .reg (.fa y1J R (.lb nag33 R (.mv R (.fa y4X R (.lb nag3 R (.mv R (.op (O.bu (l:=[lI g.1,lI s.2.1,lI y]) pl124 R Z R R R) R (.op (O.bsF (r:=qT) (zs:=([(g.1,s.2.1,y)]:List (Int×Int×Int))) bs33 R R Z R R R (.c (.p .k (.p .k .k)) .n) R R R) R (bS hm fun d3 a0 hm=> .op (O.ap 8 Tryz.underlying33 el124 R R Z R R (.fr R) a0 R) R (.fa y1J R (.st nag33.sz R (.nil (.blkN (.seqN (.reg (.bi R (.mv R (.nil ((c1 _ (oi hm).symm).sub [(1,2),(2,3),(3,4),(4,5),(5,8),(6,7)] R)))))))))))))))))))
         · intro I;refine .sr (.mv R (.op (O.not Z R R) R (.ns ?_)));exact .cc hm R (fun hm=> .sr (.mv R (.op (O.lenH sl32 Z R R R) R (.an R (.sr (.mv R (.fa y4Y R (.lb nag3 R (.mv R (.op (O.mu (k:=s.2.2) (v:=(t.2.1.length:Int)) md229 (fun _ _=>eqI) Z R R (.o R) R .k) R (.ns (.reg (.mv R (.fa y4Y R (.lb nag3 R (.op (O.bsF (r:=qI) (zs:=([s.2.2]:List Int)) bs32 R R Z R R R (.c .k .n) R R R) R (bS hm fun d4 a1 hm=> .op (O.ap 8 Tryz.underlying32 el3 R R Z R R (.fr R) a1 R) R (.sa R (.nil ((I _ _ _ hm).sub [(0,8),(1,7),(2,1),(3,2),(4,3),(5,4),(6,5),(7,6)] R)))))))))))))))))))) fun hm=> .skip ((I _ _ _ hm).sub [(1,7),(2,1),(3,2),(4,3),(5,4),(6,5),(7,6)] R)
     refine .iter (fun (m:Int×(List EdgL))=>⟨[(50,.i m.1),(49,.i (p0.1.2.2.2.length:Int)),(48,.f qT p0.1.2.2.2),(5,.h 0),(4,.q 1 0),(2,.q 3 0),(0,.o (lQ 289 (lx289 p0) 0))],[(0,TAB y5C 33 124 none m.2),(1,.bx 35 [lH 2,lI 0,lN,lN]),(2,ROW qI 3 w),(3,.bx 35 [lN,lI 0,lN,lN])],4⟩) b1 [(0,3),(1,2),(2,1),(3,0)] R ?_;intro m a8 hm b9 b6;unfold yS at hm;refine .sr (.bi R (.ns (.seq ?_)));refine .cc hm R (fun hm=>?_) fun hm=> .exit (.seqX (.seqX ((c6 _ (b6 _ (oi hm).symm)).sub [] R)));refine .skip (.seqN ?_);refine .join1 (fun (H:List EdgL)=>yR m H=some a8) (fun H=>⟨[(50,.i m.1),(49,.i (p0.1.2.2.2.length:Int)),(48,.f qT p0.1.2.2.2),(5,.h 0),(4,.q 1 0),(2,.q 3 0),(0,.o (lQ 289 (lx289 p0) 0))],[(0,TAB y5C 33 124 none H),(1,.bx 35 [lH 2,lI 0,lN,lN]),(2,ROW qI 3 w),(3,.bx 35 [lN,lI 0,lN,lN])],4⟩) ?_ ?_
     · intro H hm;unfold yR at hm;exact .reg (.bi R (.mv R (.nil ((b9 _ (oi hm).symm).sub [] R))))
     · intro J;refine .block (.sr (bS hm fun j a2 hm=> .ix sl33 a2 R (.op (O.lg (l':=[lI j.1,lI j.2.1,lI j.2.2]) ag124 Z R (.E lv124) R R R) R (.al 4 zz124 R (.st ag124.sz R (.ns (.seq ?_)))))));refine .sub (τ:=⟨[(7,.q 4 0),(50,.i m.1),(49,.i (p0.1.2.2.2.length:Int)),(48,.f qT p0.1.2.2.2),(5,.h 0),(4,.q 1 0),(2,.q 3 0),(0,.o (lQ 289 (lx289 p0) 0))],[(4,.bx 124 [lI j.1,lI j.2.1,lI j.2.2]),(0,TAB y5C 33 124 none m.2),(1,.bx 35 [lH 2,lI 0,lN,lN]),(2,ROW qI 3 w),(3,.bx 35 [lN,lI 0,lN,lN])],5⟩) ?_ [] R;refine bS hm fun c3 a3 hm=>?_;refine .drw [(5,[]),(5,[oT]),(5,[oT,oT]),(5,tT 3),(5,[]),(5,[oF,oF,oF,oF,oT]),(5,tT 6),(5,tT 7)] [_,_,_,_,_,_,_,_] ⟨[(61,.b c3),(7,.q 4 0),(50,.i m.1),(49,.i (p0.1.2.2.2.length:Int)),(48,.f qT p0.1.2.2.2),(5,.h 0),(4,.q 1 0),(2,.q 3 0),(0,.o (lQ 289 (lx289 p0) 0))],[(4,.bx 124 [lI j.1,lI j.2.1,lI j.2.2]),(0,TAB y5C 33 124 none m.2),(1,.bx 35 [lH 2,lI 0,lN,lN]),(2,ROW qI 3 w),(3,.bx 35 [lN,lI 0,lN,lN])],5⟩ ⟨O.mv Z R R,O.nc .Q Z R R,O.faQ y6B Z R R,O.ld y3i Z R .Q R R,O.faP y4Y Z R R,O.ld nag3 Z R (.B R) R R,O.ix sl144 Z R R a3 R,O.ld nag4 Z R (.E lv4) R R,trivial⟩ (by kernel_rfl) R ?_;refine .seqN ?_;refine .cc hm R (fun hm=>?_) fun hm=> .skip (.blkN ((J _ hm).sub [] R));refine .sub (τ:=⟨[(7,.q 4 0),(50,.i m.1),(49,.i (p0.1.2.2.2.length:Int)),(48,.f qT p0.1.2.2.2),(5,.h 0),(4,.q 1 0),(2,.q 3 0),(0,.o (lQ 289 (lx289 p0) 0))],[(4,.bx 124 [lI j.1,lI j.2.1,lI j.2.2]),(0,TAB y5C 33 124 none m.2),(1,.bx 35 [lH 2,lI 0,lN,lN]),(2,ROW qI 3 w),(3,.bx 35 [lN,lI 0,lN,lN])],5⟩) ?_ [] R;refine bS hm fun d5 L hm=>bS hm fun d6 a4 hm=>bS hm fun d7 a5 hm=>bS hm fun c4 a6 hm=>?_;refine .drz 7 [(7,0),(7,5),(10,6)] [(5,[],[0],[]),(5,[],[0],[]),(5,[oF,oT],[0],[]),(5,[],[],[]),(5,[],[],[]),(5,[oF,oF,oF,oF,oT],[],[]),(5,[oF,oF,oF,oT,oT,oT],[],[]),(5,[oF,oF,oF,oT,oT,oT,oT],[],[]),(5,[],[0],[]),(5,[oF,oF,oF,oF,oF,oF,oF,oF,oT],[0],[]),(6,[oF,oF,oF,oT,oT,oT,oT,oT,oT,oT],[],[]),(7,[oT,oT,oT,oT,oT,oT,oT,oT,oT,oT,oT],[],[(7,5)]),(7,[oT,oT,oT,oT,oT,oT,oT,oT,oT,oT,oT,oT],[],[(7,5)])] [_,_,_,_,_,_,_,_,_,_,_,_,_] ⟨[(50,.i m.1),(49,.i (p0.1.2.2.2.length:Int)),(48,.f qT p0.1.2.2.2),(5,.h 0),(4,.q 1 0),(2,.q 3 0),(0,.o (lQ 289 (lx289 p0) 0))],[(0,TAB y5C 33 124 none c4),(1,.bx 35 [lH 2,lI 0,lN,lN]),(2,ROW qI 3 w),(3,.bx 35 [lN,lI 0,lN,lN])],7⟩ ⟨O.mv Z R R,O.faP y3r Z R R,O.ld nag3 Z R (.B R) R R,O.mv Z R R,O.faP y3r Z R R,O.ld nag3 Z R (.B R) R R,O.irT sl314 Z R R R L R,O.ldT 5 nag33 R Z R R L R,O.lg (l':=[lI j.1,lI j.2.1,lI j.2.2]) ag124 Z R (.B R) R R R,O.bsF (r:=qT) (zs:=([j]:List (Int×Int×Int))) bs33 R R Z R R R (.c (.p .k (.p .k .k)) .n) R R R,O.ap 6 Tryz.underlying33 el124 R R Z R R (.fr R) a4 R,O.irT sl314 Z R R R a5 R,O.stT nag33.sz Z R R a6 R R R (fun _ e=>by cases e;rfl),trivial⟩ (by kernel_rfl) R ?_;exact .blkN ((J _ hm).sub [] R)
  · intro J4;rcases ifS eb2 with ⟨hc,hm⟩|⟨hc,hm⟩
    · refine .know (d:=28) R hc ?_;exact .sk R (.sk R (.sk R (.sk R (.sk R (.sk R (.sk R (.op (O.pkT Z R R R R) R ((J4 true (oi hm).symm).sub [] R))))))))
    · refine .know (d:=28) R hc ?_;exact .op (O.mv (Gu.mk R R) R R) R (.op (O.nc .Q (Gu.mk R R) R R) R (.op (O.faQ y6B (Gu.mk R R) R R) R (.op (O.ld y3i (Gu.mk R R) R .Q R R) R (bS hm fun c5 a7 hm=> .op (O.ix sl144 (Gu.mk R R) R R a7 R) R (.op (O.ld nag4 (Gu.mk R R) R (.E lv4) R R) R (.op (O.not (Gu.mk R R) R R) R (.op (O.pkF Z R R R R) R ((J4 (!c5) (oi hm).symm).sub [] R))))))))
end
end Go.Proofs.YtecmobjeeonmaaaGreatDoor
namespace Go.Proofs.YtecmobjeeonmaaaGreatDoor
open Go Go.RowKit Go.Sort Go.Lib
theorem ycn{β:Type}{f:β→List Value}{k:Nat}(hk:∀x,(f x).length=k)(k0:0<k):∀(l:List β) (t:Nat),(l.flatMap f)[t]? =(l[t/k]?).bind fun x=>(f x)[t % k]?
 | [],t=>by simp
 | x::l,t=>by
  rw [List.flatMap_cons];by_cases h:t<k
  ·rw [List.getElem?_append_left (by rw [hk];exact h),Nat.div_eq_of_lt h,Nat.mod_eq_of_lt h];rfl
  ·obtain ⟨u,rfl⟩:∃u,t=u+k:=⟨t-k,by omega⟩;rw [List.getElem?_append_right (by rw [hk];omega),hk,Nat.add_sub_cancel,ycn hk k0 l u,Nat.add_div_right u k0,Nat.add_mod_right];rfl
theorem yed{β:Type}{f:β→List Value}{k:Nat}(hk:∀x,(f x).length=k):∀l:List β,(l.flatMap f).length=l.length*k
 | []=>by simp
 | x::l=>by rw [List.flatMap_cons,List.length_append,hk,yed hk l,List.length_cons,Nat.succ_mul,Nat.add_comm]
theorem Cells.enc{α:Type}{r:Rep α}{enc:α→List Value}(hr:∀s cs x,r.rd s cs x↔cs=enc x){s:Sig}:∀{cs:List Value} {xs:List α},Cells r s cs xs↔cs=xs.flatMap enc
 | cs,[]=>by simp [Cells]
 | cs,x::xs=>by
  rw [List.flatMap_cons];constructor
  ·rintro ⟨c,d,rfl,h1,h2⟩;rw [(hr _ _ _).1 h1,(Cells.enc hr).1 h2]
  ·intro h;exact⟨_,_,h,(hr _ _ _).2 rfl,(Cells.enc hr).2 rfl⟩
theorem yfn{w:World}{b off n:Nat}{d:Array Value}{os:Array Obj}{cur:Array Value}{T:TypeId}(h:w.heap[b]? =some (.cells cur T (0,0))):(grow (putRow id (Sort.ahead w n) b off d) os).heap[b]? =some (.cells (putCells id off d cur) T (0,0)):=by
 have hb:b<w.heap.size:=(Array.getElem?_eq_some_iff.1 h).1;show((w.heap.modify b (onCells (putCells id off d)))++os)[b]? =_;rw [Array.getElem?_append_left (by simpa using hb),Array.getElem?_modify,if_pos rfl,h];rfl
theorem yfo{w:World}{b b' off n:Nat}{d:Array Value}{os:Array Obj}(hb:b'<w.heap.size)(hne:b'≠b):(grow (putRow id (Sort.ahead w n) b off d) os).heap[b']? =w.heap[b']? :=by
 show((w.heap.modify b (onCells (putCells id off d)))++os)[b']? =_;rw [Array.getElem?_append_left (by simpa using hb),Array.getElem?_modify,if_neg (Ne.symm hne)]
theorem RowT.sortK{α:Type}{r:Rep α}{enc:α→List Value}(hr:∀s cs x,r.rd s cs x↔cs=enc x)(hk:∀x,(enc x).length=r.sz)(k0:0<r.sz){s:Sig}{t:Nat}{T:TypeId}{a:Option Addr}{cap:Nat}{xs:List α}(h:RowT r s t T a cap xs)[Inhabited (_root_.Fin xs.length)](h0:0<xs.length)(ht:0<t):
  ∃b off,a=some ⟨b,off,none⟩∧b<s.w.heap.size∧s.tag b=t∧HoldsK (fun i:_root_.Fin xs.length=>enc (xs.get i)) r.sz s.w b off (List.finRange xs.length).toArray∧∀(d:Array (_root_.Fin xs.length)) (n:Nat) (os:Array Obj),d.size=xs.length→
   ∃s',sortWorldK (fun i=>enc (xs.get i)) r.sz s.w b off n d os=s'.w∧Mv (One t) s s'∧RowT r s' t T (some ⟨b,off,none⟩) cap (d.toList.map xs.get):=by
 obtain⟨cs,⟨hl,hrow⟩,hc⟩:=h;rcases hrow with ⟨e,hn⟩|⟨b,off,cap',cur,e,ho,k1,k2,k3,k4⟩
 ·omega
 simp only [Value.slice.injEq,true_and] at e;obtain⟨rfl,rfl⟩:=e;have hcs:=(Cells.enc hr).1 hc;have hkF:∀i:_root_.Fin xs.length,(enc (xs.get i)).length=r.sz:=fun i=>hk _;have hb:b<s.w.heap.size:=(Array.getElem?_eq_some_iff.1 ho.heap).1;have hdz:∀(d:Array (_root_.Fin xs.length)) (j:Nat),d.size=xs.length→j<xs.length*r.sz→∃(q:Nat) (hq:q<d.size) (x:Value),q=j/r.sz∧(enc (xs.get d[q]))[j % r.sz]? =some x∧(flatK (fun i:_root_.Fin xs.length=>enc (xs.get i)) r.sz d)[j]! =x:=fun d j hd hj=>by
  have hq:j/r.sz<d.size:=by rw [hd];exact Nat.div_lt_of_lt_mul (by rw [Nat.mul_comm];exact hj)
  have hm:j % r.sz<(enc (xs.get d[j/r.sz])).length:=by rw [hk];exact Nat.mod_lt _ k0
  refine⟨_,hq,_,rfl,yGe hm,?_⟩;rw [get_flatK _ _ _ _ (by rw [hd];exact hj),getElem!_pos d _ hq,getElem!_pos (enc (xs.get d[j/r.sz])) _ hm]
 refine⟨b,off,rfl,hb,ho.htag,fun j hj=>?_,fun d n os hd=>?_⟩
 ·have hj':j<xs.length*r.sz:=by simpa using hj
  obtain⟨q,hq,x,rfl,h1,h2⟩:=hdz (List.finRange xs.length).toArray j (by simp) hj';have hcell:cur[off+j]? =some x:=by
   have e2:cs[j]? =cur.toList[off+j]? :=by rw [←k4,List.getElem?_take,if_pos hj',List.getElem?_drop]
   rw [hcs,ycn hk k0] at e2;have hx:xs[j/r.sz]? =some (xs.get ((List.finRange xs.length).toArray[j/r.sz])):=by
    rw [yGe (by simpa using hq)];simp
   rw [hx,yOb,h1] at e2;rw [←Array.getElem?_toList];exact e2.symm
  refine⟨?_,?_⟩
  ·unfold World.cell?;rw [ho.heap];show cur[off+j]? =_;rw [hcell,h2];rfl
  ·unfold World.frozen?;rw [ho.heap];show(decide (0≤off+j)&&decide (off+j<0))=false;simp
 ·have hm:Mv (One t) s ⟨sortWorldK (fun i=>enc (xs.get i)) r.sz s.w b off n d os,fun b=>if b<s.w.heap.size then s.tag b else 0⟩:=⟨rfl,rfl,rfl,(by show _≤((s.w.heap.modify b _)++os).size;simp),fun b' hb' hn=>⟨yfo hb' fun e=>hn (by rw [e];exact ho.htag),if_pos hb'⟩⟩;refine⟨_,rfl,hm,(d.toList.map xs.get).flatMap enc,⟨by rw [yed hk],.inr ⟨b,off,cap,putCells id off (flatK (fun i:_root_.Fin xs.length=>enc (xs.get i)) r.sz d) cur,rfl,⟨yfn ho.heap,?_,Nat.zero_le _⟩,?_,k2,?_,?_⟩⟩,(Cells.enc hr).2 rfl⟩
  ·show (if b<s.w.heap.size then s.tag b else 0)=t;rw [if_pos hb];exact ho.htag
  ·rw [List.length_map,Array.length_toList,hd];exact k1
  ·rw [putCells,Array.size_mapIdx];exact k3
  ·apply List.ext_getElem?;intro j;have hmul:xs.length*r.sz≤cap*r.sz:=Nat.mul_le_mul_right _ k1;rw [List.getElem?_take,List.getElem?_drop,List.length_map,Array.length_toList,hd,ycn hk k0,List.getElem?_map];by_cases hj:j<xs.length*r.sz
   ·obtain ⟨q,hq,x,rfl,h1,h2⟩:=hdz d j hd hj;rw [if_pos hj,Array.getElem?_toList,putCells,Array.getElem?_mapIdx,Array.getElem?_eq_getElem (by omega),Option.map_some,if_pos ⟨by omega,by rw [size_flatK,hd];omega⟩,Nat.add_sub_cancel_left,h2,Array.getElem?_toList,Array.getElem?_eq_getElem hq,Option.map_some,yOb,h1];rfl
   ·rw [if_neg hj];have hdj:¬j/r.sz<d.size:=fun hlt=>hj (by
     have:=(Nat.div_lt_iff_lt_mul k0).1 hlt;rw [hd] at this;exact this)
    rw [Array.getElem?_toList,Array.getElem?_eq_none (by omega)];rfl
end Go.Proofs.YtecmobjeeonmaaaGreatDoor
namespace Go.Proofs
open Go.Shelf
def Tryz.sortR_ren :Go.Shelf.Ren:=⟨fun|6=>199|15=>234|14=>233|28=>254|29=>255|20=>246|21=>247|22=>248|23=>249|24=>250|25=>251|26=>252|27=>253|46=>273|47=>274|48=>275|49=>276|50=>277|57=>299|n=>n,fun|22=>127|24=>286|25=>291|3=>3|39=>295|0=>0|53=>334|55=>336|4=>4|46=>328|45=>327|50=>170|5=>5|9=>9|66=>351|70=>355|76=>378|77=>58|n=>n,fun|n=>n⟩
theorem Tryz.sortR :Go.Proofs.SlLaysF0.n6 Tryz.prog Tryz.sortR_ren:={
 mixed:=by kernel_rfl
 f6:=⟨Tryz.f199.name,by decide,Tryz.func199.trans (congrArg some (by kernel_rfl))⟩
 f14:=⟨Tryz.f233.name,by decide,Tryz.func233.trans (congrArg some (by kernel_rfl))⟩
 f15:=Tryz.func234.trans (congrArg some (by kernel_rfl))
 f20:=⟨Tryz.f246.name,by decide,Tryz.func246.trans (congrArg some (by kernel_rfl))⟩
 f21:=⟨Tryz.f247.name,by decide,Tryz.func247.trans (congrArg some (by kernel_rfl))⟩
 f22:=⟨Tryz.f248.name,by decide,Tryz.func248.trans (congrArg some (by kernel_rfl))⟩
 f23:=⟨Tryz.f249.name,by decide,Tryz.func249.trans (congrArg some (by kernel_rfl))⟩
 f24:=⟨Tryz.f250.name,by decide,Tryz.func250.trans (congrArg some (by kernel_rfl))⟩
 f25:=⟨Tryz.f251.name,by decide,Tryz.func251.trans (congrArg some (by kernel_rfl))⟩
 f26:=⟨Tryz.f252.name,by decide,Tryz.func252.trans (congrArg some (by kernel_rfl))⟩
 f27:=⟨Tryz.f253.name,by decide,Tryz.func253.trans (congrArg some (by kernel_rfl))⟩
 f28:=Tryz.func254.trans (congrArg some (by kernel_rfl))
 f29:=Tryz.func255.trans (congrArg some (by kernel_rfl))
 f46:=⟨Tryz.f273.name,by decide,Tryz.func273.trans (congrArg some (by kernel_rfl))⟩
 f47:=Tryz.func274.trans (congrArg some (by kernel_rfl))
 f48:=Tryz.func275.trans (congrArg some (by kernel_rfl))
 f49:=⟨Tryz.f276.name,by decide,Tryz.func276.trans (congrArg some (by kernel_rfl))⟩
 f50:=⟨Tryz.f277.name,by decide,Tryz.func277.trans (congrArg some (by kernel_rfl))⟩
 f57:=⟨Tryz.f299.name,by decide,Tryz.func299.trans (congrArg some (by kernel_rfl))⟩
 t0:=Tryz.underlying0
 a0:=Tryz.isAgg0
 z0:=Tryz.sizeOf0
 v0:=Tryz.zeroValue0
 t3:=Tryz.underlying3
 a3:=Tryz.isAgg3
 z3:=Tryz.sizeOf3
 v3:=Tryz.zeroValue3
 t4:=Tryz.underlying4
 a4:=Tryz.isAgg4
 z4:=Tryz.sizeOf4
 v4:=Tryz.zeroValue4
 t5:=Tryz.underlying5
 a5:=Tryz.isAgg5
 z5:=Tryz.sizeOf5
 v5:=Tryz.zeroValue5
 t9:=Tryz.underlying9
 a9:=Tryz.isAgg9
 z9:=Tryz.sizeOf9
 v9:=Tryz.zeroValue9
 t22:=Tryz.underlying127
 a22:=Tryz.isAgg127
 z22:=Tryz.sizeOf127
 v22:=Tryz.zeroValue127
 t25:=Tryz.underlying291
 a25:=Tryz.isAgg291
 z25:=Tryz.sizeOf291
 v25:=Tryz.zeroValue291
 t39:=Tryz.underlying295
 a39:=Tryz.isAgg295
 z39:=Tryz.sizeOf295
 v39:=Tryz.zeroValue295
 t45:=Tryz.underlying327
 a45:=Tryz.isAgg327
 z45:=Tryz.sizeOf327
 v45:=Tryz.zeroValue327
 t46:=Tryz.underlying328
 a46:=Tryz.isAgg328
 z46:=Tryz.sizeOf328
 v46:=Tryz.zeroValue328
 t50:=Tryz.underlying170
 a50:=Tryz.isAgg170
 z50:=Tryz.sizeOf170
 v50:=Tryz.zeroValue170
 t53:=Tryz.underlying334
 a53:=Tryz.isAgg334
 z53:=Tryz.sizeOf334
 v53:=Tryz.zeroValue334
 t55:=Tryz.underlying336
 a55:=Tryz.isAgg336
 z55:=Tryz.sizeOf336
 v55:=Tryz.zeroValue336
 t66:=Tryz.underlying351
 a66:=Tryz.isAgg351
 z66:=Tryz.sizeOf351
 v66:=Tryz.zeroValue351
 t70:=Tryz.underlying355
 a70:=Tryz.isAgg355
 z70:=Tryz.sizeOf355
 v70:=Tryz.zeroValue355
 t76:=Tryz.underlying378
 a76:=Tryz.isAgg378
 z76:=Tryz.sizeOf378
 v76:=Tryz.zeroValue378
 t77:=Tryz.underlying58
 a77:=Tryz.isAgg58
 z77:=Tryz.sizeOf58
 v77:=Tryz.zeroValue58 }
end Go.Proofs
namespace Go.Proofs.YtecmobjeeonmaaaGreatDoor
open Go Go.RowKit Go.Sort Go.Lib
def encR(x:Int×Int×Int×Int):List Value:=[.int .i64 x.1,.int .i64 x.2.1,.int .i64 x.2.2.1,.int .i64 x.2.2.2]
theorem yia(s:Sig)(cs:List Value)(x:Int×Int×Int×Int):(rP qI (rP qI (rP qI qI))).rd s cs x↔cs=encR x:=by
 constructor
 ·rintro ⟨_,_,rfl,rfl,_,_,rfl,rfl,_,_,rfl,rfl,rfl⟩;rfl
 ·rintro rfl;exact⟨_,_,rfl,rfl,_,_,rfl,rfl,_,_,rfl,rfl,rfl⟩
noncomputable def y2x(p0:List (Int×Int×Int×Int)):Option (List (Int×Int×Int×Int)):=
 if h:(∀x∈p0,0≤x.1∧x.1<4294967296)∧p0.length≤4294967296∧0<p0.length then
  haveI:Inhabited (_root_.Fin p0.length):=⟨⟨0,h.2.2⟩⟩
  some ((pdq (ltOf fun i j:_root_.Fin p0.length=>(p0.get i).1-(p0.get j).1) (List.finRange p0.length).toArray 0 p0.length (Lib.bitLen p0.length) true true).toList.map p0.get)
 else if p0= [] then some [] else none
set_option maxHeartbeats 2000000 in
theorem yez(x y:Int×Int×Int×Int)(w:World)(hx:0≤x.1∧x.1<4294967296)(hy:0≤y.1∧y.1<4294967296):
  Calls Tryz.prog 200 #[.agg (encR x).toArray,.agg (encR y).toArray] w fun e w'=>e= .returned (.int .i64 (x.1-y.1))∧∃q os',w'=grow (w.drewN q) os':=by
 obtain⟨x1,x2,x3,x4⟩:=x;obtain⟨y1,y2,y3,y4⟩:=y;simp only at hx hy ⊢;show Calls Tryz.prog _ #[.agg #[.int .i64 x1,.int .i64 x2,.int .i64 x3,.int .i64 x4],.agg #[.int .i64 y1,.int .i64 y2,.int .i64 y3,.int .i64 y4]] w _
 go_enter Tryz.func200,Tryz.ntmps200
 go_wp2_with fail
 go_ret
 exact⟨rfl,0,_,by rw [alloc_eq_grow,alloc_eq_grow,grow_grow];rfl⟩
theorem y9h{s:Sig}{p0:List (Int×Int×Int×Int)}{t0:Nat}{a1:Option Addr}{c1:Nat}{r:List (Int×Int×Int×Int)}(zt0:0<t0)(h1:RowT (rP qI (rP qI (rP qI qI))) s t0 286 a1 c1 p0)(hm:y2x p0=some r):
  Calls Tryz.prog 199 #[.slice a1 p0.length c1,.func (.func 200) #[] #[]] s.w (RetS (One t0) s fun v s'=>v= .tuple #[]∧r.length=p0.length∧RowT (rP qI (rP qI (rP qI qI))) s' t0 286 a1 c1 r):=by
 unfold y2x at hm;split at hm
 ·rename_i h;obtain⟨hb,hl,h0⟩:=h
  letI:Inhabited (_root_.Fin p0.length):=⟨⟨0,h0⟩⟩
  obtain⟨b,off,rfl,hblk,htag,hH,hput⟩:=h1.sortK yia (fun _=>rfl) (by decide) h0 zt0;have hin:∀i:_root_.Fin p0.length,0≤(p0.get i).1∧(p0.get i).1<4294967296:=fun i=>hb _ (List.get_mem _ _);have hO:SWO (ltOf fun i j:_root_.Fin p0.length=>(p0.get i).1-(p0.get j).1):=⟨fun i=>by unfold ltOf;simp,fun i j k g1 g2=>by unfold ltOf at *;simp at *;omega,fun i j k g1 g2=>by unfold ltOf at *;simp at *;omega⟩;have eg:∀args w,(callFunc 200 args).run Tryz.prog w= .ok (.enter 200 args) w:=enters_of Tryz.func200 (by kernel_rfl) rfl;have hsz:(List.finRange p0.length).toArray.size=p0.length:=by simp
  have hcmp:CmpLays Tryz.prog 200 #[] (fun i:_root_.Fin p0.length=>encR (p0.get i)) 4 (fun i j=>(p0.get i).1-(p0.get j).1) b off (List.finRange p0.length).toArray.size s.w:=fun m os dk hdk i j=>yez _ _ _ (hin i) (hin j);have hS:=AnyQ.slices_SortFunc_eq Tryz.sortR 4 Tryz.isAgg286 Tryz.sizeOf286 (fun i:_root_.Fin p0.length=>encR (p0.get i)) (fun _=>rfl) (fun x v hv=>by simp [encR] at hv;rcases hv with rfl|rfl|rfl|rfl <;> rfl) (fun i j=>(p0.get i).1-(p0.get j).1) hO 200 #[] b off c1 (List.finRange p0.length).toArray s.w eg hcmp hH hblk (by rw [hsz];omega);rw [hsz] at hS;have hS:Calls Tryz.prog 199 #[.slice (some ⟨b,off,none⟩) p0.length c1,.func (.func 200) #[] #[]] s.w _:=hS;refine hS.mono ?_;rintro e w' ⟨rfl,n,os,rfl⟩;have hz:=(pdq_sorts (ltOf fun i j:_root_.Fin p0.length=>(p0.get i).1-(p0.get j).1) hO (List.finRange p0.length).toArray 0 p0.length (Lib.bitLen p0.length) true true (Nat.zero_le _) (Nat.le_of_eq hsz.symm) (Or.inl rfl)).1.1;rw [hsz] at hz;obtain⟨s',hw',hm',hr⟩:=hput _ n os hz;cases hm;exact⟨_,s',hw',rfl,hm',rfl,by rw [List.length_map,Array.length_toList,hz],hr⟩
 ·split at hm
  ·rename_i h0;cases hm;subst h0;refine(AnyF.slices_SortFunc_none (P:=Tryz.prog) (ρ:=Tryz.sortR_ren) Tryz.sortR a1 c1 (.func (.func 200) #[] #[]) s.w).mono ?_;rintro e w' ⟨rfl,rfl⟩;exact⟨_,s,rfl,rfl,Mv.refl _ _,rfl,rfl,h1⟩
  ·cases hm
theorem y9i{p0:List (Int×Int×Int×Int)}{r:List (Int×Int×Int×Int)}(hm:y2x p0=some r):Fw Tryz.prog 199 ⟨1,[0]⟩ [.h 0,.o (lV (.func (.func 200) #[] #[]))] [ROW (rP qI (rP qI (rP qI qI))) 286 p0] (.tp []) [ROW (rP qI (rP qI (rP qI qI))) 286 r]:=
 ⟨fun ts β s vs ht _ _ hp ⟨v,us,h,⟨v2,us2,h2,hu,e3⟩,e2⟩ ho=>by
  have hu:us2= []:=hu;subst hu;subst e3;subst e2;obtain⟨rfl,_⟩:=h2;obtain⟨t,rfl⟩:∃t,ts= [t]:=by
   match ts,ht with
   | [t],_=>exact⟨t,rfl⟩
  obtain⟨a,c,e,h2⟩:=ho 0 _ rfl;have hv:v= .slice a p0.length c:=h.1.trans e;subst hv;exact Calls.mono (y9h (hp t (.head _)) h2 hm) fun en w' ⟨v,s',e1,e2,m,hv,hl,hr⟩=>⟨v,s',e1,e2,m.weak fun t' ht'=>⟨0,.head _,by rw [show t'=t from ht'];rfl⟩,β,fun _ _=>rfl,⟨[],rfl,hv⟩,fun i o ho=>by
   match i,ho with
   | 0,ho=>cases ho;exact⟨a,c,by rw [e,hl],hr⟩⟩⟩
end Go.Proofs.YtecmobjeeonmaaaGreatDoor
set_option maxRecDepth 100000
set_option maxHeartbeats 8000000
namespace Go.Proofs.YtecmobjeeonmaaaGreatDoor
open Go Go.RowKit
noncomputable section
variable{p0 p1:Bool}{p2:List Int}
def y3G(a:Int×List Int×List Int)(b:List Int)(c:List Int):Option ((Int×List Int×List Int)⊕(List Int×List Int)):=
 some (.inl (W (a.1+1),b,c))
def y3H(c:(List (Int×Int×Int×Int))×Int×List Bool)(b:List Int)(a:Int×List Int×List Int):Option ((Int×List Int×List Int)⊕(List Int×List Int)):=
 if decide (a.1<(b.length:Int)) then
  (idx b a.1).bind fun d=>
  (idx c.2.2 a.1).bind fun e=>
  if e then
   (app a.2.1 ([a.1]:List Int)).bind fun f=>
   (app a.2.2 ([d]:List Int)).bind fun g=>
   y3G a f g
  else
   y3G a a.2.1 a.2.2
 else
  some (.inr a.2)
def y3I(b:(List (Int×Int×Int×Int)))(a:Int×List Bool):Option ((Int×List Bool)⊕(List Bool)):=
 if decide (a.1<(b.length:Int)) then
  (idx b a.1).bind fun c=>
  (idx a.2 c.1).bind fun e=>
  (upd a.2 c.1 false).bind fun d=>
  some (.inl (W (a.1+1),d))
 else
  some (.inr a.2)
def y5e(p3:Bool)(c:(AutT×List Int×(List (Int×List Int))×List Bool))(a:Int×(List (Int×Int×Int×Int))×Int×List Bool):Option ((Int×(List (Int×Int×Int×Int))×Int×List Bool)⊕((List (Int×Int×Int×Int))×Int×List Bool)):=
 (y3T (c.1,c.2.1,c.2.2.1,a.2.2.2) a.1 p3).bind fun b=>
 if((b.length:Int)==0) then
  some (.inr a.2)
 else
  (iter (y3I b) (0,a.2.2.2)).bind fun d=>
  (app a.2.1 b).bind fun e=>
  some (.inl (W (a.1+1),e,a.1,d))
def y5f(p1:List Int)(a:Int×(List (Int×Int×Int×Int))×Int):Option ((Int×(List (Int×Int×Int×Int))×Int)⊕((List (Int×Int×Int×Int))×Int)):=
 if decide (a.1<(p1.length:Int)) then
  (idx p1 a.1).bind fun b=>
  (app a.2.1 ([(b,1,1,(-1))]:List (Int×Int×Int×Int))).bind fun c=>
  some (.inl (W (a.1+1),c,1))
 else
  some (.inr a.2)
def y5T(p0:AutT)(p1:List Int)(p2:List Int)(p3:Bool):Option ((List Int×List Int×(List (Int×Int×Int×Int)))×Int×AutT×List Int):=
 (y6l p0 p1 p2).bind fun b=>
 (iter (y5f p1) (0,([]:List (Int×Int×Int×Int)),0)).bind fun c=>
 (iter (y5e p3 b) (2,c.1,c.2,b.2.2.2)).bind fun a=>
 (y2x a.1).bind fun e=>
 (y1r (b.1,b.2.1,b.2.2.1,a.2.2)).bind fun f=>
 (iter (y3H a f) (0,([]:List Int),([]:List Int))).bind fun d=>
 (y2q (b.1,b.2.1,b.2.2.1,a.2.2)).bind fun g=>
 some ((d.1,d.2,e),a.2.1,g)
theorem yaX{p0:AutT}{p1:List Int}{p3:Bool}{r:((List Int×List Int×(List (Int×Int×Int×Int)))×Int×AutT×List Int)}(hm:y5T p0 p1 p2 p3=some r):
  F0 147 [.a (lx35 p0),.f qI p1,.f qI p2,.b p3] [] (.g [lH 0,lH 1,lH 2,lI r.2.1,lH 3,lI r.2.2.1.2.1,lH 4,lH 5,lH 6]) [ROW qI 3 r.1.1,ROW qI 3 r.1.2.1,ROW rE286 286 r.1.2.2,ROW qI 3 r.2.2.1.1,ROW qI 3 r.2.2.1.2.2.1,ROW qT 124 r.2.2.1.2.2.2,ROW qI 3 r.2.2.2]:=by
 unfold y5T at hm;refine Fw.mk2 Tryz.func147 Tryz.ntmps147 R (fun C=>?_) R;refine .sr (.bo 0 R (.al 1 zz131 R (.nr (.op (O.lg (l':=(lx35 p0)) ag35 Z R (.B R) R R R) R (.mv R (.mv R (bS hm fun d b7 hm=> .op (O.ca (r':= .q 2 0) [2,3] [(1,ROW rB 4 d.2.2.2),(0,.bx 289 [lF qI d.1.1,lI d.1.2.1,lF qI d.1.2.2.1,lF qT d.1.2.2.2,lF qI d.2.1,lM kvI (rL qI) d.2.2.1,lH 3])] (some 4) (ybi b7) cf197 R R Z R R R R ⟨⟨_,R,I4⟩,⟨_,R,I4⟩,trivial⟩ I3 R) R (.an R (.sr (.al 4 zz131 R (.ns (.seq (.sr (.mv R (.ln sl32 R (.mv R (.ns (.block (bS hm fun y P hm=>?_)))))))))))))))))));refine .cut1 (z:= .exit 0) y (fun (y:(List (Int×Int×Int×Int))×Int)=>⟨[(10,.q 0 0),(9,.q 2 0),(8,.q 4 0),(3,.b p3)],[(0,.bx 131 [lN,lN,lH 1,lI y.2,lN,lI 0,lN,lN,lN]),(1,ROW rE286 286 y.1),(2,.bx 289 [lF qI d.1.1,lI d.1.2.1,lF qI d.1.2.2.1,lF qT d.1.2.2.2,lF qI d.2.1,lM kvI (rL qI) d.2.2.1,lH 3]),(3,ROW rB 4 d.2.2.2),(4,.bx 131 [lN,lN,lN,lI 0,lN,lI 0,lN,lN,lN])],5⟩) ?_ fun b3=>?_
 ·skip
  refine .blkE (.seqN (.seq (.sr (.an R (.block (bS hm fun j Q hm=>?_))))));refine .cut1 (z:= .exit 2) j (fun (j:(List (Int×Int×Int×Int))×Int×List Bool)=>⟨[(10,.q 0 0),(9,.q 2 0),(8,.q 4 0)],[(0,.bx 131 [lN,lN,lH 1,lI j.2.1,lN,lI 0,lN,lN,lN]),(1,ROW rE286 286 j.1),(2,.bx 289 [lF qI d.1.1,lI d.1.2.1,lF qI d.1.2.2.1,lF qT d.1.2.2.2,lF qI d.2.1,lM kvI (rL qI) d.2.2.1,lH 3]),(3,ROW rB 4 j.2.2),(4,.bx 131 [lN,lN,lN,lI 0,lN,lI 0,lN,lN,lN])],5⟩) ?_ fun b4=>?_
  ·skip
   refine .blkE (.seqN (.sr (.fa y7D R (.fa yav R (.lb ybz R (bS hm fun E U hm=> .op (O.ca (r':= .tp []) [1] [(0,ROW rE286 286 E)] none (y9i U) cf199 R R Z R R R R ⟨⟨_,R,I4⟩,trivial⟩ I3 R) R (.ns (.seq (.sr (.mv R (bS hm fun v V hm=> .op (O.caY (r':= .h 5) [5] [(0,ROW qI 3 v)] (some 6) (y6z V) cf201 R R Z R R ⟨⟨R,(.q R ⟨.rf,.rf,.rf,.rf,.rf,.rf,.hr R,trivial⟩),trivial⟩,trivial⟩ R ⟨.row flr3,trivial⟩ (fun _ _ _ _ h=>h) ⟨⟨_,R,I4⟩,trivial⟩ I3 R) R (.op (O.lenH sl32 Z R R R) R (.mv R (.ns (.block (bS hm fun D S hm=>?_))))))))))))))));refine .cut1 (z:= .exit 6) D (fun (D:List Int×List Int)=>⟨[(10,.q 0 0),(9,.q 4 0),(8,.q 6 0)],[(0,.bx 131 [lH 1,lH 2,lH 3,lI j.2.1,lN,lI 0,lN,lN,lN]),(1,ROW qI 3 D.1),(2,ROW qI 3 D.2),(3,ROW rE286 286 E),(4,.bx 289 [lF qI d.1.1,lI d.1.2.1,lF qI d.1.2.2.1,lF qT d.1.2.2.2,lF qI d.2.1,lM kvI (rL qI) d.2.2.1,lH 5]),(5,ROW rB 4 j.2.2),(6,.bx 131 [lN,lN,lN,lI 0,lN,lI 0,lN,lN,lN])],7⟩) ?_ fun b5=>?_
   ·skip
    refine .blkE (.seqN (.sr (.mv R (bS hm fun t W hm=> .op (O.caY (r':= .tp [.a [lH 7,lI t.1.2.1,lH 8,lH 9],.h 10]) [7,8,9,10] [(0,ROW qI 3 t.1.1),(1,ROW qI 3 t.1.2.2.1),(2,ROW qT 124 t.1.2.2.2),(3,ROW qI 3 t.2)] (some 11) (y7Y W) cf202 R R Z R R ⟨⟨R,(.q R ⟨.rf,.rf,.rf,.rf,.rf,.rf,.hr R,trivial⟩),trivial⟩,trivial⟩ R ⟨.row flr3,.row flr3,.row y5C,.row flr3,trivial⟩ (fun _ _ _ _ h=>h) ⟨⟨_,R,I4⟩,⟨_,R,I4⟩,⟨_,R,I4⟩,⟨_,R,I4⟩,trivial⟩ I3 R) R (.mv R (.ex R (.ex R (.fa yf1 R (.st ag35.sz R (.fa yi8 R (.st nag32.sz R (.nr (.op (O.lg (l':=[lH 1,lH 2,lH 3,lI j.2.1,lH 7,lI t.1.2.1,lH 8,lH 9,lH 10]) ag131 Z R (.B R) R R R) R (.st ag131.sz R (.ns (.ret ?_))))))))))))))));cases hm;exact .rr [1,2,3,7,8,9,10] Tryz.results147 (.cell R R ag131 R .nil) R I3 ⟨⟨_,R,I4⟩,⟨_,R,I4⟩,⟨_,R,I4⟩,⟨_,R,I4⟩,⟨_,R,I4⟩,⟨_,R,I4⟩,⟨_,R,I4⟩,trivial⟩
   refine .nlb qI 3 0 0 R R (.nlb qI 3 0 1 R R (.iter (fun (m:Int×List Int×List Int)=>⟨[(79,.i m.1),(78,.i (v.length:Int)),(77,.h 0),(10,.q 1 0),(9,.q 5 0),(8,.q 7 0)],[(0,ROW qI 3 v),(1,.bx 131 [lH 2,lH 3,lH 4,lI j.2.1,lN,lI 0,lN,lN,lN]),(2,ROW qI 3 m.2.1),(3,ROW qI 3 m.2.2),(4,ROW rE286 286 E),(5,.bx 289 [lF qI d.1.1,lI d.1.2.1,lF qI d.1.2.2.1,lF qT d.1.2.2.2,lF qI d.2.1,lM kvI (rL qI) d.2.2.1,lH 6]),(6,ROW rB 4 j.2.2),(7,.bx 131 [lN,lN,lN,lI 0,lN,lI 0,lN,lN,lN])],8⟩) S [(0,5),(1,0),(2,6),(3,7),(4,1),(5,2),(6,3),(7,4)] R ?_));intro m L hm b1 a7;unfold y3H at hm;refine .sr (.bi R (.ns (.seq ?_)));refine .cc hm R (fun hm=>?_) fun hm=> .exit (.seqX (.seqX ((b5 _ (a7 _ (oi hm).symm)).sub [(0,1),(1,2),(2,3),(3,4),(4,5),(5,6),(6,7)] R)));refine .skip (.seqN ?_);refine .join2 (fun (w:List Int) (x:List Int)=>y3G m w x=some L) (fun w x=>⟨[(79,.i m.1),(78,.i (v.length:Int)),(77,.h 0),(10,.q 1 0),(9,.q 5 0),(8,.q 7 0)],[(0,ROW qI 3 v),(1,.bx 131 [lH 2,lH 3,lH 4,lI j.2.1,lN,lI 0,lN,lN,lN]),(2,ROW qI 3 w),(3,ROW qI 3 x),(4,ROW rE286 286 E),(5,.bx 289 [lF qI d.1.1,lI d.1.2.1,lF qI d.1.2.2.1,lF qT d.1.2.2.2,lF qI d.2.1,lM kvI (rL qI) d.2.2.1,lH 6]),(6,ROW rB 4 j.2.2),(7,.bx 131 [lN,lN,lN,lI 0,lN,lI 0,lN,lN,lN])],8⟩) ?_ ?_
   ·intro w x hm;unfold y3G at hm;exact .reg (.bi R (.mv R (.nil ((b1 _ (oi hm).symm).sub [] R))))
   ·intro F;refine .block (.sr (.mv R (bS hm fun b8 G hm=> .op (O.ir sl32 Z R R R G R) R (.op (O.ld nag3 Z R (.R R G lv3) R R) R (.sa R (.an R (.sr (.mv R (.op (O.nc .B Z R R) R (.fa y6B R (.lb y3i R (.mv R (bS hm fun c3 H hm=> .op (O.ir sl144 Z R R R H R) R (.op (O.ld nag4 Z R (.R R H lv4) R R) R (.ns ?_)))))))))))))));exact .cc hm R (fun hm=> .sr (.fa y7D R (.fa yeY R (.lb nag32 R (.mv R (.op (O.bsF (r:=qI) (zs:=([m.1]:List Int)) bs32 R R Z R R R (.c .k .n) R R R) R (bS hm fun c4 Y hm=> .op (O.ap 8 Tryz.underlying32 el3 R R Z R R (.fr R) Y R) R (.fa y7D R (.fa yeY R (.st nag32.sz R (.ns (.reg (.fa y7D R (.fa yeZ R (.lb nag32 R (.mv R (.op (O.bsF (r:=qI) (zs:=([b8]:List Int)) bs32 R R Z R R R (.c .k .n) R R R) R (bS hm fun c5 a0 hm=> .op (O.ap 9 Tryz.underlying32 el3 R R Z R R (.fr R) a0 R) R (.fa y7D R (.fa yeZ R (.st nag32.sz R (.nil (.blkN ((F _ _ hm).sub [(2,8),(3,9)] R)))))))))))))))))))))))) fun hm=> .skip (.blkN ((F _ _ hm).sub [] R))
  refine .iter (fun (e:Int×(List (Int×Int×Int×Int))×Int×List Bool)=>⟨[(13,.i e.1),(10,.q 0 0),(9,.q 2 0),(8,.q 4 0),(3,.b p3)],[(0,.bx 131 [lN,lN,lH 1,lI e.2.2.1,lN,lI 0,lN,lN,lN]),(1,ROW rE286 286 e.2.1),(2,.bx 289 [lF qI d.1.1,lI d.1.2.1,lF qI d.1.2.2.1,lF qT d.1.2.2.2,lF qI d.2.1,lM kvI (rL qI) d.2.2.1,lH 3]),(3,ROW rB 4 e.2.2.2),(4,.bx 131 [lN,lN,lN,lI 0,lN,lI 0,lN,lN,lN])],5⟩) Q [] R ?_;intro e c1 hm b0 a6;unfold y5e at hm;refine .seq (.block (.sr (.mv R (.mv R (.mv R (bS hm fun s X hm=> .op (O.caY (r':= .h 5) [5] [(0,ROW rE286 286 s)] (some 6) (y9t X) cf198 R R Z R R ⟨⟨R,(.q R ⟨.rf,.rf,.rf,.rf,.rf,.rf,.hr R,trivial⟩),trivial⟩,⟨R,LnL.rf⟩,⟨R,LnL.rf⟩,trivial⟩ R ⟨.row yg8,trivial⟩ (fun _ _ _ _ h=>h) ⟨⟨_,R,I4⟩,trivial⟩ I3 R) R (.an R (.seq (.sr (.mv R (.op (O.lenH sl127 Z R R R) R (.bi R (.ns ?_)))))))))))));refine .cc hm R (fun hm=> .exit (.seqX (.blkX R (.seqX (.seqX ((b4 _ (a6 _ (oi hm).symm)).sub [] R)))))) fun hm=>?_;refine .skip (.seqN (.seq (.sr (.mv R (.op (O.lenH sl127 Z R R R) R (.mv R (.ns (.block (bS hm fun K T hm=>?_)))))))));refine .cut1 (z:= .exit 4) K (fun (K:List Bool)=>⟨[(14,.h 0),(13,.i e.1),(10,.q 1 0),(9,.q 3 0),(8,.q 5 0),(3,.b p3)],[(0,ROW rE286 286 s),(1,.bx 131 [lN,lN,lH 2,lI e.2.2.1,lN,lI 0,lN,lN,lN]),(2,ROW rE286 286 e.2.1),(3,.bx 289 [lF qI d.1.1,lI d.1.2.1,lF qI d.1.2.2.1,lF qT d.1.2.2.2,lF qI d.2.1,lM kvI (rL qI) d.2.2.1,lH 4]),(4,ROW rB 4 K),(5,.bx 131 [lN,lN,lN,lI 0,lN,lI 0,lN,lN,lN])],6⟩) ?_ fun b6=>?_
  ·skip
   exact .blkE (.seqN (.sr (.fa y7D R (.fa yav R (.lb ybz R (.mv R (bS hm fun c6 a1 hm=> .op (O.ap 6 Tryz.underlying127 el286 R R Z R R (.ow R R) a1 R) R (.fa y7D R (.fa yav R (.st ybz.sz R (.ns (.reg (.mv R (.fa yf0 R (.st nag3.sz R (.nil (.blkN (.seqN (.reg (.mv R (.bi R (.sa R (.nil ((b0 _ (oi hm).symm).sub [(0,1),(1,6),(2,3),(3,4),(4,5)] R))))))))))))))))))))))))
  refine .iter (fun (o:Int×List Bool)=>⟨[(51,.i o.1),(50,.i (s.length:Int)),(49,.h 0),(14,.h 0),(13,.i e.1),(10,.q 1 0),(9,.q 3 0),(8,.q 5 0),(3,.b p3)],[(0,ROW rE286 286 s),(1,.bx 131 [lN,lN,lH 2,lI e.2.2.1,lN,lI 0,lN,lN,lN]),(2,ROW rE286 286 e.2.1),(3,.bx 289 [lF qI d.1.1,lI d.1.2.1,lF qI d.1.2.2.1,lF qT d.1.2.2.2,lF qI d.2.1,lM kvI (rL qI) d.2.2.1,lH 4]),(4,ROW rB 4 o.2),(5,.bx 131 [lN,lN,lN,lI 0,lN,lI 0,lN,lN,lN])],6⟩) T [(0,5),(1,0),(2,1),(3,2),(4,3),(5,4)] R ?_;intro o c2 hm b2 a8;unfold y3I at hm;refine .sr (.bi R (.ns (.seq ?_)));refine .cc hm R (fun hm=>?_) fun hm=> .exit (.seqX (.seqX ((b6 _ (a8 _ (oi hm).symm)).sub [] R)));refine .skip (.seqN (.seq (.block (.sr (bS hm fun M I hm=> .op (O.ir sl127 Z R R R I R) R (.op (O.lg (l':=(lx286 M)) ag286 Z R (.R R I lv286) R R R) R (.al 6 zz286 R (.st ag286.sz R (.ns ?_)))))))));refine .sub (τ:=⟨[(16,.q 6 0),(51,.i o.1),(50,.i (s.length:Int)),(49,.h 0),(14,.h 0),(13,.i e.1),(10,.q 1 0),(9,.q 3 0),(8,.q 5 0),(3,.b p3)],[(6,.bx 286 (lx286 M)),(0,ROW rE286 286 s),(1,.bx 131 [lN,lN,lH 2,lI e.2.2.1,lN,lI 0,lN,lN,lN]),(2,ROW rE286 286 e.2.1),(3,.bx 289 [lF qI d.1.1,lI d.1.2.1,lF qI d.1.2.2.1,lF qT d.1.2.2.2,lF qI d.2.1,lM kvI (rL qI) d.2.2.1,lH 4]),(4,ROW rB 4 o.2),(5,.bx 131 [lN,lN,lN,lI 0,lN,lI 0,lN,lN,lN])],7⟩) ?_ [] R;refine bS hm fun c7 J hm=>bS hm fun b9 a2 hm=>?_;refine .drg 7 [(7,[]),(7,[oT]),(7,[oT,oT]),(7,tT 3),(7,[]),(7,[oF,oF,oF,oF,oT]),(7,tT 6),(7,tT 7)] [_,_,_,_,_,_,_,_] ⟨[(51,.i o.1),(50,.i (s.length:Int)),(49,.h 0),(14,.h 0),(13,.i e.1),(10,.q 1 0),(9,.q 3 0),(8,.q 5 0),(3,.b p3)],[(0,ROW rE286 286 s),(1,.bx 131 [lN,lN,lH 2,lI e.2.2.1,lN,lI 0,lN,lN,lN]),(2,ROW rE286 286 e.2.1),(3,.bx 289 [lF qI d.1.1,lI d.1.2.1,lF qI d.1.2.2.1,lF qT d.1.2.2.2,lF qI d.2.1,lM kvI (rL qI) d.2.2.1,lH 4]),(4,ROW rB 4 b9),(5,.bx 131 [lN,lN,lN,lI 0,lN,lI 0,lN,lN,lN])],7⟩ ⟨O.mv Z R R,O.nc .B Z R R,O.faP y6B Z R R,O.ld y3i Z R (.B R) R R,O.faP yeX Z R R,O.ld nag3 Z R (.B R) R R,O.ir sl144 Z R R R J R,O.su (z:=false) nag4.sz Z R R J a2 R R R lv4 R .b,trivial⟩ (by kernel_rfl) R ?_;exact .blkN (.seqN (.reg (.bi R (.mv R (.nil ((b2 _ (oi hm).symm).sub [] R))))))
 refine .nlb rE286 286 4 2 R R (.iter (fun (u:Int×(List (Int×Int×Int×Int))×Int)=>⟨[(25,.i u.1),(24,.i (p1.length:Int)),(23,.f qI p1),(10,.q 0 0),(9,.q 2 0),(8,.q 4 0),(3,.b p3)],[(0,.bx 131 [lN,lN,lH 1,lI u.2.2,lN,lI 0,lN,lN,lN]),(1,ROW rE286 286 u.2.1),(2,.bx 289 [lF qI d.1.1,lI d.1.2.1,lF qI d.1.2.2.1,lF qT d.1.2.2.2,lF qI d.2.1,lM kvI (rL qI) d.2.2.1,lH 3]),(3,ROW rB 4 d.2.2.2),(4,.bx 131 [lN,lN,lN,lI 0,lN,lI 0,lN,lN,lN])],5⟩) P [(0,4),(1,5),(4,1)] R ?_);intro u c0 hm a9 a5;unfold y5f at hm;refine .sr (.bi R (.ns (.seq ?_)));exact .cc hm R (fun hm=> .skip (.seqN (.seq (.block (.sr (bS hm fun N a3 hm=> .ix sl32 a3 R (.le nag3 lv3 R (.an R (.sr (.fa y7D R (.fa yav R (.lb ybz R (.mv R (.op (O.bu (l:=[lI N,lI 1,lI 1,lI (-1)]) pl286 R Z R R R) R (.op (O.bsF (r:=rE286) (zs:=([(N,1,1,(-1))]:List (Int×Int×Int×Int))) bs127 R R Z R R R (.c (.p .k (.p .k (.p .k .k))) .n) R R R) R (bS hm fun c8 a4 hm=> .op (O.ap 5 Tryz.underlying127 el286 R R Z R R (.fr R) a4 R) R (.fa y7D R (.fa yav R (.st ybz.sz R (.ns (.reg (.fa yf0 R (.st nag3.sz R (.nil (.blkN (.seqN (.reg (.bi R (.mv R (.nil ((a9 _ (oi hm).symm).sub [(1,5)] R))))))))))))))))))))))))))))))) fun hm=> .exit (.seqX (.seqX ((b3 _ (a5 _ (oi hm).symm)).sub [] R)))
def y3s(p0:AutT)(p1:List Int)(p2:List Int):Option (((List Int×List Int×(List (Int×Int×Int×Int)))×Int×AutT×List Int)×Int):=
 (y6k p0 p1 p2).bind fun a=>
 if(a != 0) then
  some (((([]:List Int),([]:List Int),([]:List (Int×Int×Int×Int))),0,(([]:List Int),0,([]:List Int),([]:List (Int×Int×Int))),([]:List Int)),a)
 else
  (y5T p0 p1 p2 true).bind fun b=>
  some (b,0)
theorem y9W{p0:AutT}{p1:List Int}{r:((List Int×List Int×(List (Int×Int×Int×Int)))×Int×AutT×List Int)×Int}(hm:y3s p0 p1 p2=some r):
    F0 74 [.a (lx35 p0),.f qI p1,.f qI p2] [] (.tp [.a [lH 0,lH 1,lH 2,lI r.1.2.1,lH 3,lI r.1.2.2.1.2.1,lH 4,lH 5,lH 6],.i r.2]) [ROW qI 3 r.1.1.1,ROW qI 3 r.1.1.2.1,ROW rE286 286 r.1.1.2.2,ROW qI 3 r.1.2.2.1.1,ROW qI 3 r.1.2.2.1.2.2.1,ROW qT 124 r.1.2.2.1.2.2.2,ROW qI 3 r.1.2.2.2]:=by
  unfold y3s at hm;refine Fw.mk2 Tryz.func74 Tryz.ntmps74 R (fun C=>?_) R;refine .sr (.bo 0 R (.al 1 zz131 R (.an R (.seq (.sr (.op (O.lg (l':=(lx35 p0)) ag35 Z R (.B R) R R R) R (.mv R (.mv R (bS hm fun e c hm=> .c0 (ybh c) cf146 R (.an R (.sr (.mv R (.bi R (.ns ?_))))))))))))));refine .cc hm R (fun hm=>?_) fun hm=>?_
  ·refine .sr (.op (O.bu (l:=[lN,lN,lN,lI 0,lN,lI 0,lN,lN,lN]) pl131 R Z R R R) R (.mv R (.st ag131.sz R (.an R (.ret (.seqR (.nlb qI 3 1 0 R R (.nlb qI 3 1 1 R R (.nlb rE286 286 1 2 R R (.nlb qI 3 1 4 R R (.nlb qI 3 1 6 R R (.nlb qT 124 1 7 R R (.nlb qI 3 1 8 R R ?_)))))))))))));cases hm;exact .rr [2,3,4,5,6,7,8] Tryz.results74 (.cell R R ag131 R (.tmp R .nil)) R I3 ⟨⟨_,R,I4⟩,⟨_,R,I4⟩,⟨_,R,I4⟩,⟨_,R,I4⟩,⟨_,R,I4⟩,⟨_,R,I4⟩,⟨_,R,I4⟩,trivial⟩
  ·refine .skip (.seqN (.sr (.op (O.lg (l':=(lx35 p0)) ag35 Z R (.B R) R R R) R (.mv R (.mv R (bS hm fun b d hm=> .op (O.ca (r':= .g [lH 2,lH 3,lH 4,lI b.2.1,lH 5,lI b.2.2.1.2.1,lH 6,lH 7,lH 8]) [2,3,4,5,6,7,8] [(0,ROW qI 3 b.1.1),(1,ROW qI 3 b.1.2.1),(2,ROW rE286 286 b.1.2.2),(3,ROW qI 3 b.2.2.1.1),(4,ROW qI 3 b.2.2.1.2.2.1),(5,ROW qT 124 b.2.2.1.2.2.2),(6,ROW qI 3 b.2.2.2)] (some 9) (yaX d) cf147 R R Z R R R R ⟨⟨_,R,I4⟩,⟨_,R,I4⟩,⟨_,R,I4⟩,⟨_,R,I4⟩,⟨_,R,I4⟩,⟨_,R,I4⟩,⟨_,R,I4⟩,trivial⟩ I3 R) R (.st ag131.sz R (.an R (.ret ?_)))))))));cases hm;exact .rr [2,3,4,5,6,7,8] Tryz.results74 (.cell R R ag131 R (.tmp R .nil)) R I3 ⟨⟨_,R,I4⟩,⟨_,R,I4⟩,⟨_,R,I4⟩,⟨_,R,I4⟩,⟨_,R,I4⟩,⟨_,R,I4⟩,⟨_,R,I4⟩,trivial⟩
def y2g(a:Int×List Int)(b:Int)(c:Bool):Option (Int⊕(List Int)):=
 if c then
  (app a.2 ([a.1]:List Int)).bind fun d=>
  some (.inr d)
 else
  some (.inl (W (b+1)))
def y3d(d:PbT)(e:AutT×List (List Int)×Int)(a:Int×List Int)(b:Int):Option (Int⊕(List Int)):=
 if decide (b<(d.2.2.length:Int)) then
  (idx d.2.2 b).bind fun c=>
  (idx e.2.1 a.1).bind fun h=>
  (idx h 0).bind fun i=>
  (y4c d.1 i c).bind fun f=>
  if decide (f≥0) then
   (y4c e.1 a.1 c).bind fun g=>
   y2g a b (decide (g<0))
  else
   y2g a b false
 else
  some (.inr a.2)
def y2h(d:PbT)(c:AutT×List (List Int)×Int)(a:Int×List Int):Option ((Int×List Int)⊕(List Int)):=
 if decide (a.1<(c.2.1.length:Int)) then
  (iter (y3d d c a) 0).bind fun b=>
  some (.inl (W (a.1+1),b))
 else
  some (.inr a.2)
def y5r(p0:(Int×y1I)×(Int×y1I)×Int)(p1:Bool):Option PbT:=
 (y5o p0).bind fun a=>
 if(!p1) then
  some a
 else
  (yz ([a.1,a.2.1]:List AutT)).bind fun c=>
  (iter (y2h a c) (0,([]:List Int))).bind fun b=>
  (y3s c.1 b a.2.2).bind fun d=>
  some (a.1,d.1.2.2.1,a.2.2)
theorem yaf{p0:(Int×y1I)×(Int×y1I)×Int}{r:PbT}(hm:y5r p0 p1=some r):
    F0 16 [.a (lx30 p0),.b p1] [] (.g [lF qI r.1.1,lI r.1.2.1,lF qI r.1.2.2.1,lF qT r.1.2.2.2,lH 0,lI r.2.1.2.1,lH 1,lH 2,lH 3]) [ROW qI 3 r.2.1.1,ROW qI 3 r.2.1.2.2.1,ROW qT 124 r.2.1.2.2.2,ROW qI 3 r.2.2]:=by
  unfold y5r at hm;refine Fw.mk2 Tryz.func16 Tryz.ntmps16 R (fun C=>?_) R;refine .sr (.bo 0 R (.al 1 zz37 R (.nr (.op (O.lg (l':=(lx30 p0)) ag30 Z R (.B R) R R R) R (bS hm fun d U hm=> .op (O.ca (r':= .tp [.a [lH 2,lI d.1.2.1,lH 3,lH 4],.a [lH 5,lI d.2.1.2.1,lH 6,lH 7],.h 8]) [2,3,4,5,6,7,8] [(0,ROW qI 3 d.1.1),(1,ROW qI 3 d.1.2.2.1),(2,ROW qT 124 d.1.2.2.2),(3,ROW qI 3 d.2.1.1),(4,ROW qI 3 d.2.1.2.2.1),(5,ROW qT 124 d.2.1.2.2.2),(6,ROW qI 3 d.2.2)] (some 9) (yae U) cf72 R R Z R R R R ⟨⟨_,R,I4⟩,⟨_,R,I4⟩,⟨_,R,I4⟩,⟨_,R,I4⟩,⟨_,R,I4⟩,⟨_,R,I4⟩,⟨_,R,I4⟩,trivial⟩ I3 R) R (.mv R (.ex R (.ex R (.ex R (.al 9 zz35 R (.al 10 zz35 R (.st ag35.sz R (.st ag35.sz R (.an R (.sr (.op (O.lg (l':=[lH 2,lI d.1.2.1,lH 3,lH 4]) ag35 Z R (.B R) R R R) R (.op (O.lg (l':=[lH 5,lI d.2.1.2.1,lH 6,lH 7]) ag35 Z R (.B R) R R R) R (.mv R (.op (O.bu (l:=[lH 2,lI d.1.2.1,lH 3,lH 4,lH 5,lI d.2.1.2.1,lH 6,lH 7,lH 8]) pl37 R Z R R R) R (.al 11 zz37 R (.st ag37.sz R (.ns (.seq (.sr (.mv R (.op (O.not Z R R) R (.ns ?_)))))))))))))))))))))))))));refine .cc hm R (fun hm=>?_) fun hm=>?_
  ·refine .sr (.op (O.lg (l':=[lH 2,lI d.1.2.1,lH 3,lH 4,lH 5,lI d.2.1.2.1,lH 6,lH 7,lH 8]) ag37 Z R (.B R) R R R) R (.st ag37.sz R (.ns (.ret (.seqR (.fz 2 [] [1,9,11] R R fR R R (.fz 3 [] [1,9,11] R R fR R R (.fz 4 [] [1,9,11] R R fR R R ?_))))))));cases hm;exact .rr [5,6,7,8] Tryz.results16 (.cell R R ag37 R .nil) R I3 ⟨⟨_,R,I4⟩,⟨_,R,I4⟩,⟨_,R,I4⟩,⟨_,R,I4⟩,trivial⟩
  ·refine .skip (.seqN (.sr (.op (O.lg (l':=[lH 2,lI d.1.2.1,lH 3,lH 4]) ag35 Z R (.B R) R R R) R (.op (O.lg (l':=[lH 5,lI d.2.1.2.1,lH 6,lH 7]) ag35 Z R (.B R) R R R) R (.fz 2 [32] [9,11] R R fR R R (.fz 3 [32] [9,11] R R fR R R (.fz 4 [32] [9,11] R R fR R R (.fz 5 [33] [10,11] R R fR R R (.fz 6 [33] [10,11] R R fR R R (.fz 7 [33] [10,11] R R fR R R (.op (O.bsF (r:=rE35) (zs:=([d.1,d.2.1]:List AutT)) bs66 R R Z R R R (.c (.p .l (.p .k (.p .l .l))) (.c (.p .l (.p .k (.p .l .l))) .n)) R R R) R (bS hm fun e V hm=> .op (O.ca (r':= .tp [.a [lH 12,lI e.1.2.1,lH 13,lH 14],.h 15,.i e.2.2]) [12,13,14,15] [(0,ROW qI 3 e.1.1),(1,ROW qI 3 e.1.2.2.1),(2,ROW qT 124 e.1.2.2.2),(3,ROW (rL qI) 32 e.2.1)] (some 16) (y7G V) cf32 R R Z R R R R ⟨⟨_,R,I4⟩,⟨_,R,I4⟩,⟨_,R,I4⟩,⟨_,R,I4⟩,trivial⟩ I3 R) R (.mv R (.ex R (.ex R (.ex R (.al 16 zz35 R (.st ag35.sz R (.sa R (.an R (.sr (.an R (.seq (.sr (.an R (.block (bS hm fun y H hm=>?_)))))))))))))))))))))))))));refine .cut1 (z:= .exit 0) y (fun (y:List Int)=>⟨[(12,.h 0),(9,.q 1 0),(8,.q 5 0),(7,.h 6),(4,.q 7 0)],[(0,ROW qI 3 y),(1,.bx 35 [lH 2,lI e.1.2.1,lH 3,lH 4]),(2,ROW qI 3 e.1.1),(3,ROW qI 3 e.1.2.2.1),(4,ROW qT 124 e.1.2.2.2),(5,.bx 37 [lF qI d.1.1,lI d.1.2.1,lF qI d.1.2.2.1,lF qT d.1.2.2.2,lF qI d.2.1.1,lI d.2.1.2.1,lF qI d.2.1.2.2.1,lF qT d.2.1.2.2.2,lH 6]),(6,ROW qI 3 d.2.2),(7,.bx 37 [lN,lI 0,lN,lN,lN,lI 0,lN,lN,lN])],8⟩) ?_ fun T=>?_
   · skip
     refine .blkE (.seqN (.sr (.op (O.lg (l':=[lH 2,lI e.1.2.1,lH 3,lH 4]) ag35 Z R (.B R) R R R) R (.mv R (.mv R (bS hm fun j J hm=> .op (O.caY (r':= .tp [.a [lH 8,lH 9,lH 10,lI j.1.2.1,lH 11,lI j.1.2.2.1.2.1,lH 12,lH 13,lH 14],.i j.2]) [8,9,10,11,12,13,14] [(0,ROW qI 3 j.1.1.1),(1,ROW qI 3 j.1.1.2.1),(2,ROW rE286 286 j.1.1.2.2),(3,ROW qI 3 j.1.2.2.1.1),(4,ROW qI 3 j.1.2.2.1.2.2.1),(5,ROW qT 124 j.1.2.2.1.2.2.2),(6,ROW qI 3 j.1.2.2.2)] (some 15) (y9W J) cf74 R R Z R R ⟨⟨R,.hr R,.rf,.hr R,.hr R,trivial⟩,⟨R,.hr R,trivial⟩,⟨R,.hr R,trivial⟩,trivial⟩ R ⟨.row flr3,.row flr3,.row yg8,.row flr3,.row flr3,.row y5C,.row flr3,trivial⟩ (fun _ _ _ _ h=>h) ⟨⟨_,R,I4⟩,⟨_,R,I4⟩,⟨_,R,I4⟩,⟨_,R,I4⟩,⟨_,R,I4⟩,⟨_,R,I4⟩,⟨_,R,I4⟩,trivial⟩ I3 R) R (.mv R (.ex R (.ex R (.al 15 zz131 R (.st ag131.sz R (.an R (.sr (.fa yf1 R (.op (O.lg (l':=[lH 11,lI j.1.2.2.1.2.1,lH 12,lH 13]) ag35 Z R (.B R) R R R) R (.fa y4B R (.st ag35.sz R (.nr (.op (O.lg (l':=[lF qI d.1.1,lI d.1.2.1,lF qI d.1.2.2.1,lF qT d.1.2.2.2,lH 11,lI j.1.2.2.1.2.1,lH 12,lH 13,lH 6]) ag37 Z R (.B R) R R R) R (.st ag37.sz R (.ns (.ret ?_))))))))))))))))))))));cases hm;exact .rr [11,12,13,6] Tryz.results16 (.cell R R ag37 R .nil) R I3 ⟨⟨_,R,I4⟩,⟨_,R,I4⟩,⟨_,R,I4⟩,⟨_,R,I4⟩,trivial⟩
   refine .nlg qI 3 12 0 R R (.iter (fun (f:Int×List Int)=>⟨[(13,.i f.1),(12,.h 0),(10,.h 1),(9,.q 2 0),(8,.q 6 0),(7,.h 7),(5,.q 8 0),(4,.q 9 0)],[(0,ROW qI 3 f.2),(1,ROW (rL qI) 32 e.2.1),(2,.bx 35 [lH 3,lI e.1.2.1,lH 4,lH 5]),(3,ROW qI 3 e.1.1),(4,ROW qI 3 e.1.2.2.1),(5,ROW qT 124 e.1.2.2.2),(6,.bx 37 [lF qI d.1.1,lI d.1.2.1,lF qI d.1.2.2.1,lF qT d.1.2.2.2,lF qI d.2.1.1,lI d.2.1.2.1,lF qI d.2.1.2.2.1,lF qT d.2.1.2.2.2,lH 7]),(7,ROW qI 3 d.2.2),(8,.bx 35 (lx35 d.1)),(9,.bx 37 [lN,lI 0,lN,lN,lN,lI 0,lN,lN,lN])],10⟩) H [(0,17),(1,15),(2,16),(3,12),(4,13),(5,14),(6,11),(7,8),(8,9),(9,1)] R ?_);intro f Y hm Q P;unfold y2h at hm;refine .seq (.sr (.mv R (.mv R (.op (O.lenH sl53 Z R R R) R (.bi R (.ns ?_))))));refine .cc hm R (fun hm=>?_) fun hm=> .exit (.seqX (.seqX ((T _ (P _ (oi hm).symm)).sub [(1,2),(2,3),(3,4),(4,5),(5,6),(6,7),(7,9)] R)));refine .skip (.seqN (.seq (.block (.sr (.mv R (.op (O.lenH sl32 Z R R R) R (.mv R (.ns (.block (bS hm fun D I hm=>?_))))))))));refine .cut1 (z:= .exit 2) D (fun (D:List Int)=>⟨[(12,.h 0),(13,.i f.1),(10,.h 1),(9,.q 2 0),(8,.q 6 0),(7,.h 7),(5,.q 8 0),(4,.q 9 0)],[(0,ROW qI 3 D),(1,ROW (rL qI) 32 e.2.1),(2,.bx 35 [lH 3,lI e.1.2.1,lH 4,lH 5]),(3,ROW qI 3 e.1.1),(4,ROW qI 3 e.1.2.2.1),(5,ROW qT 124 e.1.2.2.2),(6,.bx 37 [lF qI d.1.1,lI d.1.2.1,lF qI d.1.2.2.1,lF qT d.1.2.2.2,lF qI d.2.1.1,lI d.2.1.2.1,lF qI d.2.1.2.2.1,lF qT d.2.1.2.2.2,lH 7]),(7,ROW qI 3 d.2.2),(8,.bx 35 (lx35 d.1)),(9,.bx 37 [lN,lI 0,lN,lN,lN,lI 0,lN,lN,lN])],10⟩) ?_ fun G=>?_
   · skip
     exact .blkE (.blkN (.seqN (.reg (.mv R (.bi R (.sa R (.nil ((Q _ (oi hm).symm).sub [] R))))))))
   refine .iter (fun (m:Int)=>⟨[(47,.i m),(46,.i (d.2.2.length:Int)),(45,.h 0),(13,.i f.1),(12,.h 1),(10,.h 2),(9,.q 3 0),(8,.q 7 0),(7,.h 0),(5,.q 8 0),(4,.q 9 0)],[(0,ROW qI 3 d.2.2),(1,ROW qI 3 f.2),(2,ROW (rL qI) 32 e.2.1),(3,.bx 35 [lH 4,lI e.1.2.1,lH 5,lH 6]),(4,ROW qI 3 e.1.1),(5,ROW qI 3 e.1.2.2.1),(6,ROW qT 124 e.1.2.2.2),(7,.bx 37 [lF qI d.1.1,lI d.1.2.1,lF qI d.1.2.2.1,lF qT d.1.2.2.2,lF qI d.2.1.1,lI d.2.1.2.1,lF qI d.2.1.2.2.1,lF qT d.2.1.2.2.2,lH 0]),(8,.bx 35 (lx35 d.1)),(9,.bx 37 [lN,lI 0,lN,lN,lN,lI 0,lN,lN,lN])],10⟩) I [(0,7),(1,0),(2,1),(3,2),(4,3),(5,4),(6,5),(7,6)] R ?_;intro m F hm S w;unfold y3d at hm;refine .sr (.bi R (.ns (.seq ?_)));refine .cc hm R (fun hm=>?_) fun hm=> .exit (.seqX (.seqX ((G _ (w _ (oi hm).symm)).sub [(0,1),(1,2),(2,3),(3,4),(4,5),(5,6),(6,7),(7,0)] R)));refine .skip (.seqN (.seq (.block (.sr (bS hm fun X u hm=> .op (O.ir sl32 Z R R R u R) R (.op (O.ld nag3 Z R (.R R u lv3) R R) R (.an R ?_)))))));refine .join1 (fun (s:Bool)=>y2g f m s=some F) (fun s=>⟨[(67,.b s),(47,.i m),(46,.i (d.2.2.length:Int)),(45,.h 0),(13,.i f.1),(12,.h 1),(10,.h 2),(9,.q 3 0),(8,.q 7 0),(7,.h 0),(5,.q 8 0),(4,.q 9 0)],[(0,ROW qI 3 d.2.2),(1,ROW qI 3 f.2),(2,ROW (rL qI) 32 e.2.1),(3,.bx 35 [lH 4,lI e.1.2.1,lH 5,lH 6]),(4,ROW qI 3 e.1.1),(5,ROW qI 3 e.1.2.2.1),(6,ROW qT 124 e.1.2.2.2),(7,.bx 37 [lF qI d.1.1,lI d.1.2.1,lF qI d.1.2.2.1,lF qT d.1.2.2.2,lF qI d.2.1.1,lI d.2.1.2.1,lF qI d.2.1.2.2.1,lF qT d.2.1.2.2.2,lH 0]),(8,.bx 35 (lx35 d.1)),(9,.bx 37 [lN,lI 0,lN,lN,lN,lI 0,lN,lN,lN])],10⟩) ?_ ?_
   · intro s hm;unfold y2g at hm;exact .cc hm R (fun hm=> .sr (.mv R (.mv R (.op (O.bsF (r:=qI) (zs:=([f.1]:List Int)) bs32 R R Z R R R (.c .k .n) R R R) R (bS hm fun a1 M hm=> .op (O.ap 10 Tryz.underlying32 el3 R R Z R R (.fr R) M R) R (.an R (.exit (.blkX R (.seqX (.seqX ((G _ (w _ (oi hm).symm)).sub [(0,10),(1,2),(2,3),(3,4),(4,5),(5,6),(6,7),(7,0)] R))))))))))) fun hm=> .skip (.blkN (.seqN (.reg (.bi R (.mv R (.nil ((S _ (oi hm).symm).sub [] R)))))))
   · intro t;refine .sub (τ:=⟨[(15,.i X),(47,.i m),(46,.i (d.2.2.length:Int)),(45,.h 0),(13,.i f.1),(12,.h 1),(10,.h 2),(9,.q 3 0),(8,.q 7 0),(7,.h 0),(5,.q 8 0),(4,.q 9 0)],[(0,ROW qI 3 d.2.2),(1,ROW qI 3 f.2),(2,ROW (rL qI) 32 e.2.1),(3,.bx 35 [lH 4,lI e.1.2.1,lH 5,lH 6]),(4,ROW qI 3 e.1.1),(5,ROW qI 3 e.1.2.2.1),(6,ROW qT 124 e.1.2.2.2),(7,.bx 37 [lF qI d.1.1,lI d.1.2.1,lF qI d.1.2.2.1,lF qT d.1.2.2.2,lF qI d.2.1.1,lI d.2.1.2.1,lF qI d.2.1.2.2.1,lF qT d.2.1.2.2.2,lH 0]),(8,.bx 35 (lx35 d.1)),(9,.bx 37 [lN,lI 0,lN,lN,lN,lI 0,lN,lN,lN])],10⟩) ?_ [] R;refine bS hm fun a2 v hm=>bS hm fun a3 N hm=>bS hm fun a0 K hm=> .drP 10 [(10,[]),(10,[]),(10,[]),(10,[oF,oT,oT]),(10,fA 1 (tT 3)),(10,fA 1 (tT 4)),(10,fA 1 (tT 5)),(10,[]),(10,tT 8),(10,tT 9)] [_,_,_,_,_,_,_,_,_,_] ⟨O.lg (l':=(lx35 d.1)) ag35 Z R (.B R) R R R,O.mv Z R R,O.mv Z R R,O.ir sl53 Z R R R v R,O.ld nag32 Z R (.R R v lv32) R R,O.ix sl32 Z R R N R,O.ld nag3 Z R (.E lv3) R R,O.mv Z R R,O.ca0 (y7S K) cf73 R R Z R R R,O.bi Z R R R R,trivial⟩ fun x=>?_;rcases ifS hm with ⟨o,hm⟩|⟨o,hm⟩
     · skip
       exact bS hm fun W L hm=> .drF x [(10,tT 10),(10,tT 11),(10,tT 11),(10,tT 11),(10,tT 14),(10,tT 15),(10,tT 16)] [_,_,_,_,_,_,_] ⟨[(67,.b (decide (W<0))),(47,.i m),(46,.i (d.2.2.length:Int)),(45,.h 0),(13,.i f.1),(12,.h 1),(10,.h 2),(9,.q 3 0),(8,.q 7 0),(7,.h 0),(5,.q 8 0),(4,.q 9 0)],[(0,ROW qI 3 d.2.2),(1,ROW qI 3 f.2),(2,ROW (rL qI) 32 e.2.1),(3,.bx 35 [lH 4,lI e.1.2.1,lH 5,lH 6]),(4,ROW qI 3 e.1.1),(5,ROW qI 3 e.1.2.2.1),(6,ROW qT 124 e.1.2.2.2),(7,.bx 37 [lF qI d.1.1,lI d.1.2.1,lF qI d.1.2.2.1,lF qT d.1.2.2.2,lF qI d.2.1.1,lI d.2.1.2.1,lF qI d.2.1.2.2.1,lF qT d.2.1.2.2.2,lH 0]),(8,.bx 35 (lx35 d.1)),(9,.bx 37 [lN,lI 0,lN,lN,lN,lI 0,lN,lN,lN])],10⟩ ⟨O.kn (O.mv Z R R) o,O.lg (l':=[lH 4,lI e.1.2.1,lH 5,lH 6]) ag35 (Gu.mk R R) R (.B R) R R R,O.mv (Gu.mk R R) R R,O.mv (Gu.mk R R) R R,O.caZ (y7S L) cf73 R R (Gu.mk R R) R ⟨⟨R,.hr R,.rf,.hr R,.hr R,trivial⟩,⟨R,LnL.rf⟩,⟨R,LnL.rf⟩,trivial⟩ (fun _ _ _ _ _ h=>h) R,O.bi (Gu.mk R R) R R R R,O.pkT Z R R R R,trivial⟩ (by kernel_rfl) R ((t _ hm).sub [] R)
     · skip
       exact .drF x [(10,tT 10),(10,tT 11),(10,tT 11),(10,tT 11),(10,tT 14),(10,tT 15),(10,tT 16)] [_,_,_,_,_,_,_] ⟨[(67,.b false),(47,.i m),(46,.i (d.2.2.length:Int)),(45,.h 0),(13,.i f.1),(12,.h 1),(10,.h 2),(9,.q 3 0),(8,.q 7 0),(7,.h 0),(5,.q 8 0),(4,.q 9 0)],[(0,ROW qI 3 d.2.2),(1,ROW qI 3 f.2),(2,ROW (rL qI) 32 e.2.1),(3,.bx 35 [lH 4,lI e.1.2.1,lH 5,lH 6]),(4,ROW qI 3 e.1.1),(5,ROW qI 3 e.1.2.2.1),(6,ROW qT 124 e.1.2.2.2),(7,.bx 37 [lF qI d.1.1,lI d.1.2.1,lF qI d.1.2.2.1,lF qT d.1.2.2.2,lF qI d.2.1.1,lI d.2.1.2.1,lF qI d.2.1.2.2.1,lF qT d.2.1.2.2.2,lH 0]),(8,.bx 35 (lx35 d.1)),(9,.bx 37 [lN,lI 0,lN,lN,lN,lI 0,lN,lN,lN])],10⟩ ⟨O.kn (O.mv Z R R) o,O.skip R R R R,O.skip R R R R,O.skip R R R R,O.skip R R R R,O.skip R R R R,O.pkF Z R R R R,trivial⟩ (by kernel_rfl) R ((t _ hm).sub [] R)
def y6p(p0:List Int)(p1:Int→Option Bool):Option Bool:=
 (y4D p0 p1).bind fun a=>
 some (decide (a≥0))
theorem y9j{p0:List Int}{p1:Int→Option Bool}{r:Bool}(hm:y6p p0 p1=some r):
  F0 106 [.f qI p0,.o (lW Tryz.prog (fun (x:Int)=> [.i x]) (fun (r:Bool)=> .b r) p1)] [] (.b r) []:=by
 unfold y6p at hm;refine Fw.mk2 Tryz.func106 Tryz.ntmps106 R (fun C=>?_) R;refine .sr (.an R (.sr (.mv R (.mv R (bS hm fun c a hm=> .c0 (y7u a) cf136 R (.bi R (.an R (.ret ?_))))))));cases hm;exact .rr [] Tryz.results106 (.tmp R .nil) R I3 trivial
def y1P(p0:List Int)(p1:List Int)(a:Int):Option (Int⊕(Unit⊕Unit)):=
 if decide (a<(p0.length:Int)) then
  (idx p0 a).bind fun b=>
  (idx p1 a).bind fun c=>
  if(b != c) then
   some (.inr (.inr (())))
  else
   some (.inl (W (a+1)))
 else
  some (.inr (.inl ()))
def y1h(p0:List Int)(p1:List Int):Option Bool:=
 if((p0.length:Int) != (p1.length:Int)) then
  some false
 else
  (iter (y1P p0 p1) 0).bind fun a=>
  match a with
  | .inl b=>
   some true
  | .inr (c)=>
   some false
theorem y4I{p0:List Int}{p1:List Int}{r:Bool}(hm:y1h p0 p1=some r):
    F0 59 [.f qI p0,.f qI p1] [] (.b r) []:=by
  unfold y1h at hm;refine Fw.mk2 Tryz.func59 Tryz.ntmps59 R (fun C=>?_) R;refine .sr (.an R (.seq (.sr (.mv R (.ln sl32 R (.mv R (.ln sl32 R (.bi R (.ns ?_)))))))));refine .cc hm R (fun hm=>?_) fun hm=>?_
  ·refine .sr (.an R (.ret (.seqR ?_)));cases hm;exact .rr [] Tryz.results59 (.tmp R .nil) R I3 trivial
  ·refine .skip (.seqN (.seq (.sr (.an R (.block (bS hm fun l j hm=>?_))))));refine .cutU (z:= .exit 0) (fun g=> .inl g=l) (fun (g:Unit)=>⟨[],[],0⟩) ?_ fun K7=>?_
   · rintro g rfl;dsimp only at hm;refine .blkE (.seqN (.sr (.an R (.ret ?_))));cases hm;exact .rr [] Tryz.results59 (.tmp R .nil) R I3 trivial
   refine .cutU (z:= .ret) (fun h=> .inr (h)=l) (fun (h:Unit)=>⟨[(4,.b false)],[],0⟩) ?_ fun K9=>?_
   · rintro h rfl;dsimp only at hm;refine .blkR (.seqR ?_);cases hm;exact .rr [] Tryz.results59 (.tmp R .nil) R I3 trivial
   refine .iter (fun (a:Int)=>⟨[(5,.i a),(0,.f qI p0),(1,.f qI p1)],[],0⟩) j [] R ?_;intro a o hm k c;unfold y1P at hm;refine .seq (.sr (.mv R (.mv R (.ln sl32 R (.bi R (.ns ?_))))));refine .cc hm R (fun hm=>?_) fun hm=> .exit (.seqX (.seqX ((K7 _ (c _ (oi hm).symm)).sub [] R)));refine .skip (.seqN (.seq (.block (.seq ?_))));refine .sub (τ:=⟨[(5,.i a),(0,.f qI p0),(1,.f qI p1)],[],0⟩) ?_ [] R;refine bS hm fun m d hm=>bS hm fun n e hm=>?_;refine .drw [(0,[]),(0,[]),(0,[oT,oT]),(0,tT 3),(0,[]),(0,[]),(0,[oF,oF,oF,oF,oT,oT]),(0,fA 4 (tT 3)),(0,tT 8)] [_,_,_,_,_,_,_,_,_] ⟨[(25,.b (m != n)),(5,.i a),(0,.f qI p0),(1,.f qI p1)],[],0⟩ ⟨O.mv Z R R,O.mv Z R R,O.ix sl32 Z R R d R,O.ld nag3 Z R (.E lv3) R R,O.mv Z R R,O.mv Z R R,O.ix sl32 Z R R e R,O.ld nag3 Z R (.E lv3) R R,O.bi Z R R R R,trivial⟩ (by kernel_rfl) R ?_;exact .seqN (.cc hm R (fun hm=> .sr (.an R (.ret (.blkR (.seqR (.seqR ((K9 _ (c _ (oi hm).symm)).sub [] R))))))) fun hm=> .skip (.blkN (.seqN (.reg (.mv R (.bi R (.sa R (.nil ((k _ (oi hm).symm).sub [] R)))))))))
def y4e :Option PbT:=
 some ((([0,2]:List Int),2,([0,1]:List Int),([(0,0,1),(0,2,0),(1,2,1)]:List (Int×Int×Int))),(([0,2]:List Int),2,([0,1]:List Int),([(0,0,1),(0,2,0)]:List (Int×Int×Int))),([0]:List Int))
theorem y5Q{r:PbT}(hm:y4e=some r):
  F0 118 [] [] (.g (lx37 r)) []:=by
 unfold y4e at hm;refine Fw.mk2 Tryz.func118 Tryz.ntmps118 R (fun C=>?_) R;refine .sr (.al 0 zz37 R (.nr (.op (O.bsF (r:=qI) (zs:=([0,2]:List Int)) bs32 R R Z R R R (.c .k (.c .k .n)) R R R) R (.op (O.bsF (r:=qI) (zs:=([0,1]:List Int)) bs32 R R Z R R R (.c .k (.c .k .n)) R R R) R (.op (O.bu (l:=[lI 0,lI 0,lI 1]) pl124 R Z R R R) R (.op (O.bu (l:=[lI 0,lI 2,lI 0]) pl124 R Z R R R) R (.op (O.bu (l:=[lI 1,lI 2,lI 1]) pl124 R Z R R R) R (.op (O.bsF (r:=qT) (zs:=([(0,0,1),(0,2,0),(1,2,1)]:List (Int×Int×Int))) bs33 R R Z R R R (.c (.p .k (.p .k .k)) (.c (.p .k (.p .k .k)) (.c (.p .k (.p .k .k)) .n))) R R R) R (.op (O.bu (l:=[lF qI ([0,2]:List Int),lI 2,lF qI ([0,1]:List Int),lF qT ([(0,0,1),(0,2,0),(1,2,1)]:List (Int×Int×Int))]) pl35 R Z R R R) R (.op (O.bsF (r:=qI) (zs:=([0,2]:List Int)) bs32 R R Z R R R (.c .k (.c .k .n)) R R R) R (.op (O.bsF (r:=qI) (zs:=([0,1]:List Int)) bs32 R R Z R R R (.c .k (.c .k .n)) R R R) R (.op (O.bu (l:=[lI 0,lI 0,lI 1]) pl124 R Z R R R) R (.op (O.bu (l:=[lI 0,lI 2,lI 0]) pl124 R Z R R R) R (.op (O.bsF (r:=qT) (zs:=([(0,0,1),(0,2,0)]:List (Int×Int×Int))) bs33 R R Z R R R (.c (.p .k (.p .k .k)) (.c (.p .k (.p .k .k)) .n)) R R R) R (.op (O.bu (l:=[lF qI ([0,2]:List Int),lI 2,lF qI ([0,1]:List Int),lF qT ([(0,0,1),(0,2,0)]:List (Int×Int×Int))]) pl35 R Z R R R) R (.op (O.bsF (r:=qI) (zs:=([0]:List Int)) bs32 R R Z R R R (.c .k .n) R R R) R (.op (O.bu (l:=[lF qI ([0,2]:List Int),lI 2,lF qI ([0,1]:List Int),lF qT ([(0,0,1),(0,2,0),(1,2,1)]:List (Int×Int×Int)),lF qI ([0,2]:List Int),lI 2,lF qI ([0,1]:List Int),lF qT ([(0,0,1),(0,2,0)]:List (Int×Int×Int)),lF qI ([0]:List Int)]) pl37 R Z R R R) R (.st ag37.sz R (.ns (.ret ?_))))))))))))))))))));cases hm;exact .rr [] Tryz.results118 (.cell R R ag37 R .nil) R I3 trivial
def y7v(p0:PbT):Option Int:=
 (y7g p0).bind fun a=>
 some a.2
theorem yaE{p0:PbT}{r:Int}(hm:y7v p0=some r):
  F0 119 [.a (lx37 p0)] [] (.i r) []:=by
 unfold y7v at hm;refine Fw.mk2 Tryz.func119 Tryz.ntmps119 R (fun C=>?_) R;refine .sr (.bo 0 R (.an R (.sr (.op (O.lg (l':=(lx37 p0)) ag37 Z R (.B R) R R R) R (bS hm fun c b hm=> .c0 (ydM b) cf85 R (.mv R (.ex R (.ex R (.sa R (.an R (.sr (.mv R (.an R (.ret ?_))))))))))))));cases hm;exact .rr [] Tryz.results119 (.tmp R .nil) R I3 trivial
def yJ(p0:(List (Int×Int))×Int×Int)(p1:Int):Option Int:=
 some (W ((W (p0.2.1+p0.2.2))+p1))
theorem y3N{p0:(List (Int×Int))×Int×Int}{p1:Int}{r:Int}(hm:yJ p0 p1=some r):
  F0 182 [.o (lQ 269 [lF rE302 p0.1,lI p0.2.1,lI p0.2.2] 0),.i p1] [] (.i r) []:=by
 unfold yJ at hm;refine Fw.mk2 Tryz.func182 Tryz.ntmps182 R (fun C=>?_) R;refine .sr (.an R (.seq ?_));refine .sub (τ:=⟨[(0,.o (lQ 269 [lF rE302 p0.1,lI p0.2.1,lI p0.2.2] 0)),(1,.i p1)],[],0⟩) ?_ [] R;refine .drw [(0,[]),(0,[oT]),(0,[oT,oT]),(0,tT 3),(0,[]),(0,[oF,oF,oF,oF,oT]),(0,[oF,oF,oF,oF,oT,oT]),(0,fA 4 (tT 3)),(0,tT 8),(0,[]),(0,tT 10),(0,tT 11)] [_,_,_,_,_,_,_,_,_,_,_,_] ⟨[(4,.i (W ((W (p0.2.1+p0.2.2))+p1)))],[],0⟩ ⟨O.mv Z R R,O.nc .Q Z R R,O.faQ yd5 Z R R,O.ld nag3 Z R .Q R R,O.mv Z R R,O.nc .Q Z R R,O.faQ yf2 Z R R,O.ld nag3 Z R .Q R R,O.bi Z R R R R,O.mv Z R R,O.bi Z R R R R,O.as Z R R,trivial⟩ (by kernel_rfl) R ?_;refine .seqN (.ret ?_);cases hm;exact .rr [] Tryz.results182 (.tmp R .nil) R I3 trivial
def y1Q(p0:(List (Int×Int))×Int×Int)(p1:Int):Option Int:=
 some (W (p0.2.1+p1))
theorem y6I{p0:(List (Int×Int))×Int×Int}{p1:Int}{r:Int}(hm:y1Q p0 p1=some r):
  F0 183 [.o (lQ 269 [lF rE302 p0.1,lI p0.2.1,lI p0.2.2] 0),.i p1] [] (.i r) []:=by
 unfold y1Q at hm;refine Fw.mk2 Tryz.func183 Tryz.ntmps183 R (fun C=>?_) R;refine .sr (.an R (.sr (.mv R (.op (O.nc .Q Z R R) R (.fq yd5 R (.lq nag3 R (.mv R (.bi R (.an R (.ret ?_))))))))));cases hm;exact .rr [] Tryz.results183 (.tmp R .nil) R I3 trivial
def y1R(p1:List (Int×Int))(a:(List (Int×Int))×Int):Option (((List (Int×Int))×Int)⊕(List (Int×Int))):=
 if decide (a.2<(p1.length:Int)) then
  (idx p1 a.2).bind fun b=>
  (app a.1 ([b]:List (Int×Int))).bind fun c=>
  some (.inl (c,W (a.2+1)))
 else
  some (.inr a.1)
def yv(p0:(List (Int×Int))×Int×Int)(p1:List (Int×Int)):Option ((List (Int×Int))×Int×Int):=
 (iter (y1R p1) (p0.1,0)).bind fun a=>
 some (a,p0.2)
theorem y1n{p0:(List (Int×Int))×Int×Int}{p1:List (Int×Int)}{r:((List (Int×Int))×Int×Int)}(hm:yv p0 p1=some r):
  Fw Tryz.prog 217 ⟨2,[0,1]⟩ [.o (lP 0 0),.f rE241 p1] [.bx 269 [lH 1,lI p0.2.1,lI p0.2.2],ROW rE302 302 p0.1] (.tp []) [.bx 269 [lH 2,lI r.2.1,lI r.2.2],.u,ROW rE302 302 r.1]:=by
 unfold yv at hm;refine Fw.mk2 Tryz.func217 Tryz.ntmps217 R (fun C=>?_) R;refine .mvb 1 0 0 R R R R (.sr (.mv R (.ln sl322 R (.mv R (.ns (.block (bS hm fun g h hm=>?_)))))));refine .cut1 (z:= .exit 0) g (fun (g:(List (Int×Int)))=>⟨[],[(0,.bx 269 [lH 2,lI p0.2.1,lI p0.2.2]),(2,ROW rE302 302 g)],3⟩) ?_ fun K9=>?_
 ·skip
  refine .blkE (.ou 1 R ?_);cases hm;exact WX.rt [0,1,2] (.inr R) Tryz.results217 .nil R I3 ⟨⟨_,R,I4⟩,⟨_,R,fun _ _ _ _ _=>trivial⟩,⟨_,R,I4⟩,trivial⟩
 refine .iter (fun (b:(List (Int×Int))×Int)=>⟨[(8,.i b.2),(7,.i (p1.length:Int)),(6,.f rE241 p1),(0,.q 0 0)],[(0,.bx 269 [lH 2,lI p0.2.1,lI p0.2.2]),(2,ROW rE302 302 b.1)],3⟩) h [] R ?_;intro b t hm m j;unfold y1R at hm;refine .sr (.bi R (.ns (.seq ?_)));refine .cc hm R (fun hm=>?_) fun hm=> .exit (.seqX (.seqX ((K9 _ (j _ (oi hm).symm)).sub [] R)));refine .skip (.seqN (.seq (.block (.sr (bS hm fun a d hm=> .ix sl322 d R (.op (O.lg (l':=[lI a.1,lI a.2]) ag241 Z R (.E lv241) R R R) R (.al 3 zz241 R (.st ag241.sz R (.ns ?_)))))))));refine .sub (τ:=⟨[(5,.q 3 0),(8,.i b.2),(7,.i (p1.length:Int)),(6,.f rE241 p1),(0,.q 0 0)],[(0,.bx 269 [lH 2,lI p0.2.1,lI p0.2.2]),(2,ROW rE302 302 b.1),(3,.bx 241 [lI a.1,lI a.2])],4⟩) ?_ [] R;refine bS hm fun s e hm=>?_;refine .drd 5 [(4,[],[2]),(4,[],[]),(4,[oF,oT],[]),(4,[oF,oT,oT],[]),(4,[oF,oT,oT,oT],[]),(4,[],[]),(4,[oF,oF,oF,oF,oF,oT],[]),(4,[],[]),(4,[oF,oF,oF,oF,oF,oF,oF,oT],[]),(4,[oF,oF,oF,oF,oF,oT,oT,oT,oT],[]),(4,[oF,oF,oF,oF,oF,oT,oT,oT,oT,oT],[]),(4,[oF,oT,oT,oT,oT,oT,oT,oT,oT,oT,oT],[]),(5,[oT,oT,oT,oT,oT,oT,oT,oT,oT,oT,oT,oT],[]),(5,[oT,oT,oT,oT,oT,oT,oT,oT,oT,oT,oT,oT,oT],[]),(5,[oT,oT,oT,oT,oT,oT,oT,oT,oT,oT,oT,oT,oT,oT],[])] [_,_,_,_,_,_,_,_,_,_,_,_,_,_,_] ⟨[(8,.i b.2),(7,.i (p1.length:Int)),(6,.f rE241 p1),(0,.q 0 0)],[(0,.bx 269 [lH 4,lI p0.2.1,lI p0.2.2]),(4,ROW rE302 302 s)],5⟩ ⟨O.mv Z R R,O.mv Z R R,O.nc .B Z R R,O.faP y9L Z R R,O.ld y6Y Z R (.B R) R R,O.ia ia241 Z R R R R,O.ld nag3 Z R (.B R) R R,O.ia ia241 Z R R R R,O.ld nag3 Z R (.B R) R R,O.bu (l:=[lI a.1,lI a.2]) pl302 R Z R R R,O.bsF (r:=rE302) (zs:=([a]:List (Int×Int))) bs189 R R Z R R R (.c (.p .k .k) .n) R R R,O.ap 4 Tryz.underlying189 el302 R R Z R R (.fr R) e R,O.nc .B Z R R,O.faP y9L Z R R,O.st y6Y.sz Z R R R R R,trivial⟩ (by kernel_rfl) R ?_;exact .blkN (.seqN (.reg (.bi R (.mv R (.nil ((m _ (oi hm).symm).sub [(2,4)] R))))))
def y1s(p2:Int)(p4:List (Int×Int×Int))(a:(List (Int×Int))×Int×Int×Int):Option (((List (Int×Int))×Int×Int×Int)⊕((List (Int×Int))×Int×Int)):=
 if decide (a.2.2.2<(p4.length:Int)) then
  (idx p4 a.2.2.2).bind fun d=>
  (yJ (a.1,a.2.1,a.2.2.1) d.1).bind fun c=>
  (yJ (a.1,a.2.1,a.2.2.1) d.2.2).bind fun e=>
  (yv (a.1,a.2.1,a.2.2.1) ([(1,c),(4,p2),(10,c),(9,e),(9,p2)]:List (Int×Int))).bind fun b=>
  some (.inl (b.1,b.2.1,b.2.2,W (a.2.2.2+1)))
 else
  some (.inr (a.1,a.2.1,a.2.2.1))
def y3j(p0:(List (Int×Int))×Int×Int)(p1:Int)(p2:Int)(p3:Int)(p4:List (Int×Int×Int)):Option ((List (Int×Int))×Int×Int):=
 (yv p0 ([(2,p1),(12,0)]:List (Int×Int))).bind fun b=>
 (yv b ([(1,p1),(10,p2)]:List (Int×Int))).bind fun c=>
 (iter (y1s p2 p4) (c.1,c.2.1,c.2.2,0)).bind fun d=>
 (yv d ([(2,p2),(9,p3)]:List (Int×Int))).bind fun a=>
 (idx a.1 (W ((b.1.length:Int)-1))).bind fun e=>
 (upd a.1 (W ((b.1.length:Int)-1)) (e.1,(a.1.length:Int))).bind fun f=>
 some (f,a.2)
theorem y8H{p0:(List (Int×Int))×Int×Int}{p1:Int}{p2:Int}{p3:Int}{p4:List (Int×Int×Int)}{r:((List (Int×Int))×Int×Int)}(hm:y3j p0 p1 p2 p3 p4=some r):
  Fw Tryz.prog 181 ⟨2,[0,1]⟩ [.o (lP 0 0),.i p1,.i p2,.i p3,.f qT p4] [.bx 269 [lH 1,lI p0.2.1,lI p0.2.2],ROW rE302 302 p0.1] (.tp []) [.bx 269 [lH 2,lI r.2.1,lI r.2.2],.u,ROW rE302 302 r.1]:=by
 unfold y3j at hm;refine Fw.mk2 Tryz.func181 Tryz.ntmps181 R (fun C=>?_) R;refine .mvb 1 0 0 R R R R (.sr (.mv R (.mv R (.op (O.bu (l:=[lI 2,lI p1]) pl241 R Z R R R) R (.op (O.bu (l:=[lI 12,lI 0]) pl241 R Z R R R) R (.op (O.bsF (r:=rE241) (zs:=([(2,p1),(12,0)]:List (Int×Int))) bs322 R R Z R R R (.c (.p .k .k) (.c (.p .k .k) .n)) R R R) R (bS hm fun g L hm=> .op (O.ca (r':= .tp []) [0,2,3] [(1,.u),(2,ROW rE302 302 g.1),(0,.bx 269 [lH 3,lI g.2.1,lI g.2.2])] (some 4) (y1n L) cf217 R R Z R R R R ⟨⟨_,R,fun _ _ _ _ _=>trivial⟩,⟨_,R,I4⟩,⟨_,R,I4⟩,trivial⟩ I3 R) R (.nr (.mv R (.op (O.nc .B Z R R) R (.fa y9L R (.lb y6Y R (.op (O.lenH sl189 Z R R R) R (.bi R (.an R (.sr (.mv R (.mv R (.op (O.bu (l:=[lI 1,lI p1]) pl241 R Z R R R) R (.mv R (.op (O.bu (l:=[lI 10,lI p2]) pl241 R Z R R R) R (.op (O.bsF (r:=rE241) (zs:=([(1,p1),(10,p2)]:List (Int×Int))) bs322 R R Z R R R (.c (.p .k .k) (.c (.p .k .k) .n)) R R R) R (bS hm fun J M hm=> .op (O.ca (r':= .tp []) [0,3,4] [(1,.u),(2,ROW rE302 302 J.1),(0,.bx 269 [lH 4,lI J.2.1,lI J.2.2])] (some 5) (y1n M) cf217 R R Z R R R R ⟨⟨_,R,fun _ _ _ _ _=>trivial⟩,⟨_,R,I4⟩,⟨_,R,I4⟩,trivial⟩ I3 R) R (.ns (.seq (.sr (.mv R (.ln sl33 R ?_))))))))))))))))))))))))))));refine .mv R (.ns (.block (bS hm fun e v hm=>?_)));refine .cut1 (z:= .exit 0) e (fun (e:(List (Int×Int))×Int×Int)=>⟨[(10,.i (W ((g.1.length:Int)-1))),(0,.q 0 0),(2,.i p2),(3,.i p3)],[(0,.bx 269 [lH 2,lI e.2.1,lI e.2.2]),(2,ROW rE302 302 e.1)],3⟩) ?_ fun K=>?_
 ·skip
  refine .blkE (.seqN (.sr (.mv R (.mv R (.op (O.bu (l:=[lI 2,lI p2]) pl241 R Z R R R) R (.mv R (.op (O.bu (l:=[lI 9,lI p3]) pl241 R Z R R R) R (.op (O.bsF (r:=rE241) (zs:=([(2,p2),(9,p3)]:List (Int×Int))) bs322 R R Z R R R (.c (.p .k .k) (.c (.p .k .k) .n)) R R R) R (bS hm fun b w hm=> .op (O.ca (r':= .tp []) [0,2,3] [(1,.u),(2,ROW rE302 302 b.1),(0,.bx 269 [lH 3,lI b.2.1,lI b.2.2])] (some 4) (y1n w) cf217 R R Z R R R R ⟨⟨_,R,fun _ _ _ _ _=>trivial⟩,⟨_,R,I4⟩,⟨_,R,I4⟩,trivial⟩ I3 R) R (.ns ?_))))))))));refine .sub (τ:=⟨[(10,.i (W ((g.1.length:Int)-1))),(0,.q 0 0)],[(0,.bx 269 [lH 3,lI b.2.1,lI b.2.2]),(3,ROW rE302 302 b.1)],4⟩) ?_ [] R;refine bS hm fun N m hm=>bS hm fun P F hm=>?_;refine .drg 4 [(4,[]),(4,[oT]),(4,[oT,oT]),(4,tT 3),(4,[]),(4,[]),(4,[oF,oF,oF,oF,oF,oT]),(4,[oF,oF,oF,oF,oF,oT,oT]),(4,fA 5 (tT 3)),(4,fA 5 (tT 4)),(4,tT 10),(4,tT 11),(4,tT 12)] [_,_,_,_,_,_,_,_,_,_,_,_,_] ⟨[],[(0,.bx 269 [lH 3,lI b.2.1,lI b.2.2]),(3,ROW rE302 302 P)],4⟩ ⟨O.mv Z R R,O.nc .B Z R R,O.faP y9L Z R R,O.ld y6Y Z R (.B R) R R,O.mv Z R R,O.mv Z R R,O.nc .B Z R R,O.faP y9L Z R R,O.ld y6Y Z R (.B R) R R,O.lenH sl189 Z R R R,O.ir sl189 Z R R R m R,O.faR y7f Z R R,O.su (z:=(N.1,(b.1.length:Int))) nag3.sz Z R R m F R R R lv302 R (.p .k .k),trivial⟩ (by kernel_rfl) R ?_;refine .ou 1 R ?_;cases hm;exact WX.rt [0,1,3] (.inr R) Tryz.results181 .nil R I3 ⟨⟨_,R,I4⟩,⟨_,R,fun _ _ _ _ _=>trivial⟩,⟨_,R,I4⟩,trivial⟩
 refine .iter (fun (a:(List (Int×Int))×Int×Int×Int)=>⟨[(36,.i a.2.2.2),(35,.i (p4.length:Int)),(34,.f qT p4),(10,.i (W ((g.1.length:Int)-1))),(0,.q 0 0),(2,.i p2),(3,.i p3)],[(0,.bx 269 [lH 2,lI a.2.1,lI a.2.2.1]),(2,ROW rE302 302 a.1)],3⟩) v [(2,4)] R ?_;intro a Q hm I H;unfold y1s at hm;refine .sr (.bi R (.ns (.seq ?_)));refine .cc hm R (fun hm=>?_) fun hm=> .exit (.seqX (.seqX ((K _ (H _ (oi hm).symm)).sub [] R)));refine .skip (.seqN (.seq (.block (.sr (bS hm fun d G hm=> .ix sl33 G R (.op (O.lg (l':=[lI d.1,lI d.2.1,lI d.2.2]) ag124 Z R (.E lv124) R R R) R (.al 3 zz124 R (.st ag124.sz R (.ns (.seq ?_))))))))));refine .sub (τ:=⟨[(12,.q 3 0),(36,.i a.2.2.2),(35,.i (p4.length:Int)),(34,.f qT p4),(10,.i (W ((g.1.length:Int)-1))),(0,.q 0 0),(2,.i p2),(3,.i p3)],[(0,.bx 269 [lH 2,lI a.2.1,lI a.2.2.1]),(2,ROW rE302 302 a.1),(3,.bx 124 [lI d.1,lI d.2.1,lI d.2.2])],4⟩) ?_ [] R;refine bS hm fun j x hm=>bS hm fun s y hm=>?_;refine .drw [(4,[]),(4,[]),(4,[oF,oT]),(4,tT 3),(4,[]),(4,[]),(4,[oF,oF,oF,oF,oF,oT]),(4,tT 7),(4,tT 8),(4,tT 9)] [_,_,_,_,_,_,_,_,_,_] ⟨[(14,.i s),(13,.i j),(36,.i a.2.2.2),(35,.i (p4.length:Int)),(34,.f qT p4),(10,.i (W ((g.1.length:Int)-1))),(0,.q 0 0),(2,.i p2),(3,.i p3)],[(0,.bx 269 [lH 2,lI a.2.1,lI a.2.2.1]),(2,ROW rE302 302 a.1)],4⟩ ⟨O.mv Z R R,O.faP y3r Z R R,O.ld nag3 Z R (.B R) R R,O.caZ (y3N x) cf182 R R Z R ⟨⟨R,(.q R ⟨.hr R,.rf,.rf,trivial⟩),trivial⟩,⟨R,LnL.rf⟩,trivial⟩ (fun _ _ _ _ _ h=>h) R,O.mv Z R R,O.faP y4Y Z R R,O.ld nag3 Z R (.B R) R R,O.caZ (y3N y) cf182 R R Z R ⟨⟨R,(.q R ⟨.hr R,.rf,.rf,trivial⟩),trivial⟩,⟨R,LnL.rf⟩,trivial⟩ (fun _ _ _ _ _ h=>h) R,O.as Z R R,O.as Z R R,trivial⟩ (by kernel_rfl) R ?_;exact .seqN (.reg (.mv R (.mv R (.op (O.bu (l:=[lI 1,lI j]) pl241 R Z R R R) R (.mv R (.op (O.bu (l:=[lI 4,lI p2]) pl241 R Z R R R) R (.mv R (.op (O.bu (l:=[lI 10,lI j]) pl241 R Z R R R) R (.mv R (.op (O.bu (l:=[lI 9,lI s]) pl241 R Z R R R) R (.mv R (.op (O.bu (l:=[lI 9,lI p2]) pl241 R Z R R R) R (.op (O.bsF (r:=rE241) (zs:=([(1,j),(4,p2),(10,j),(9,s),(9,p2)]:List (Int×Int))) bs322 R R Z R R R (.c (.p .k .k) (.c (.p .k .k) (.c (.p .k .k) (.c (.p .k .k) (.c (.p .k .k) .n))))) R R R) R (bS hm fun t D hm=> .op (O.ca (r':= .tp []) [0,2,4] [(1,.u),(2,ROW rE302 302 t.1),(0,.bx 269 [lH 4,lI t.2.1,lI t.2.2])] (some 5) (y1n D) cf217 R R Z R R R R ⟨⟨_,R,fun _ _ _ _ _=>trivial⟩,⟨_,R,I4⟩,⟨_,R,I4⟩,trivial⟩ I3 R) R (.nil (.blkN (.seqN (.reg (.bi R (.mv R (.nil ((I _ (oi hm).symm).sub [(2,4)] R))))))))))))))))))))))
def y1e(p2:List Int)(a:(List (Int×Int))×Int×Int×Int):Option (((List (Int×Int))×Int×Int×Int)⊕((List (Int×Int))×Int×Int)):=
 if decide (a.2.2.2<(p2.length:Int)) then
  (idx p2 a.2.2.2).bind fun d=>
  (idx ([1,5]:List Int) (if 1<a.2.2.2 then 1 else a.2.2.2)).bind fun e=>
  (yJ (a.1,a.2.1,a.2.2.1) d).bind fun c=>
  (yv (a.1,a.2.1,a.2.2.1) ([(e,c)]:List (Int×Int))).bind fun b=>
  some (.inl (b.1,b.2.1,b.2.2,W (a.2.2.2+1)))
 else
  some (.inr (a.1,a.2.1,a.2.2.1))
def y2O(p0:(List (Int×Int))×Int×Int)(p1:Int)(p2:List Int):Option ((List (Int×Int))×Int×Int):=
 if((p2.length:Int)==0) then
  (yv p0 ([(1,p1),(4,p1),(7,p1)]:List (Int×Int))).bind fun c=>
  some c
 else
  (iter (y1e p2) (p0.1,p0.2.1,p0.2.2,0)).bind fun a=>
  (yv a ([(7,p1)]:List (Int×Int))).bind fun b=>
  some b
theorem y8o{p0:(List (Int×Int))×Int×Int}{p1:Int}{r:((List (Int×Int))×Int×Int)}(hm:y2O p0 p1 p2=some r):
    Fw Tryz.prog 184 ⟨2,[0,1]⟩ [.o (lP 0 0),.i p1,.f qI p2] [.bx 269 [lH 1,lI p0.2.1,lI p0.2.2],ROW rE302 302 p0.1] (.tp []) [.bx 269 [lH 2,lI r.2.1,lI r.2.2],.u,ROW rE302 302 r.1]:=by
  unfold y2O at hm;refine Fw.mk2 Tryz.func184 Tryz.ntmps184 R (fun C=>?_) R;refine .mvb 1 0 0 R R R R (.seq (.sr (.mv R (.ln sl32 R (.bi R (.ns ?_))))));refine .cc hm R (fun hm=>?_) fun hm=>?_
  ·refine .sr (.mv R (.mv R (.op (O.bu (l:=[lI 1,lI p1]) pl241 R Z R R R) R (.mv R (.op (O.bu (l:=[lI 4,lI p1]) pl241 R Z R R R) R (.mv R (.op (O.bu (l:=[lI 7,lI p1]) pl241 R Z R R R) R (.op (O.bsF (r:=rE241) (zs:=([(1,p1),(4,p1),(7,p1)]:List (Int×Int))) bs322 R R Z R R R (.c (.p .k .k) (.c (.p .k .k) (.c (.p .k .k) .n))) R R R) R (bS hm fun D F hm=> .op (O.ca (r':= .tp []) [0,2,3] [(1,.u),(2,ROW rE302 302 D.1),(0,.bx 269 [lH 3,lI D.2.1,lI D.2.2])] (some 4) (y1n F) cf217 R R Z R R R R ⟨⟨_,R,fun _ _ _ _ _=>trivial⟩,⟨_,R,I4⟩,⟨_,R,I4⟩,trivial⟩ I3 R) R (.ns (.ret (.seqR (.ou 1 R ?_)))))))))))));cases hm;exact .rr [0,1,3] Tryz.results184 .nil R I3 ⟨⟨_,R,I4⟩,⟨_,R,fun _ _ _ _ _=>trivial⟩,⟨_,R,I4⟩,trivial⟩
  ·refine .skip (.seqN (.seq (.sr (.mv R (.ln sl32 R (.mv R (.ns (.block (bS hm fun d m hm=>?_)))))))));refine .cut1 (z:= .exit 0) d (fun (d:(List (Int×Int))×Int×Int)=>⟨[(0,.q 0 0),(1,.i p1)],[(0,.bx 269 [lH 2,lI d.2.1,lI d.2.2]),(2,ROW rE302 302 d.1)],3⟩) ?_ fun E=>?_
   · skip
     refine .blkE (.seqN (.reg (.mv R (.mv R (.op (O.bu (l:=[lI 7,lI p1]) pl241 R Z R R R) R (.op (O.bsF (r:=rE241) (zs:=([(7,p1)]:List (Int×Int))) bs322 R R Z R R R (.c (.p .k .k) .n) R R R) R (bS hm fun e s hm=> .op (O.ca (r':= .tp []) [0,2,3] [(1,.u),(2,ROW rE302 302 e.1),(0,.bx 269 [lH 3,lI e.2.1,lI e.2.2])] (some 4) (y1n s) cf217 R R Z R R R R ⟨⟨_,R,fun _ _ _ _ _=>trivial⟩,⟨_,R,I4⟩,⟨_,R,I4⟩,trivial⟩ I3 R) R (.nil (.ou 1 R ?_)))))))));cases hm;exact WX.rt [0,1,3] (.inr R) Tryz.results184 .nil R I3 ⟨⟨_,R,I4⟩,⟨_,R,fun _ _ _ _ _=>trivial⟩,⟨_,R,I4⟩,trivial⟩
   refine .iter (fun (a:(List (Int×Int))×Int×Int×Int)=>⟨[(22,.i a.2.2.2),(21,.i (p2.length:Int)),(20,.f qI p2),(0,.q 0 0),(1,.i p1)],[(0,.bx 269 [lH 2,lI a.2.1,lI a.2.2.1]),(2,ROW rE302 302 a.1)],3⟩) m [] R ?_;intro a H hm B y;unfold y1e at hm;refine .sr (.bi R (.ns (.seq ?_)));refine .cc hm R (fun hm=>?_) fun hm=> .exit (.seqX (.seqX ((E _ (y _ (oi hm).symm)).sub [] R)));refine .skip (.seqN (.seq (.block (.sr (.mv R (bS hm fun G w hm=> .ix sl32 w R (.le nag3 lv3 R (.sa R (.an R ?_)))))))));refine .sub (τ:=⟨[(7,.i G),(6,.i a.2.2.2),(22,.i a.2.2.2),(21,.i (p2.length:Int)),(20,.f qI p2),(0,.q 0 0),(1,.i p1)],[(0,.bx 269 [lH 2,lI a.2.1,lI a.2.2.1]),(2,ROW rE302 302 a.1)],3⟩) ?_ [] R;refine bS hm fun j x hm=>bS hm fun g t hm=>bS hm fun b v hm=>?_;refine .drg 4 [(3,[]),(3,[]),(3,[]),(3,[oF,oF,oT]),(3,fA 1 (tT 3)),(3,[]),(3,[]),(3,[oF,oF,oF,oF,oF,oT,oT]),(3,fA 1 (tT 7)),(3,fA 1 (tT 8)),(3,tT 10)] [_,_,_,_,_,_,_,_,_,_,_] ⟨[(22,.i a.2.2.2),(21,.i (p2.length:Int)),(20,.f qI p2),(0,.q 0 0),(1,.i p1)],[(0,.bx 269 [lH 3,lI b.2.1,lI b.2.2]),(3,ROW rE302 302 b.1)],4⟩ ⟨O.mv Z R R,O.bu (l:=[lI 1,lI 5]) pl241 R Z R R R,O.mv Z R R,O.min Z R R R,O.ixA (xs:=([1,5]:List Int)) nag3 Tryz.underlying241 Z R R R x R,O.mv Z R R,O.mv Z R R,O.caZ (y3N t) cf182 R R Z R ⟨⟨R,(.q R ⟨.hr R,.rf,.rf,trivial⟩),trivial⟩,⟨R,LnL.rf⟩,trivial⟩ (fun _ _ _ _ _ h=>h) R,O.bu (l:=[lI j,lI g]) pl241 R Z R R R,O.bsF (r:=rE241) (zs:=([(j,g)]:List (Int×Int))) bs322 R R Z R R R (.c (.p .k .k) .n) R R R,O.ca (r':= .tp []) [0,2,3] [(1,.u),(2,ROW rE302 302 b.1),(0,.bx 269 [lH 3,lI b.2.1,lI b.2.2])] (some 4) (y1n v) cf217 R R Z R R R R ⟨⟨_,R,fun _ _ _ _ _=>trivial⟩,⟨_,R,I4⟩,⟨_,R,I4⟩,trivial⟩ I3 R,trivial⟩ (by kernel_rfl) R ?_;exact .blkN (.seqN (.reg (.bi R (.mv R (.nil ((B _ (oi hm).symm).sub [(2,3)] R))))))
def y3t(p1:List Int)(b:(List (Int×List Int))×(List (Int×List (Int×Int×Int))))(a:Int×(List (Int×Int))×Int×Int):Option ((Int×(List (Int×Int))×Int×Int)⊕((List (Int×Int))×Int×Int)):=
 if decide (a.1<(p1.length:Int)) then
  (idx p1 a.1).bind fun e=>
  (y1Q a.2 a.1).bind fun c=>
  (y2O a.2 c ((kget b.1 e).getD [])).bind fun d=>
  some (.inl (W (a.1+1),d))
 else
  some (.inr a.2)
def y3u(p0:AutT)(p1:List Int)(b:(List (Int×List Int))×(List (Int×List (Int×Int×Int))))(a:Int×(List (Int×Int))×Int×Int):Option ((Int×(List (Int×Int))×Int×Int)⊕((List (Int×Int))×Int×Int)):=
 if decide (a.1<(p0.1.length:Int)) then
  (idx p0.1 a.1).bind fun f=>
  (yJ a.2 p0.2.1).bind fun c=>
  (y1Q a.2 (p1.length:Int)).bind fun d=>
  (y3j a.2 a.1 c d ((kget b.2 f).getD [])).bind fun e=>
  some (.inl (W (a.1+1),e))
 else
  some (.inr a.2)
def y3v(p0:AutT)(a:Int×(List (Int×List Int))×(List (Int×List (Int×Int×Int)))):Option ((Int×(List (Int×List Int))×(List (Int×List (Int×Int×Int))))⊕((List (Int×List Int))×(List (Int×List (Int×Int×Int))))):=
 if decide (a.1<(p0.2.2.2.length:Int)) then
  (idx p0.2.2.2 a.1).bind fun b=>
  (app ((kget a.2.2 b.2.1).getD []) ([b]:List (Int×Int×Int))).bind fun c=>
  (app ((kget a.2.1 b.2.1).getD []) ([b.1]:List Int)).bind fun d=>
  some (.inl (W (a.1+1),(kput a.2.1 b.2.1 d),(kput a.2.2 b.2.1 c)))
 else
  some (.inr a.2)
def yU(p0:AutT)(p1:List Int):Option (CodT×Int):=
 (y2b p0).bind fun f=>
 if(f != 0) then
  some (((0,0,0,([]:List Bool),([]:List (Int×Int))),([]:List Int),([]:List Int),0),f)
 else
  (y1M p1 32).bind fun g=>
  if(g != 0) then
   some (((0,0,0,([]:List Bool),([]:List (Int×Int))),([]:List Int),([]:List Int),0),g)
  else
   (y1c p1 p0.1).bind fun j=>
   if(!j) then
    some (((0,0,0,([]:List Bool),([]:List (Int×Int))),([]:List Int),([]:List Int),0),9)
   else
    if(p0.2.1==0) then
     some (((0,0,0,([]:List Bool),([]:List (Int×Int))),([]:List Int),([]:List Int),0),21)
    else
     if((decide (p0.2.1>64))||(decide ((p0.2.2.2.length:Int)>256))) then
      some (((0,0,0,([]:List Bool),([]:List (Int×Int))),([]:List Int),([]:List Int),0),3)
     else
      (iter (y3v p0) (0,([]:List (Int×List Int)),([]:List (Int×List (Int×Int×Int))))).bind fun b=>
      (iter (y3u p0 p1 b) (0,([]:List (Int×Int)),(p0.1.length:Int),(W ((p1.length:Int)+1)))).bind fun e=>
      (iter (y3t p1 b) (0,e)).bind fun a=>
      (mkL (W (p0.2.1+1)) false).bind fun c=>
      (idx c 0).bind fun k=>
      (upd c 0 true).bind fun d=>
      (y2o p0.1).bind fun h=>
      (y2o p1).bind fun i=>
      some (((a.2.1,a.2.2,(d.length:Int),d,a.1),h,i,p0.2.1),0)
theorem y8e{p0:AutT}{p1:List Int}{r:CodT×Int}(hm:yU p0 p1=some r):
    F0 120 [.a (lx35 p0),.f qI p1] [] (.tp [.a [lI r.1.1.1,lI r.1.1.2.1,lI r.1.1.2.2.1,lH 0,lH 1,lH 2,lH 3,lI r.1.2.2.2],.i r.2]) [ROW rB 4 r.1.1.2.2.2.1,ROW rE302 302 r.1.1.2.2.2.2,ROW qI 3 r.1.2.1,ROW qI 3 r.1.2.2.1]:=by
  unfold yU at hm;refine Fw.mk2 Tryz.func120 Tryz.ntmps120 R (fun C=>?_) R;refine .sr (.bo 0 R (.al 1 zz193 R (.an R (.seq (.sr (.op (O.lg (l':=(lx35 p0)) ag35 Z R (.B R) R R R) R (bS hm fun r1 b4 hm=> .c0 (y6y b4) cf101 R (.an R (.sr (.mv R (.bi R (.ns ?_))))))))))));refine .cc hm R (fun hm=>?_) fun hm=>?_
  ·refine .sr (.op (O.bu (l:=[lI 0,lI 0,lI 0,lN,lN,lN,lN,lI 0]) pl193 R Z R R R) R (.mv R (.st ag193.sz R (.an R (.ret (.seqR (.nlb rB 4 1 3 R R (.nlb rE302 302 1 4 R R (.nlb qI 3 1 5 R R (.nlb qI 3 1 6 R R ?_))))))))));cases hm;exact .rr [2,3,4,5] Tryz.results120 (.cell R R ag193 R (.tmp R .nil)) R I3 ⟨⟨_,R,I4⟩,⟨_,R,I4⟩,⟨_,R,I4⟩,⟨_,R,I4⟩,trivial⟩
  ·refine .skip (.seqN (.seq (.sr (.mv R (bS hm fun r2 b5 hm=> .c0 (y4Z b5) cf25 R (.an R (.sr (.mv R (.bi R (.ns ?_))))))))));refine .cc hm R (fun hm=>?_) fun hm=>?_
   ·refine .sr (.op (O.bu (l:=[lI 0,lI 0,lI 0,lN,lN,lN,lN,lI 0]) pl193 R Z R R R) R (.mv R (.st ag193.sz R (.an R (.ret (.seqR (.nlb rB 4 1 3 R R (.nlb rE302 302 1 4 R R (.nlb qI 3 1 5 R R (.nlb qI 3 1 6 R R ?_))))))))));cases hm;exact .rr [2,3,4,5] Tryz.results120 (.cell R R ag193 R (.tmp R .nil)) R I3 ⟨⟨_,R,I4⟩,⟨_,R,I4⟩,⟨_,R,I4⟩,⟨_,R,I4⟩,trivial⟩
   ·refine .skip (.seqN (.seq (.block (.sr (.mv R (.fa yT R (.lb nag32 R (bS hm fun r3 b6 hm=> .c0 (y7i b6) cf26 R (.op (O.not Z R R) R (.an R ?_))))))))));refine .cc hm R (fun hm=>?_) fun hm=>?_
    ·refine .sr (.op (O.bu (l:=[lI 0,lI 0,lI 0,lN,lN,lN,lN,lI 0]) pl193 R Z R R R) R (.st ag193.sz R (.an R (.ret (.blkR (.seqR (.nlb rB 4 1 3 R R (.nlb rE302 302 1 4 R R (.nlb qI 3 1 5 R R (.nlb qI 3 1 6 R R ?_))))))))));cases hm;exact .rr [2,3,4,5] Tryz.results120 (.cell R R ag193 R (.tmp R .nil)) R I3 ⟨⟨_,R,I4⟩,⟨_,R,I4⟩,⟨_,R,I4⟩,⟨_,R,I4⟩,trivial⟩
    ·refine .sr (.fa y2S R (.lb nag3 R (.bi R (.an R ?_))));refine .cc hm R (fun hm=>?_) fun hm=>?_
     ·refine .sr (.op (O.bu (l:=[lI 0,lI 0,lI 0,lN,lN,lN,lN,lI 0]) pl193 R Z R R R) R (.st ag193.sz R (.an R (.ret (.blkR (.seqR (.nlb rB 4 1 3 R R (.nlb rE302 302 1 4 R R (.nlb qI 3 1 5 R R (.nlb qI 3 1 6 R R ?_))))))))));cases hm;exact .rr [2,3,4,5] Tryz.results120 (.cell R R ag193 R (.tmp R .nil)) R I3 ⟨⟨_,R,I4⟩,⟨_,R,I4⟩,⟨_,R,I4⟩,⟨_,R,I4⟩,trivial⟩
     ·refine .sr (.fa y2S R (.lb nag3 R (.bi R (.mv R ?_))));refine .cut 5 (fun (v4:Bool)=>((decide (p0.2.1>64))||(decide ((p0.2.2.2.length:Int)>256)))=v4) (fun v4=>⟨[(51,.b v4),(4,.q 1 0),(2,.q 0 0),(1,.f qI p1)],[(1,.bx 193 [lI 0,lI 0,lI 0,lN,lN,lN,lN,lI 0]),(0,.bx 35 (lx35 p0))],2⟩) ?_ ?_
      · rintro _ rfl;refine .an R ?_;refine .cc hm R (fun hm=>?_) fun hm=>?_
        ·refine .sr (.op (O.bu (l:=[lI 0,lI 0,lI 0,lN,lN,lN,lN,lI 0]) pl193 R Z R R R) R (.st ag193.sz R (.an R (.ret (.blkR (.seqR (.nlb rB 4 1 3 R R (.nlb rE302 302 1 4 R R (.nlb qI 3 1 5 R R (.nlb qI 3 1 6 R R ?_))))))))));cases hm;exact .rr [2,3,4,5] Tryz.results120 (.cell R R ag193 R (.tmp R .nil)) R I3 ⟨⟨_,R,I4⟩,⟨_,R,I4⟩,⟨_,R,I4⟩,⟨_,R,I4⟩,trivial⟩
        ·refine .skip (.blkN (.seqN (.sr (.fa yT R (.lb nag32 R (.ln sl32 R (.mv R (.ln sl32 R (.bi R (.op (O.bu (l:=[lN,lI (p0.1.length:Int),lI (W ((p1.length:Int)+1))]) pl269 R Z R R R) R (.bo 2 R (.an R (.sr (.op (O.mkC y5C 124 3 R Z R) R (.op (O.mkM flr3 3 4 R Z R) R (.sa R (.an R (.seq (.sr (.fa y1J R (.lb nag33 R (.ln sl33 R (.mv R (.ns (.block (bS hm fun t K hm=>?_))))))))))))))))))))))))));refine .cut1 (z:= .exit 1) t (fun (t:(List (Int×List Int))×(List (Int×List (Int×Int×Int))))=>⟨[(10,.h 0),(9,.h 1),(8,.q 2 0),(4,.q 3 0),(2,.q 4 0),(1,.f qI p1)],[(0,MTB flr3 3 none t.1),(1,MTC y5C 124 none t.2),(2,.bx 269 [lN,lI (p0.1.length:Int),lI (W ((p1.length:Int)+1))]),(3,.bx 193 [lI 0,lI 0,lI 0,lN,lN,lN,lN,lI 0]),(4,.bx 35 (lx35 p0))],5⟩) ?_ fun b1=>?_
         · skip
           refine .blkE (.seqN (.seq (.sr (.fa yT R (.lb nag32 R (.ln sl32 R (.mv R (.ns (.block (bS hm fun y L hm=>?_))))))))));refine .cut1 (z:= .exit 3) y (fun (y:(List (Int×Int))×Int×Int)=>⟨[(10,.h 0),(8,.q 1 0),(4,.q 3 0),(2,.q 4 0),(1,.f qI p1)],[(0,MTB flr3 3 none t.1),(1,.bx 269 [lH 2,lI y.2.1,lI y.2.2]),(2,ROW rE302 302 y.1),(3,.bx 193 [lI 0,lI 0,lI 0,lN,lN,lN,lN,lI 0]),(4,.bx 35 (lx35 p0))],5⟩) ?_ fun b2=>?_
           · skip
             refine .blkE (.seqN (.seq (.sr (.mv R (.ln sl32 R (.mv R (.ns (.block (bS hm fun j M hm=>?_)))))))));refine .cut1 (z:= .exit 5) j (fun (j:(List (Int×Int))×Int×Int)=>⟨[(8,.q 0 0),(4,.q 2 0),(2,.q 3 0),(1,.f qI p1)],[(0,.bx 269 [lH 1,lI j.2.1,lI j.2.2]),(1,ROW rE302 302 j.1),(2,.bx 193 [lI 0,lI 0,lI 0,lN,lN,lN,lN,lI 0]),(3,.bx 35 (lx35 p0))],4⟩) ?_ fun b3=>?_
             · skip
               refine .blkE (.seqN (.sr (.fa y2S R (.lb nag3 R (.bi R (bS hm fun c6 X hm=> .op (O.mk (z:=false) 4 Tryz.underlying144 zr4 R R Z R R X R) R (.an R (.sr (.mv R (bS hm fun c7 F hm=> .op (O.ir sl144 Z R R R F R) R (bS hm fun D Y hm=> .op (O.su (z:=true) nag4.sz Z R R F Y R R R lv4 R .b) R (.ns (.seq ?_)))))))))))));refine .sub (τ:=⟨[(17,.h 4),(8,.q 0 0),(4,.q 2 0),(2,.q 3 0),(1,.f qI p1)],[(4,ROW rB 4 D),(0,.bx 269 [lH 1,lI j.2.1,lI j.2.2]),(1,ROW rE302 302 j.1),(2,.bx 193 [lI 0,lI 0,lI 0,lN,lN,lN,lN,lI 0]),(3,.bx 35 (lx35 p0))],5⟩) ?_ [] R;refine bS hm fun G N hm=>bS hm fun H P hm=>?_;refine .drg 7 [(5,[]),(5,[oT]),(5,[oT,oT]),(5,tT 3),(5,[]),(5,[oF,oF,oF,oF,oT]),(5,[oF,oF,oF,oF,oT,oT]),(5,fA 4 (tT 3)),(5,[]),(5,[oF,oF,oF,oF,oF,oF,oF,oF,oT]),(5,[]),(5,[]),(5,[oF,oF,oF,oF,oF,oF,oF,oF,oF,oF,oF,oT]),(5,[oF,oF,oF,oF,oF,oF,oF,oF,oF,oF,oF,oT,oT]),(5,fA 11 (tT 3)),(5,tT 15),(5,[]),(5,[oF,oF,oF,oF,oF,oF,oF,oF,oF,oF,oF,oF,oF,oF,oF,oF,oT]),(5,[oF,oF,oF,oF,oF,oF,oF,oF,oF,oF,oF,oF,oF,oF,oF,oF,oT,oT]),(5,[]),(6,fA 16 (tT 4)),(5,[]),(5,[oF,oF,oF,oF,oF,oF,oF,oF,oF,oF,oF,oF,oF,oF,oF,oF,oF,oF,oF,oF,oF,oT]),(7,tT 23),(7,tT 24),(7,tT 25)] [_,_,_,_,_,_,_,_,_,_,_,_,_,_,_,_,_,_,_,_,_,_,_,_,_,_] ⟨[(5,.i 0),(4,.q 2 0)],[(2,.bx 193 [lI j.2.1,lI j.2.2,lI (D.length:Int),lH 4,lH 1,lH 5,lH 6,lI p0.2.1]),(4,ROW rB 4 D),(1,ROW rE302 302 j.1),(5,ROW qI 3 G),(6,ROW qI 3 H)],7⟩ ⟨O.mv Z R R,O.nc .B Z R R,O.faP yd5 Z R R,O.ld nag3 Z R (.B R) R R,O.mv Z R R,O.nc .B Z R R,O.faP yf2 Z R R,O.ld nag3 Z R (.B R) R R,O.mv Z R R,O.lenH sl144 Z R R R,O.mv Z R R,O.mv Z R R,O.nc .B Z R R,O.faP y9L Z R R,O.ld y6Y Z R (.B R) R R,O.bu (l:=[lI j.2.1,lI j.2.2,lI (D.length:Int),lH 4,lH 1]) pl191 R Z R R R,O.faP yT Z R R,O.ld nag32 Z R (.B R) R R,O.ca (r':= .h 5) [5] [(0,ROW qI 3 G)] (some 6) (y6n N) cf103 R R Z R R R R ⟨⟨_,R,I4⟩,trivial⟩ I3 R,O.mv Z R R,O.ca (r':= .h 6) [6] [(0,ROW qI 3 H)] (some 7) (y6n P) cf103 R R Z R R R R ⟨⟨_,R,I4⟩,trivial⟩ I3 R,O.faP y2S Z R R,O.ld nag3 Z R (.B R) R R,O.bu (l:=[lI j.2.1,lI j.2.2,lI (D.length:Int),lH 4,lH 1,lH 5,lH 6,lI p0.2.1]) pl193 R Z R R R,O.st ag193.sz Z R R R R R,O.as Z R R,trivial⟩ (by kernel_rfl) R ?_;refine .seqN (.ret ?_);cases hm;exact .rr [4,1,5,6] Tryz.results120 (.cell R R ag193 R (.tmp R .nil)) R I3 ⟨⟨_,R,I4⟩,⟨_,R,I4⟩,⟨_,R,I4⟩,⟨_,R,I4⟩,trivial⟩
             refine .fz 0 [10] [] R R fMt R R (.iter (fun (s:Int×(List (Int×Int))×Int×Int)=>⟨[(119,.i s.1),(118,.i (p1.length:Int)),(117,.f qI p1),(10,.o (lM kvI (rL qI) t.1)),(8,.q 0 0),(4,.q 2 0),(2,.q 3 0),(1,.f qI p1)],[(0,.bx 269 [lH 1,lI s.2.2.1,lI s.2.2.2]),(1,ROW rE302 302 s.2.1),(2,.bx 193 [lI 0,lI 0,lI 0,lN,lN,lN,lN,lI 0]),(3,.bx 35 (lx35 p0))],4⟩) M [(0,1),(1,2),(2,3),(3,4)] R ?_);intro s c2 hm b0 a7;unfold y3t at hm;refine .sr (.bi R (.ns (.seq ?_)));refine .cc hm R (fun hm=>?_) fun hm=> .exit (.seqX (.seqX ((b3 _ (a7 _ (oi hm).symm)).sub [] R)));refine .skip (.seqN (.seq (.block (.sr (.mv R (bS hm fun I a0 hm=> .ix sl32 a0 R (.le nag3 lv3 R (.sa R (.an R ?_)))))))));refine .sub (τ:=⟨[(16,.i I),(15,.i s.1),(119,.i s.1),(118,.i (p1.length:Int)),(117,.f qI p1),(10,.o (lM kvI (rL qI) t.1)),(8,.q 0 0),(4,.q 2 0),(2,.q 3 0),(1,.f qI p1)],[(0,.bx 269 [lH 1,lI s.2.2.1,lI s.2.2.2]),(1,ROW rE302 302 s.2.1),(2,.bx 193 [lI 0,lI 0,lI 0,lN,lN,lN,lN,lI 0]),(3,.bx 35 (lx35 p0))],4⟩) ?_ [] R;refine bS hm fun c3 Q hm=>bS hm fun w S hm=>?_;refine .drg 5 [(4,[]),(4,[]),(4,[]),(4,[oF,oT,oT]),(4,[]),(4,[]),(4,[oF,oF,oF,oF,oT,oT]),(4,tT 7)] [_,_,_,_,_,_,_,_] ⟨[(119,.i s.1),(118,.i (p1.length:Int)),(117,.f qI p1),(10,.o (lM kvI (rL qI) t.1)),(8,.q 0 0),(4,.q 2 0),(2,.q 3 0),(1,.f qI p1)],[(0,.bx 269 [lH 4,lI w.2.1,lI w.2.2]),(4,ROW rE302 302 w.1),(2,.bx 193 [lI 0,lI 0,lI 0,lN,lN,lN,lN,lI 0]),(3,.bx 35 (lx35 p0))],5⟩ ⟨O.mv Z R R,O.mv Z R R,O.mv Z R R,O.caZ (y6I Q) cf183 R R Z R ⟨⟨R,(.q R ⟨.hr R,.rf,.rf,trivial⟩),trivial⟩,⟨R,LnL.rf⟩,trivial⟩ (fun _ _ _ _ _ h=>h) R,O.mv Z R R,O.mv Z R R,O.mlS (k:=I) yg7 Z R (.o R) R,O.ca (r':= .tp []) [0,1,4] [(1,.u),(2,ROW rE302 302 w.1),(0,.bx 269 [lH 4,lI w.2.1,lI w.2.2])] (some 5) (y8o S) cf184 R R Z R R R R ⟨⟨_,R,fun _ _ _ _ _=>trivial⟩,⟨_,R,I4⟩,⟨_,R,I4⟩,trivial⟩ I3 R,trivial⟩ (by kernel_rfl) R ?_;exact .blkN (.seqN (.reg (.bi R (.mv R (.nil ((b0 _ (oi hm).symm).sub [(1,4)] R))))))
           refine .fz 1 [9] [] R R fMc R R (.nlb rE302 302 2 0 R R (.iter (fun (m:Int×(List (Int×Int))×Int×Int)=>⟨[(97,.i m.1),(96,.i (p0.1.length:Int)),(95,.f qI p0.1),(10,.h 0),(9,.o (lM kvI (rL qT) t.2)),(8,.q 1 0),(4,.q 3 0),(2,.q 4 0),(1,.f qI p1)],[(0,MTB flr3 3 none t.1),(1,.bx 269 [lH 2,lI m.2.2.1,lI m.2.2.2]),(2,ROW rE302 302 m.2.1),(3,.bx 193 [lI 0,lI 0,lI 0,lN,lN,lN,lN,lI 0]),(4,.bx 35 (lx35 p0))],5⟩) L [(1,2),(2,5)] R ?_));intro m c1 hm a9 a6;unfold y3u at hm;refine .sr (.bi R (.ns (.seq ?_)));refine .cc hm R (fun hm=>?_) fun hm=> .exit (.seqX (.seqX ((b2 _ (a6 _ (oi hm).symm)).sub [] R)));refine .skip (.seqN (.seq (.block (.sr (.mv R (bS hm fun J a1 hm=> .ix sl32 a1 R (.le nag3 lv3 R (.sa R (.an R ?_)))))))));refine .sub (τ:=⟨[(14,.i J),(13,.i m.1),(97,.i m.1),(96,.i (p0.1.length:Int)),(95,.f qI p0.1),(10,.h 0),(9,.o (lM kvI (rL qT) t.2)),(8,.q 1 0),(4,.q 3 0),(2,.q 4 0),(1,.f qI p1)],[(0,MTB flr3 3 none t.1),(1,.bx 269 [lH 2,lI m.2.2.1,lI m.2.2.2]),(2,ROW rE302 302 m.2.1),(3,.bx 193 [lI 0,lI 0,lI 0,lN,lN,lN,lN,lI 0]),(4,.bx 35 (lx35 p0))],5⟩) ?_ [] R;refine bS hm fun c4 T hm=>bS hm fun c5 U hm=>bS hm fun x V hm=>?_;refine .drg 6 [(5,[]),(5,[]),(5,[]),(5,[]),(5,[oF,oF,oF,oT]),(5,fA 2 (tT 3)),(5,[]),(5,[]),(5,[oF,oF,oF,oF,oF,oF,oF,oT]),(5,fA 2 (tT 7)),(5,[]),(5,[]),(5,[oF,oF,oF,oF,oF,oF,oF,oF,oF,oF,oT,oT]),(5,tT 13)] [_,_,_,_,_,_,_,_,_,_,_,_,_,_] ⟨[(97,.i m.1),(96,.i (p0.1.length:Int)),(95,.f qI p0.1),(10,.h 0),(9,.o (lM kvI (rL qT) t.2)),(8,.q 1 0),(4,.q 3 0),(2,.q 4 0),(1,.f qI p1)],[(0,MTB flr3 3 none t.1),(1,.bx 269 [lH 5,lI x.2.1,lI x.2.2]),(5,ROW rE302 302 x.1),(3,.bx 193 [lI 0,lI 0,lI 0,lN,lN,lN,lN,lI 0]),(4,.bx 35 (lx35 p0))],6⟩ ⟨O.mv Z R R,O.mv Z R R,O.mv Z R R,O.faP y2S Z R R,O.ld nag3 Z R (.B R) R R,O.caZ (y3N T) cf182 R R Z R ⟨⟨R,(.q R ⟨.hr R,.rf,.rf,trivial⟩),trivial⟩,⟨R,LnL.rf⟩,trivial⟩ (fun _ _ _ _ _ h=>h) R,O.mv Z R R,O.mv Z R R,O.len sl32 Z R R,O.caZ (y6I U) cf183 R R Z R ⟨⟨R,(.q R ⟨.hr R,.rf,.rf,trivial⟩),trivial⟩,⟨R,LnL.rf⟩,trivial⟩ (fun _ _ _ _ _ h=>h) R,O.mv Z R R,O.mv Z R R,O.mlS (k:=J) yiG Z R (.o R) R,O.ca (r':= .tp []) [1,2,5] [(1,.u),(2,ROW rE302 302 x.1),(0,.bx 269 [lH 5,lI x.2.1,lI x.2.2])] (some 6) (y8H V) cf181 R R Z R R R R ⟨⟨_,R,fun _ _ _ _ _=>trivial⟩,⟨_,R,I4⟩,⟨_,R,I4⟩,trivial⟩ I3 R,trivial⟩ (by kernel_rfl) R ?_;exact .blkN (.seqN (.reg (.bi R (.mv R (.nil ((a9 _ (oi hm).symm).sub [(2,5)] R))))))
         refine .iter (fun (v:Int×(List (Int×List Int))×(List (Int×List (Int×Int×Int))))=>⟨[(66,.i v.1),(65,.i (p0.2.2.2.length:Int)),(64,.f qT p0.2.2.2),(10,.h 0),(9,.h 1),(8,.q 2 0),(4,.q 3 0),(2,.q 4 0),(1,.f qI p1)],[(0,MTB flr3 3 none v.2.1),(1,MTC y5C 124 none v.2.2),(2,.bx 269 [lN,lI (p0.1.length:Int),lI (W ((p1.length:Int)+1))]),(3,.bx 193 [lI 0,lI 0,lI 0,lN,lN,lN,lN,lI 0]),(4,.bx 35 (lx35 p0))],5⟩) K [(0,4),(1,3),(3,1),(4,0)] R ?_;intro v b9 hm a8 a5;unfold y3v at hm;refine .sr (.bi R (.ns (.seq ?_)));refine .cc hm R (fun hm=>?_) fun hm=> .exit (.seqX (.seqX ((b1 _ (a5 _ (oi hm).symm)).sub [] R)));refine .skip (.seqN (.seq (.block (.sr (bS hm fun g a2 hm=> .ix sl33 a2 R (.op (O.lg (l':=[lI g.1,lI g.2.1,lI g.2.2]) ag124 Z R (.E lv124) R R R) R (.al 5 zz124 R (.st ag124.sz R (.ns ?_)))))))));refine .sub (τ:=⟨[(12,.q 5 0),(66,.i v.1),(65,.i (p0.2.2.2.length:Int)),(64,.f qT p0.2.2.2),(10,.h 0),(9,.h 1),(8,.q 2 0),(4,.q 3 0),(2,.q 4 0),(1,.f qI p1)],[(5,.bx 124 [lI g.1,lI g.2.1,lI g.2.2]),(0,MTB flr3 3 none v.2.1),(1,MTC y5C 124 none v.2.2),(2,.bx 269 [lN,lI (p0.1.length:Int),lI (W ((p1.length:Int)+1))]),(3,.bx 193 [lI 0,lI 0,lI 0,lN,lN,lN,lN,lI 0]),(4,.bx 35 (lx35 p0))],6⟩) ?_ [] R;refine bS hm fun b7 a3 hm=>bS hm fun b8 a4 hm=>?_;refine .drz 10 [(9,1),(9,6),(12,7),(16,0),(16,8),(20,9),(21,1)] [(6,[],[0,1],[]),(6,[],[0,1],[]),(6,[oF,oT],[0,1],[]),(6,[],[0,1],[]),(6,[],[0,1],[]),(6,[oF,oF,oF,oF,oT],[0,1],[]),(6,[],[0],[]),(6,[],[0],[]),(6,[oF,oF,oF,oF,oF,oF,oF,oT],[0],[]),(6,[oF,oF,oF,oF,oF,oF,oT,oT,oT],[0],[]),(6,[],[0,1],[]),(6,[oF,oF,oF,oF,oF,oF,oF,oF,oF,oF,oT],[0,1],[]),(7,[oF,oF,oF,oF,oF,oF,oT,oT,oT,oT,oT,oT],[0],[]),(6,[],[1],[]),(6,[],[1],[]),(6,[oF,oF,oF,oF,oF,oF,oF,oF,oF,oF,oF,oF,oF,oF,oT],[1],[]),(6,[oF,oF,oF,oF,oF,oF,oF,oF,oF,oF,oF,oF,oF,oT,oT,oT],[1],[]),(6,[],[0,1],[]),(6,[oF,oF,oF,oF,oF,oF,oF,oF,oF,oF,oF,oF,oF,oF,oF,oF,oF,oT],[0,1],[]),(6,[oF,oF,oF,oF,oF,oF,oF,oF,oF,oF,oF,oF,oF,oF,oF,oF,oF,oT,oT],[0,1],[]),(9,[oF,oF,oF,oF,oF,oF,oT,oT,oT,oT,oT,oT,oT,oT,oT,oT,oT,oT,oT,oT],[],[(9,6)]),(10,[oT,oT,oT,oF,oF,oF,oT,oT,oT,oT,oT,oT,oT,oT,oT,oT,oT,oT,oT,oT,oT],[],[(9,6),(16,8)]),(10,[oT,oT,oT,oF,oF,oF,oT,oT,oT,oT,oT,oT,oT,oT,oT,oT,oT,oT,oT,oT,oT,oT],[],[(9,1),(9,6),(16,8)]),(10,[oT,oT,oT,oF,oF,oF,oT,oT,oT,oT,oT,oT,oT,oT,oT,oT,oT,oT,oT,oT,oT,oT,oT],[],[(9,1),(9,6),(16,8)]),(10,[oT,oT,oT,oT,oT,oT,oT,oT,oT,oT,oT,oT,oT,oT,oT,oT,oT,oT,oT,oT,oT,oT,oT,oT],[],[(9,1),(9,6),(12,7),(16,8),(21,1)])] [_,_,_,_,_,_,_,_,_,_,_,_,_,_,_,_,_,_,_,_,_,_,_,_,_] ⟨[(66,.i v.1),(65,.i (p0.2.2.2.length:Int)),(64,.f qT p0.2.2.2),(10,.h 0),(9,.h 1),(8,.q 2 0),(4,.q 3 0),(2,.q 4 0),(1,.f qI p1)],[(0,MTB flr3 3 none (kput v.2.1 g.2.1 b8)),(1,MTC y5C 124 none (kput v.2.2 g.2.1 b7)),(2,.bx 269 [lN,lI (p0.1.length:Int),lI (W ((p1.length:Int)+1))]),(3,.bx 193 [lI 0,lI 0,lI 0,lN,lN,lN,lN,lI 0]),(4,.bx 35 (lx35 p0))],10⟩ ⟨O.mv Z R R,O.faP y4X Z R R,O.ld nag3 Z R (.B R) R R,O.mv Z R R,O.faP y4X Z R R,O.ld nag3 Z R (.B R) R R,O.mv Z R R,O.faP y4X Z R R,O.ld nag3 Z R (.B R) R R,O.luC (k:=g.2.1) 6 yg9 R Z R R (.o R) R,O.lg (l':=[lI g.1,lI g.2.1,lI g.2.2]) ag124 Z R (.B R) R R R,O.bsF (r:=qT) (zs:=([g]:List (Int×Int×Int))) bs33 R R Z R R R (.c (.p .k (.p .k .k)) .n) R R R,O.ap 7 Tryz.underlying33 el124 R R Z R R (.fr R) a3 R,O.mv Z R R,O.faP y4X Z R R,O.ld nag3 Z R (.B R) R R,O.luM (k:=g.2.1) 8 ycF R Z R R (.o R) R,O.faP y3r Z R R,O.ld nag3 Z R (.B R) R R,O.bsF (r:=qI) (zs:=([g.1]:List Int)) bs32 R R Z R R R (.c .k .n) R R R,O.ap 9 Tryz.underlying32 el3 R R Z R R (.fr R) a4 R,O.enC yg9 Z R R R R,O.ex Z R R R,O.esC Z R R R R R R,O.muM (k:=g.2.1) ycF Z R R (.o R) R R R (fun _ e=>by cases e;rfl),trivial⟩ (by kernel_rfl) R ?_
         exact .blkN (.seqN (.reg (.bi R (.mv R (.nil ((a8 _ (oi hm).symm).sub [] R))))))
      · intro J5;rcases Bool.eq_false_or_eq_true (decide (p0.2.1>64)) with hc|hc
        · refine .know (d:=46) R hc ?_;exact .sk R (.sk R (.sk R (.sk R (.op (O.pkT Z R R R R) R ((J5 true (orT hc).symm).sub [] R)))))
        · refine .know (d:=46) R hc ?_;exact .op (O.faP y1J (Gu.mk R R) R R) R (.op (O.ld nag33 (Gu.mk R R) R (.B R) R R) R (.op (O.len sl33 (Gu.mk R R) R R) R (.op (O.bi (Gu.mk R R) R R R R) R (.op (O.pkF Z R R R R) R ((J5 (decide ((p0.2.2.2.length:Int)>256)) (orF hc).symm).sub [] R)))))
def y4f(a:Int×List Int)(b:List Int):Option ((Int×List Int)⊕(List Int)):=
 some (.inl (W (a.1+1),b))
def y5s(p0:PbT)(a:Int×List Int):Option ((Int×List Int)⊕(List Int)):=
 if decide (a.1<(p0.2.1.1.length:Int)) then
  (idx p0.2.1.1 a.1).bind fun b=>
  (ye p0.2.2 b).bind fun c=>
  if(!c) then
   (app a.2 ([b]:List Int)).bind fun d=>
   y4f a d
  else
   y4f a a.2
 else
  some (.inr a.2)
def y5y(p0:PbT):Option (CodT×Int):=
 (iter (y5s p0) (0,([]:List Int))).bind fun a=>
 (yU p0.2.1 a).bind fun b=>
 some b
theorem y8A{p0:PbT}{r:CodT×Int}(hm:y5y p0=some r):
  F0 131 [.a (lx37 p0)] [] (.tp [.a [lI r.1.1.1,lI r.1.1.2.1,lI r.1.1.2.2.1,lH 0,lH 1,lH 2,lH 3,lI r.1.2.2.2],.i r.2]) [ROW rB 4 r.1.1.2.2.2.1,ROW rE302 302 r.1.1.2.2.2.2,ROW qI 3 r.1.2.1,ROW qI 3 r.1.2.2.1]:=by
 unfold y5y at hm;refine Fw.mk2 Tryz.func131 Tryz.ntmps131 R (fun C=>?_) R;refine .sr (.bo 0 R (.al 1 zz193 R (.an R (.sr (.an R (.seq (.sr (.fa y4B R (.fa yT R (.lb nag32 R (.ln sl32 R (.mv R (.ns (.block (bS hm fun j o hm=>?_)))))))))))))));refine .cut1 (z:= .exit 0) j (fun (j:List Int)=>⟨[(4,.h 0),(2,.q 1 0),(1,.q 2 0)],[(0,ROW qI 3 j),(1,.bx 193 [lI 0,lI 0,lI 0,lN,lN,lN,lN,lI 0]),(2,.bx 37 (lx37 p0))],3⟩) ?_ fun x=>?_
 ·skip
  refine .blkE (.seqN (.sr (.fa y4B R (.op (O.lg (l':=(lx35 p0.2.1)) ag35 Z R (.B R) R R R) R (.mv R (bS hm fun b p hm=> .op (O.caY (r':= .tp [.a [lI b.1.1.1,lI b.1.1.2.1,lI b.1.1.2.2.1,lH 3,lH 4,lH 5,lH 6,lI b.1.2.2.2],.i b.2]) [3,4,5,6] [(0,ROW rB 4 b.1.1.2.2.2.1),(1,ROW rE302 302 b.1.1.2.2.2.2),(2,ROW qI 3 b.1.2.1),(3,ROW qI 3 b.1.2.2.1)] (some 7) (y8e p) cf120 R R Z R R ⟨⟨R,LnL.rf⟩,⟨R,.hr R,trivial⟩,trivial⟩ R ⟨.row flr4,.row yga,.row flr3,.row flr3,trivial⟩ (fun _ _ _ _ h=>h) ⟨⟨_,R,I4⟩,⟨_,R,I4⟩,⟨_,R,I4⟩,⟨_,R,I4⟩,trivial⟩ I3 R) R (.ex R (.ex R (.st ag193.sz R (.an R (.ret ?_)))))))))));cases hm;exact .rr [3,4,5,6] Tryz.results131 (.cell R R ag193 R (.tmp R .nil)) R I3 ⟨⟨_,R,I4⟩,⟨_,R,I4⟩,⟨_,R,I4⟩,⟨_,R,I4⟩,trivial⟩
 refine .nlg qI 3 4 0 R R (.iter (fun (d:Int×List Int)=>⟨[(11,.i d.1),(10,.i (p0.2.1.1.length:Int)),(9,.f qI p0.2.1.1),(4,.h 0),(2,.q 1 0),(1,.q 2 0)],[(0,ROW qI 3 d.2),(1,.bx 193 [lI 0,lI 0,lI 0,lN,lN,lN,lN,lI 0]),(2,.bx 37 (lx37 p0))],3⟩) o [(0,2),(2,0)] R ?_);intro d m hm w v;unfold y5s at hm;refine .sr (.bi R (.ns (.seq ?_)));refine .cc hm R (fun hm=>?_) fun hm=> .exit (.seqX (.seqX ((x _ (v _ (oi hm).symm)).sub [] R)));refine .skip (.seqN ?_);refine .join1 (fun (e:List Int)=>y4f d e=some m) (fun e=>⟨[(4,.h 0),(11,.i d.1),(10,.i (p0.2.1.1.length:Int)),(9,.f qI p0.2.1.1),(2,.q 1 0),(1,.q 2 0)],[(0,ROW qI 3 e),(1,.bx 193 [lI 0,lI 0,lI 0,lN,lN,lN,lN,lI 0]),(2,.bx 37 (lx37 p0))],3⟩) ?_ ?_
 ·intro e hm;unfold y4f at hm;exact .reg (.bi R (.mv R (.nil ((w _ (oi hm).symm).sub [] R))))
 ·intro g;refine .block (.sr (bS hm fun y t hm=> .ix sl32 t R (.le nag3 lv3 R (.an R (.sr (.fa y7N R (.lb nag32 R (.mv R (bS hm fun D s hm=> .c0 (yg s) cf104 R (.op (O.not Z R R) R (.ns ?_)))))))))));exact .cc hm R (fun hm=> .reg (.mv R (.mv R (.op (O.bsF (r:=qI) (zs:=([y]:List Int)) bs32 R R Z R R R (.c .k .n) R R R) R (bS hm fun E u hm=> .op (O.ap 3 Tryz.underlying32 el3 R R Z R R (.fr R) u R) R (.sa R (.nil (.blkN ((g _ hm).sub [(0,3)] R))))))))) fun hm=> .skip (.blkN ((g _ hm).sub [] R))
def yF(p0:PbT):Option Int:=
 (y7v p0).bind fun a=>
 if(a != 0) then
  some a
 else
  if(p0.1.2.1==0) then
   some 12
  else
   (y5y p0).bind fun b=>
   some b.2
theorem y6U{p0:PbT}{r:Int}(hm:yF p0=some r):
    F0 62 [.a (lx37 p0)] [] (.i r) []:=by
  unfold yF at hm;refine Fw.mk2 Tryz.func62 Tryz.ntmps62 R (fun C=>?_) R;refine .sr (.bo 0 R (.an R (.seq (.sr (.op (O.lg (l':=(lx37 p0)) ag37 Z R (.B R) R R R) R (bS hm fun e c hm=> .c0 (yaE c) cf119 R (.an R (.sr (.mv R (.bi R (.ns ?_)))))))))));refine .cc hm R (fun hm=>?_) fun hm=>?_
  ·refine .sr (.mv R (.an R (.ret (.seqR ?_))));cases hm;exact .rr [] Tryz.results62 (.tmp R .nil) R I3 trivial
  ·refine .skip (.seqN (.seq (.sr (.fa y3A R (.fa y2S R (.lb nag3 R (.bi R (.ns ?_))))))));refine .cc hm R (fun hm=>?_) fun hm=>?_
   ·refine .sr (.an R (.ret (.seqR ?_)));cases hm;exact .rr [] Tryz.results62 (.tmp R .nil) R I3 trivial
   ·refine .skip (.seqN (.sr (.op (O.lg (l':=(lx37 p0)) ag37 Z R (.B R) R R R) R (bS hm fun b d hm=> .op (O.ca (r':= .tp [.a [lI b.1.1.1,lI b.1.1.2.1,lI b.1.1.2.2.1,lH 1,lH 2,lH 3,lH 4,lI b.1.2.2.2],.i b.2]) [1,2,3,4] [(0,ROW rB 4 b.1.1.2.2.2.1),(1,ROW rE302 302 b.1.1.2.2.2.2),(2,ROW qI 3 b.1.2.1),(3,ROW qI 3 b.1.2.2.1)] (some 5) (y8A d) cf131 R R Z R R R R ⟨⟨_,R,I4⟩,⟨_,R,I4⟩,⟨_,R,I4⟩,⟨_,R,I4⟩,trivial⟩ I3 R) R (.mv R (.ex R (.ex R (.al 5 zz193 R (.st ag193.sz R (.an R (.sr (.mv R (.an R (.ret ?_))))))))))))));cases hm;exact .rr [] Tryz.results62 (.tmp R .nil) R I3 trivial
def y2W(p0:PbT)(p1:List Int)(a:Int):Option (Int⊕(Unit⊕Int)):=
 if decide (a<(p1.length:Int)) then
  (idx p1 a).bind fun b=>
  (ye p0.1.1 b).bind fun c=>
  if(!c) then
   some (.inr (.inr (9)))
  else
   (ye p0.2.2 b).bind fun d=>
   if(!d) then
    some (.inr (.inr (13)))
   else
    (slc p1 0 a).bind fun f=>
    (ye f b).bind fun e=>
    if e then
     some (.inr (.inr (8)))
    else
     some (.inl (W (a+1)))
 else
  some (.inr (.inl ()))
def y3U(p0:PbT)(p1:List Int):Option Int:=
 if decide ((p1.length:Int)>3) then
  some 3
 else
  (iter (y2W p0 p1) 0).bind fun b=>
  match b with
  | .inl c=>
   some 0
  | .inr (a)=>
   some a
theorem y9u{p0:PbT}{p1:List Int}{r:Int}(hm:y3U p0 p1=some r):
    F0 137 [.a (lx37 p0),.f qI p1] [] (.i r) []:=by
  unfold y3U at hm;refine Fw.mk2 Tryz.func137 Tryz.ntmps137 R (fun C=>?_) R;refine .sr (.bo 0 R (.an R (.seq (.sr (.mv R (.ln sl32 R (.bi R (.ns ?_))))))));refine .cc hm R (fun hm=>?_) fun hm=>?_
  ·refine .sr (.an R (.ret (.seqR ?_)));cases hm;exact .rr [] Tryz.results137 (.tmp R .nil) R I3 trivial
  ·refine .skip (.seqN (.seq (.sr (.mv R (.ln sl32 R (.mv R (.ns (.block (bS hm fun s o hm=>?_)))))))));refine .cutU (z:= .exit 0) (fun e=> .inl e=s) (fun (e:Unit)=>⟨[],[],0⟩) ?_ fun n=>?_
   · rintro e rfl;dsimp only at hm;refine .blkE (.seqN (.sr (.an R (.ret ?_))));cases hm;exact .rr [] Tryz.results137 (.tmp R .nil) R I3 trivial
   refine .cutU (z:= .ret) (fun c=> .inr (c)=s) (fun (c:Int)=>⟨[(4,.i c)],[],0⟩) ?_ fun d=>?_
   · rintro c rfl;dsimp only at hm;refine .blkR (.seqR ?_);cases hm;exact .rr [] Tryz.results137 (.tmp R .nil) R I3 trivial
   refine .iter (fun (g:Int)=>⟨[(12,.i g),(11,.i (p1.length:Int)),(10,.f qI p1),(2,.q 0 0),(1,.f qI p1)],[(0,.bx 37 (lx37 p0))],1⟩) o [] R ?_;intro g t hm p b;unfold y2W at hm;refine .sr (.bi R (.ns (.seq ?_)));refine .cc hm R (fun hm=>?_) fun hm=> .exit (.seqX (.seqX ((n _ (b _ (oi hm).symm)).sub [] R)));refine .skip (.seqN (.seq (.block (.sr (.mv R (bS hm fun x l hm=> .ix sl32 l R (.le nag3 lv3 R (.sa R (.an R (.block (.sr (.fa y3A R (.fa yT R (.lb nag32 R (.mv R (bS hm fun u h hm=> .c0 (yg h) cf104 R (.op (O.not Z R R) R (.an R ?_))))))))))))))))));refine .cc hm R (fun hm=> .sr (.an R (.ret (.blkR (.blkR (.seqR (.seqR ((d _ (b _ (oi hm).symm)).sub [] R)))))))) fun hm=>?_;refine .sr (.fa y7N R (.lb nag32 R (.mv R (bS hm fun v j hm=> .c0 (yg j) cf104 R (.op (O.not Z R R) R (.an R ?_))))));refine .cc hm R (fun hm=> .sr (.an R (.ret (.blkR (.blkR (.seqR (.seqR ((d _ (b _ (oi hm).symm)).sub [] R)))))))) fun hm=>?_;refine .sr (.mv R (.mv R (bS hm fun y m hm=> .op (O.sh sl32 Z R R m R) R (.mv R (bS hm fun w k hm=> .c0 (yg k) cf104 R (.an R ?_))))));exact .cc hm R (fun hm=> .sr (.an R (.ret (.blkR (.blkR (.seqR (.seqR ((d _ (b _ (oi hm).symm)).sub [] R)))))))) fun hm=> .skip (.blkN (.blkN (.seqN (.reg (.bi R (.mv R (.nil ((p _ (oi hm).symm).sub [] R))))))))
def y1S(a:Int):Option (Int⊕(Unit⊕Int)):=
 some (.inl (W (a+1)))
def y1T(p0:PbT)(b:CycT)(a:Int):Option (Int⊕(Unit⊕Int)):=
 if decide (a<(([b.1,b.2.1]:List (List Int)).length:Int)) then
  (idx ([b.1,b.2.1]:List (List Int)) a).bind fun d=>
  (y3U p0 d).bind fun c=>
  if(c != 0) then
   some (.inr (.inr (c)))
  else
   some (.inl (W (a+1)))
 else
  some (.inr (.inl ()))
def y2X(p0:PbT)(p1:List CycT)(a:Int):Option (Int⊕(Unit⊕Int)):=
 if decide (a<(p1.length:Int)) then
  (idx p1 a).bind fun b=>
  (iter (y1T p0 b) 0).bind fun c=>
  match c with
  | .inl g=>
   if(b.2.2==(-1)) then
    y1S a
   else
    (ye p0.1.1 b.2.2).bind fun d=>
    if(!d) then
     some (.inr (.inr (9)))
    else
     (ye p0.2.2 b.2.2).bind fun e=>
     if e then
      some (.inr (.inr (13)))
     else
      y1S a
  | .inr (f)=>
   some (.inr (.inr (f)))
 else
  some (.inr (.inl ()))
def y1K(p0:PbT)(p1:List CycT):Option Int:=
 (yF p0).bind fun b=>
 if(b != 0) then
  some b
 else
  if decide ((p1.length:Int)>256) then
   some 3
  else
   (iter (y2X p0 p1) 0).bind fun a=>
   match a with
   | .inl d=>
    some 0
   | .inr (c)=>
    some c
theorem y6g{p0:PbT}{p1:List CycT}{r:Int}(hm:y1K p0 p1=some r):
    F0 65 [.a (lx37 p0),.f rE114 p1] [] (.i r) []:=by
  unfold y1K at hm;refine Fw.mk2 Tryz.func65 Tryz.ntmps65 R (fun C=>?_) R;refine .sr (.bo 0 R (.an R (.seq (.sr (.op (O.lg (l':=(lx37 p0)) ag37 Z R (.B R) R R R) R (bS hm fun V N hm=> .c0 (y6U N) cf62 R (.an R (.sr (.mv R (.bi R (.ns ?_)))))))))));refine .cc hm R (fun hm=>?_) fun hm=>?_
  ·refine .sr (.mv R (.an R (.ret (.seqR ?_))));cases hm;exact .rr [] Tryz.results65 (.tmp R .nil) R I3 trivial
  ·refine .skip (.seqN (.seq (.sr (.mv R (.ln sl94 R (.bi R (.ns ?_)))))));refine .cc hm R (fun hm=>?_) fun hm=>?_
   ·refine .sr (.an R (.ret (.seqR ?_)));cases hm;exact .rr [] Tryz.results65 (.tmp R .nil) R I3 trivial
   ·refine .skip (.seqN (.seq (.sr (.mv R (.ln sl94 R (.mv R (.ns (.block (bS hm fun u w hm=>?_)))))))));refine .cutU (z:= .exit 0) (fun p=> .inl p=u) (fun (p:Unit)=>⟨[],[],0⟩) ?_ fun K=>?_
    · rintro p rfl;dsimp only at hm;refine .blkE (.seqN (.sr (.an R (.ret ?_))));cases hm;exact .rr [] Tryz.results65 (.tmp R .nil) R I3 trivial
    refine .cutU (z:= .ret) (fun g=> .inr (g)=u) (fun (g:Int)=>⟨[(4,.i g)],[],0⟩) ?_ fun k=>?_
    · rintro g rfl;dsimp only at hm;refine .blkR (.seqR ?_);cases hm;exact .rr [] Tryz.results65 (.tmp R .nil) R I3 trivial
    refine .iter (fun (d:Int)=>⟨[(21,.i d),(20,.i (p1.length:Int)),(19,.f rE114 p1),(2,.q 0 0)],[(0,.bx 37 (lx37 p0))],1⟩) w [] R ?_;intro d t hm I e;unfold y2X at hm;refine .sr (.bi R (.ns (.seq ?_)));refine .cc hm R (fun hm=>?_) fun hm=> .exit (.seqX (.seqX ((K _ (e _ (oi hm).symm)).sub [] R)));refine .skip (.seqN ?_);refine .join0 (y1S d=some t) (⟨[(21,.i d),(20,.i (p1.length:Int)),(19,.f rE114 p1),(2,.q 0 0)],[(0,.bx 37 (lx37 p0))],1⟩) ?_ ?_
    · intro hm;unfold y1S at hm;exact .reg (.bi R (.mv R (.nil ((I _ (oi hm).symm).sub [] R))))
    · intro j;refine .block (.sr (bS hm fun b G hm=> .ix sl94 G R (.op (O.lg (l':=[lF qI b.1,lF qI b.2.1,lI b.2.2]) ag114 Z R (.E lv114) R R R) R (.al 1 zz114 R (.st ag114.sz R (.ns (.seq (.sr (.fa yaw R (.lb nag32 R (.fa yax R (.lb nag32 R (.op (O.bsF (r:=(rL qI)) (zs:=([b.1,b.2.1]:List (List Int))) bs53 R R Z R R R (.c .l (.c .l .n)) R R R) R (.ln sl53 R (.mv R (.ns (.block (bS hm fun v x hm=>?_))))))))))))))))));refine .cutU (z:= .exit 2) (fun s=> .inl s=v) (fun (s:Unit)=>⟨[(7,.q 0 0),(21,.i d),(20,.i (p1.length:Int)),(19,.f rE114 p1),(2,.q 1 0)],[(0,.bx 114 [lF qI b.1,lF qI b.2.1,lI b.2.2]),(1,.bx 37 (lx37 p0))],2⟩) ?_ fun L=>?_
      · rintro s rfl;dsimp only at hm;refine .blkE (.seqN (.block (.sr (.fa y8b R (.lb nag3 R (.bi R (.an R ?_)))))));refine .cc hm R (fun hm=> .skip (.blkN (.blkN ((j hm).sub [(0,1)] R)))) fun hm=>?_;refine .sr (.fa y3A R (.fa yT R (.lb nag32 R (.fa y8b R (.lb nag3 R (bS hm fun Q y hm=> .c0 (yg y) cf104 R (.op (O.not Z R R) R (.an R ?_))))))));refine .cc hm R (fun hm=> .sr (.an R (.ret (.blkR (.blkR (.seqR (.seqR ((k _ (e _ (oi hm).symm)).sub [] R)))))))) fun hm=>?_;refine .sr (.fa y7N R (.lb nag32 R (.fa y8b R (.lb nag3 R (bS hm fun S D hm=> .c0 (yg D) cf104 R (.an R ?_))))));exact .cc hm R (fun hm=> .sr (.an R (.ret (.blkR (.blkR (.seqR (.seqR ((k _ (e _ (oi hm).symm)).sub [] R)))))))) fun hm=> .skip (.blkN (.blkN ((j hm).sub [(0,1)] R)))
      refine .cutU (z:= .ret) (fun h=> .inr (h)=v) (fun (h:Int)=>⟨[(4,.i h)],[],0⟩) ?_ fun M=>?_
      · rintro h rfl;dsimp only at hm;exact .blkR (.seqR (.blkR (.seqR (.seqR ((k _ (e _ (oi hm).symm)).sub [] R)))))
      refine .iter (fun (o:Int)=>⟨[(31,.i o),(30,.i (([b.1,b.2.1]:List (List Int)).length:Int)),(29,.f (rL qI) ([b.1,b.2.1]:List (List Int))),(7,.q 0 0),(21,.i d),(20,.i (p1.length:Int)),(19,.f rE114 p1),(2,.q 1 0)],[(0,.bx 114 [lF qI b.1,lF qI b.2.1,lI b.2.2]),(1,.bx 37 (lx37 p0))],2⟩) x [(0,1),(1,0)] R ?_;intro o P hm J m;unfold y1T at hm;refine .sr (.bi R (.ns (.seq ?_)));refine .cc hm R (fun hm=>?_) fun hm=> .exit (.seqX (.seqX ((L _ (m _ (oi hm).symm)).sub [] R)));refine .skip (.seqN (.seq (.block (.sr (bS hm fun U H hm=> .ix sl53 H R (.le nag32 lv32 R (.an R (.sr (.op (O.lg (l':=(lx37 p0)) ag37 Z R (.B R) R R R) R (.mv R (bS hm fun T F hm=> .c0 (y9u F) cf137 R (.an R (.sr (.mv R (.bi R (.ns ?_))))))))))))))));exact .cc hm R (fun hm=> .sr (.mv R (.an R (.ret (.blkR (.seqR (.seqR ((M _ (m _ (oi hm).symm)).sub [] R)))))))) fun hm=> .skip (.blkN (.seqN (.reg (.bi R (.mv R (.nil ((J _ (oi hm).symm).sub [] R)))))))
def y3k(p0:Int×Int×Int×List Bool×(List (Int×Int)))(a:Int):Option (Int⊕(Unit⊕Unit)):=
 if decide (a<3) then
  (idx ([p0.1,p0.2.1,p0.2.2.1]:List Int) a).bind fun b=>
  if((decide (b<0))||(decide (b>256))) then
   some (.inr (.inr (())))
  else
   some (.inl (W (a+1)))
 else
  some (.inr (.inl ()))
def y4m(p0:Int×Int×Int×List Bool×(List (Int×Int))):Option Int:=
 (iter (y3k p0) 0).bind fun a=>
 match a with
 | .inl b=>
  if((p0.2.2.2.1.length:Int) != p0.2.2.1) then
   some 4
  else
   if decide ((p0.2.2.2.2.length:Int)>2048) then
    some 3
   else
    some 0
 | .inr (c)=>
  some 2
theorem y9C{p0:Int×Int×Int×List Bool×(List (Int×Int))}{r:Int}(hm:y4m p0=some r):
    F0 269 [.a (lx191 p0)] [] (.i r) []:=by
  unfold y4m at hm;refine Fw.mk2 Tryz.func269 Tryz.ntmps269 R (fun C=>?_) R;refine .sr (.bo 0 R (.an R (.seq (.sr (.fa y9M R (.lb nag3 R (.fa y9N R (.lb nag3 R (.fa yay R (.lb nag3 R (.op (O.bu (l:=[lI p0.1,lI p0.2.1,lI p0.2.2.1]) pl367 R Z R R R) R (.mv R (.ns (.block (bS hm fun t p hm=>?_)))))))))))))));refine .cutU (z:= .exit 0) (fun m=> .inl m=t) (fun (m:Unit)=>⟨[(1,.q 0 0)],[(0,.bx 191 (lx191 p0))],1⟩) ?_ fun K8=>?_
  · rintro m rfl;dsimp only at hm;refine .blkE (.seqN (.seq (.block (.sr (.fa yf3 R (.lb y3i R (.ln sl144 R (.fa yay R (.lb nag3 R (.bi R (.an R ?_)))))))))));refine .cc hm R (fun hm=>?_) fun hm=>?_
    ·refine .sr (.an R (.ret (.blkR (.seqR ?_))));cases hm;exact .rr [] Tryz.results269 (.tmp R .nil) R I3 trivial
    ·refine .sr (.fa y9O R (.lb y6Y R (.ln sl189 R (.bi R (.an R ?_)))));refine .cc hm R (fun hm=>?_) fun hm=>?_
     ·refine .sr (.an R (.ret (.blkR (.seqR ?_))));cases hm;exact .rr [] Tryz.results269 (.tmp R .nil) R I3 trivial
     ·refine .skip (.blkN (.seqN (.sr (.an R (.ret ?_)))));cases hm;exact .rr [] Tryz.results269 (.tmp R .nil) R I3 trivial
  refine .cutU (z:= .ret) (fun n=> .inr (n)=t) (fun (n:Unit)=>⟨[(2,.i 2)],[],0⟩) ?_ fun o=>?_
  · rintro n rfl;dsimp only at hm;refine .blkR (.seqR ?_);cases hm;exact .rr [] Tryz.results269 (.tmp R .nil) R I3 trivial
  refine .iter (fun (e:Int)=>⟨[(12,.i e),(11,.g [lI p0.1,lI p0.2.1,lI p0.2.2.1]),(1,.q 0 0)],[(0,.bx 191 (lx191 p0))],1⟩) p [] R ?_;intro e u hm s j;unfold y3k at hm;refine .sr (.bi R (.ns (.seq ?_)));refine .cc hm R (fun hm=>?_) fun hm=> .exit (.seqX (.seqX ((K8 _ (j _ (oi hm).symm)).sub [] R)));refine .skip (.seqN (.seq (.block (.sr (bS hm fun c k hm=> .op (O.ixA (xs:=([p0.1,p0.2.1,p0.2.2.1]:List Int)) nag3 Tryz.underlying367 Z R R R k R) R (.an R (.sr (.mv R (.bi R (.mv R ?_))))))))));refine .cut 3 (fun (f:Bool)=>((decide (c<0))||(decide (c>256)))=f) (fun f=>⟨[(20,.b f),(12,.i e),(11,.g [lI p0.1,lI p0.2.1,lI p0.2.2.1]),(1,.q 0 0)],[(0,.bx 191 (lx191 p0))],1⟩) ?_ ?_
  · rintro _ rfl;exact .ns (.cc hm R (fun hm=> .sr (.an R (.ret (.blkR (.seqR (.seqR ((o _ (j _ (oi hm).symm)).sub [] R))))))) fun hm=> .skip (.blkN (.seqN (.reg (.bi R (.mv R (.nil ((s _ (oi hm).symm).sub [] R))))))))
  · intro h;rcases Bool.eq_false_or_eq_true (decide (c<0)) with hc|hc
    · refine .know (d:=17) R hc ?_;exact .sk R (.sk R (.op (O.pkT Z R R R R) R ((h true (orT hc).symm).sub [] R)))
    · refine .know (d:=17) R hc ?_;exact .op (O.mv (Gu.mk R R) R R) R (.op (O.bi (Gu.mk R R) R R R R) R (.op (O.pkF Z R R R R) R ((h (decide (c>256)) (orF hc).symm).sub [] R)))
def y4J(p0:Bool)(p1:Bool):Option Bool:=
 some p1
theorem y8I{r:Bool}(hm:y4J p0 p1=some r):
  F0 306 [.b p0,.b p1] [] (.b r) []:=by
 unfold y4J at hm;refine Fw.mk2 Tryz.func306 Tryz.ntmps306 R (fun C=>?_) R;refine .sr (.an R (.sr (.mv R (.an R (.ret ?_)))));cases hm;exact .rr [] Tryz.results306 (.tmp R .nil) R I3 trivial
def y4K(p0:Bool)(p1:Bool):Option Bool:=
 some (!p1)
theorem y8J{r:Bool}(hm:y4K p0 p1=some r):
  F0 307 [.b p0,.b p1] [] (.b r) []:=by
 unfold y4K at hm;refine Fw.mk2 Tryz.func307 Tryz.ntmps307 R (fun C=>?_) R;refine .sr (.an R (.sr (.mv R (.op (O.not Z R R) R (.an R (.ret ?_))))));cases hm;exact .rr [] Tryz.results307 (.tmp R .nil) R I3 trivial
def y4L(p0:Bool)(p1:Bool):Option Bool:=
 some (p0&&p1)
theorem y8K{r:Bool}(hm:y4L p0 p1=some r):
  F0 308 [.b p0,.b p1] [] (.b r) []:=by
 unfold y4L at hm;refine Fw.mk2 Tryz.func308 Tryz.ntmps308 R (fun C=>?_) R;refine .sr (.an R (.sr (.mv R (.mv R ?_))));refine .cut 2 (fun (a:Bool)=>(p0&&p1)=a) (fun a=>⟨[(8,.b a)],[],0⟩) ?_ ?_
 ·rintro _ rfl;refine .an R (.ret ?_);cases hm;exact .rr [] Tryz.results308 (.tmp R .nil) R I3 trivial
 ·intro c;rcases Bool.eq_false_or_eq_true p0 with hc|hc
  ·refine .know (d:=6) R hc ?_;exact .op (O.mv (Gu.mk R R) R R) R (.op (O.pkT Z R R R R) R ((c p1 (andT hc).symm).sub [] R))
  ·refine .know (d:=6) R hc ?_;exact .sk R (.op (O.pkF Z R R R R) R ((c false (andF hc).symm).sub [] R))
def y4M(p0:Bool)(p1:Bool):Option Bool:=
 some (p0&&(!p1))
theorem y8L{r:Bool}(hm:y4M p0 p1=some r):
  F0 309 [.b p0,.b p1] [] (.b r) []:=by
 unfold y4M at hm;refine Fw.mk2 Tryz.func309 Tryz.ntmps309 R (fun C=>?_) R;refine .sr (.an R (.sr (.mv R (.mv R ?_))));refine .cut 3 (fun (a:Bool)=>(p0&&(!p1))=a) (fun a=>⟨[(9,.b a)],[],0⟩) ?_ ?_
 ·rintro _ rfl;refine .an R (.ret ?_);cases hm;exact .rr [] Tryz.results309 (.tmp R .nil) R I3 trivial
 ·intro c;rcases Bool.eq_false_or_eq_true p0 with hc|hc
  ·refine .know (d:=6) R hc ?_;exact .op (O.mv (Gu.mk R R) R R) R (.op (O.not (Gu.mk R R) R R) R (.op (O.pkT Z R R R R) R ((c (!p1) (andT hc).symm).sub [] R)))
  ·refine .know (d:=6) R hc ?_;exact .sk R (.sk R (.op (O.pkF Z R R R R) R ((c false (andF hc).symm).sub [] R)))
def y4N(p0:Bool)(p1:Bool):Option Bool:=
 some (p0||p1)
theorem y8M{r:Bool}(hm:y4N p0 p1=some r):
  F0 310 [.b p0,.b p1] [] (.b r) []:=by
 unfold y4N at hm;refine Fw.mk2 Tryz.func310 Tryz.ntmps310 R (fun C=>?_) R;refine .sr (.an R (.sr (.mv R (.mv R ?_))));refine .cut 2 (fun (a:Bool)=>(p0||p1)=a) (fun a=>⟨[(8,.b a)],[],0⟩) ?_ ?_
 ·rintro _ rfl;refine .an R (.ret ?_);cases hm;exact .rr [] Tryz.results310 (.tmp R .nil) R I3 trivial
 ·intro c;rcases Bool.eq_false_or_eq_true p0 with hc|hc
  ·refine .know (d:=6) R hc ?_;exact .sk R (.op (O.pkT Z R R R R) R ((c true (orT hc).symm).sub [] R))
  ·refine .know (d:=6) R hc ?_;exact .op (O.mv (Gu.mk R R) R R) R (.op (O.pkF Z R R R R) R ((c p1 (orF hc).symm).sub [] R))
def y4O(p0:Bool)(p1:Bool):Option Bool:=
 some (p0||(!p1))
theorem y8N{r:Bool}(hm:y4O p0 p1=some r):
  F0 311 [.b p0,.b p1] [] (.b r) []:=by
 unfold y4O at hm;refine Fw.mk2 Tryz.func311 Tryz.ntmps311 R (fun C=>?_) R;refine .sr (.an R (.sr (.mv R (.mv R ?_))));refine .cut 3 (fun (a:Bool)=>(p0||(!p1))=a) (fun a=>⟨[(9,.b a)],[],0⟩) ?_ ?_
 ·rintro _ rfl;refine .an R (.ret ?_);cases hm;exact .rr [] Tryz.results311 (.tmp R .nil) R I3 trivial
 ·intro c;rcases Bool.eq_false_or_eq_true p0 with hc|hc
  ·refine .know (d:=6) R hc ?_;exact .sk R (.sk R (.op (O.pkT Z R R R R) R ((c true (orT hc).symm).sub [] R)))
  ·refine .know (d:=6) R hc ?_;exact .op (O.mv (Gu.mk R R) R R) R (.op (O.not (Gu.mk R R) R R) R (.op (O.pkF Z R R R R) R ((c (!p1) (orF hc).symm).sub [] R)))
def y4P(p0:Bool)(p1:Bool):Option Bool:=
 some p0
theorem y8O{r:Bool}(hm:y4P p0 p1=some r):
  F0 312 [.b p0,.b p1] [] (.b r) []:=by
 unfold y4P at hm;refine Fw.mk2 Tryz.func312 Tryz.ntmps312 R (fun C=>?_) R;refine .sr (.an R (.sr (.mv R (.an R (.ret ?_)))));cases hm;exact .rr [] Tryz.results312 (.tmp R .nil) R I3 trivial
def y4Q(p0:Bool)(p1:Bool):Option Bool:=
 some (!p0)
theorem y8P{r:Bool}(hm:y4Q p0 p1=some r):
  F0 313 [.b p0,.b p1] [] (.b r) []:=by
 unfold y4Q at hm;refine Fw.mk2 Tryz.func313 Tryz.ntmps313 R (fun C=>?_) R;refine .sr (.an R (.sr (.mv R (.op (O.not Z R R) R (.an R (.ret ?_))))));cases hm;exact .rr [] Tryz.results313 (.tmp R .nil) R I3 trivial
def y4R(p0:Bool)(p1:Bool):Option Bool:=
 some (p1||p0)
theorem y8Q{r:Bool}(hm:y4R p0 p1=some r):
  F0 314 [.b p0,.b p1] [] (.b r) []:=by
 unfold y4R at hm;refine Fw.mk2 Tryz.func314 Tryz.ntmps314 R (fun C=>?_) R;refine .sr (.an R (.sr (.mv R (.mv R ?_))));refine .cut 2 (fun (a:Bool)=>(p1||p0)=a) (fun a=>⟨[(8,.b a)],[],0⟩) ?_ ?_
 ·rintro _ rfl;refine .an R (.ret ?_);cases hm;exact .rr [] Tryz.results314 (.tmp R .nil) R I3 trivial
 ·intro c;rcases Bool.eq_false_or_eq_true p1 with hc|hc
  ·refine .know (d:=6) R hc ?_;exact .sk R (.op (O.pkT Z R R R R) R ((c true (orT hc).symm).sub [] R))
  ·refine .know (d:=6) R hc ?_;exact .op (O.mv (Gu.mk R R) R R) R (.op (O.pkF Z R R R R) R ((c p0 (orF hc).symm).sub [] R))
def y4o(p0:Bool)(p1:Bool):Option Bool:=
 some (p1&&(!p0))
theorem y8u{r:Bool}(hm:y4o p0 p1=some r):
  F0 315 [.b p0,.b p1] [] (.b r) []:=by
 unfold y4o at hm;refine Fw.mk2 Tryz.func315 Tryz.ntmps315 R (fun C=>?_) R;refine .sr (.an R (.sr (.mv R (.mv R ?_))));refine .cut 3 (fun (a:Bool)=>(p1&&(!p0))=a) (fun a=>⟨[(9,.b a)],[],0⟩) ?_ ?_
 ·rintro _ rfl;refine .an R (.ret ?_);cases hm;exact .rr [] Tryz.results315 (.tmp R .nil) R I3 trivial
 ·intro c;rcases Bool.eq_false_or_eq_true p1 with hc|hc
  ·refine .know (d:=6) R hc ?_;exact .op (O.mv (Gu.mk R R) R R) R (.op (O.not (Gu.mk R R) R R) R (.op (O.pkT Z R R R R) R ((c (!p0) (andT hc).symm).sub [] R)))
  ·refine .know (d:=6) R hc ?_;exact .sk R (.sk R (.op (O.pkF Z R R R R) R ((c false (andF hc).symm).sub [] R)))
def y4p(p0:Bool):Option Bool:=
 some true
theorem y8v{r:Bool}(hm:y4p p0=some r):
  F0 316 [.b p0] [] (.b r) []:=by
 unfold y4p at hm;refine Fw.mk2 Tryz.func316 Tryz.ntmps316 R (fun C=>?_) R;refine .sr (.an R (.sr (.an R (.ret ?_))));cases hm;exact .rr [] Tryz.results316 (.tmp R .nil) R I3 trivial
def y4q(p0:Bool):Option Bool:=
 some p0
theorem y8w{r:Bool}(hm:y4q p0=some r):
  F0 317 [.b p0] [] (.b r) []:=by
 unfold y4q at hm;refine Fw.mk2 Tryz.func317 Tryz.ntmps317 R (fun C=>?_) R;refine .sr (.an R (.sr (.mv R (.an R (.ret ?_)))));cases hm;exact .rr [] Tryz.results317 (.tmp R .nil) R I3 trivial
def y4r(p0:Bool):Option Bool:=
 some (!p0)
theorem y8x{r:Bool}(hm:y4r p0=some r):
  F0 318 [.b p0] [] (.b r) []:=by
 unfold y4r at hm;refine Fw.mk2 Tryz.func318 Tryz.ntmps318 R (fun C=>?_) R;refine .sr (.an R (.sr (.mv R (.op (O.not Z R R) R (.an R (.ret ?_))))));cases hm;exact .rr [] Tryz.results318 (.tmp R .nil) R I3 trivial
def y1i :Option (List (Int×ByteArray×(Option (Bool→Bool→Option Bool))×(Option (Bool→Bool→Option Bool))×(Option (Bool→Option Bool)))):=
 some ([(1,(⟨#[76,68]⟩:ByteArray),(some y4J),none,none),(2,(⟨#[76,68,78]⟩:ByteArray),(some y4K),none,none),(3,(⟨#[65,78,68]⟩:ByteArray),(some y4L),none,none),(4,(⟨#[65,78,68,78]⟩:ByteArray),(some y4M),none,none),(5,(⟨#[79,82]⟩:ByteArray),(some y4N),none,none),(6,(⟨#[79,82,78]⟩:ByteArray),(some y4O),none,none),(7,(⟨#[83,84]⟩:ByteArray),none,(some y4P),none),(8,(⟨#[83,84,78]⟩:ByteArray),none,(some y4Q),none),(9,(⟨#[83]⟩:ByteArray),none,(some y4R),none),(10,(⟨#[82]⟩:ByteArray),none,(some y4o),none),(11,(⟨#[74,77,80]⟩:ByteArray),none,none,(some y4p)),(12,(⟨#[74,77,80,67]⟩:ByteArray),none,none,(some y4q)),(13,(⟨#[74,77,80,67,78]⟩:ByteArray),none,none,(some y4r))]:List (Int×ByteArray×(Option (Bool→Bool→Option Bool))×(Option (Bool→Bool→Option Bool))×(Option (Bool→Option Bool))))
theorem y7a{r:(List (Int×ByteArray×(Option (Bool→Bool→Option Bool))×(Option (Bool→Bool→Option Bool))×(Option (Bool→Option Bool))))}(hm:y1i=some r):
  F0 293 [] [] (.f rE372 r) []:=by
 unfold y1i at hm;refine Fw.mk2 Tryz.func293 Tryz.ntmps293 R (fun C=>?_) R;refine .sr (.an R (.sr (.op (O.bu (l:=[lI 1,lV (.string (⟨#[76,68]⟩:ByteArray)),lV (.func (.func 306) #[] #[]),lV .nilFunc,lV .nilFunc]) pl372 R Z R R R) R (.op (O.bu (l:=[lI 2,lV (.string (⟨#[76,68,78]⟩:ByteArray)),lV (.func (.func 307) #[] #[]),lV .nilFunc,lV .nilFunc]) pl372 R Z R R R) R (.op (O.bu (l:=[lI 3,lV (.string (⟨#[65,78,68]⟩:ByteArray)),lV (.func (.func 308) #[] #[]),lV .nilFunc,lV .nilFunc]) pl372 R Z R R R) R (.op (O.bu (l:=[lI 4,lV (.string (⟨#[65,78,68,78]⟩:ByteArray)),lV (.func (.func 309) #[] #[]),lV .nilFunc,lV .nilFunc]) pl372 R Z R R R) R (.op (O.bu (l:=[lI 5,lV (.string (⟨#[79,82]⟩:ByteArray)),lV (.func (.func 310) #[] #[]),lV .nilFunc,lV .nilFunc]) pl372 R Z R R R) R (.op (O.bu (l:=[lI 6,lV (.string (⟨#[79,82,78]⟩:ByteArray)),lV (.func (.func 311) #[] #[]),lV .nilFunc,lV .nilFunc]) pl372 R Z R R R) R (.op (O.bu (l:=[lI 7,lV (.string (⟨#[83,84]⟩:ByteArray)),lV .nilFunc,lV (.func (.func 312) #[] #[]),lV .nilFunc]) pl372 R Z R R R) R (.op (O.bu (l:=[lI 8,lV (.string (⟨#[83,84,78]⟩:ByteArray)),lV .nilFunc,lV (.func (.func 313) #[] #[]),lV .nilFunc]) pl372 R Z R R R) R (.op (O.bu (l:=[lI 9,lV (.string (⟨#[83]⟩:ByteArray)),lV .nilFunc,lV (.func (.func 314) #[] #[]),lV .nilFunc]) pl372 R Z R R R) R (.op (O.bu (l:=[lI 10,lV (.string (⟨#[82]⟩:ByteArray)),lV .nilFunc,lV (.func (.func 315) #[] #[]),lV .nilFunc]) pl372 R Z R R R) R (.op (O.bu (l:=[lI 11,lV (.string (⟨#[74,77,80]⟩:ByteArray)),lV .nilFunc,lV .nilFunc,lV (.func (.func 316) #[] #[])]) pl372 R Z R R R) R (.op (O.bu (l:=[lI 12,lV (.string (⟨#[74,77,80,67]⟩:ByteArray)),lV .nilFunc,lV .nilFunc,lV (.func (.func 317) #[] #[])]) pl372 R Z R R R) R (.op (O.bu (l:=[lI 13,lV (.string (⟨#[74,77,80,67,78]⟩:ByteArray)),lV .nilFunc,lV .nilFunc,lV (.func (.func 318) #[] #[])]) pl372 R Z R R R) R (.op (O.bsF (r:=rE372) (zs:=([(1,(⟨#[76,68]⟩:ByteArray),(some y4J),none,none),(2,(⟨#[76,68,78]⟩:ByteArray),(some y4K),none,none),(3,(⟨#[65,78,68]⟩:ByteArray),(some y4L),none,none),(4,(⟨#[65,78,68,78]⟩:ByteArray),(some y4M),none,none),(5,(⟨#[79,82]⟩:ByteArray),(some y4N),none,none),(6,(⟨#[79,82,78]⟩:ByteArray),(some y4O),none,none),(7,(⟨#[83,84]⟩:ByteArray),none,(some y4P),none),(8,(⟨#[83,84,78]⟩:ByteArray),none,(some y4Q),none),(9,(⟨#[83]⟩:ByteArray),none,(some y4R),none),(10,(⟨#[82]⟩:ByteArray),none,(some y4o),none),(11,(⟨#[74,77,80]⟩:ByteArray),none,none,(some y4p)),(12,(⟨#[74,77,80,67]⟩:ByteArray),none,none,(some y4q)),(13,(⟨#[74,77,80,67,78]⟩:ByteArray),none,none,(some y4r))]:List (Int×ByteArray×(Option (Bool→Bool→Option Bool))×(Option (Bool→Bool→Option Bool))×(Option (Bool→Option Bool))))) bs368 R R Z R R R (.c (.p .k (.p .s (.p (.c2 cf306 (fun _ _ r h=>y8I h) (fun _ _ _ _=>⟨_,_,⟨rfl,rfl⟩,⟨_,_,⟨rfl,rfl⟩,rfl,rfl⟩,rfl⟩) (fun _ _ _ _ h=>h.1)) (.p .z2 .z1)))) (.c (.p .k (.p .s (.p (.c2 cf307 (fun _ _ r h=>y8J h) (fun _ _ _ _=>⟨_,_,⟨rfl,rfl⟩,⟨_,_,⟨rfl,rfl⟩,rfl,rfl⟩,rfl⟩) (fun _ _ _ _ h=>h.1)) (.p .z2 .z1)))) (.c (.p .k (.p .s (.p (.c2 cf308 (fun _ _ r h=>y8K h) (fun _ _ _ _=>⟨_,_,⟨rfl,rfl⟩,⟨_,_,⟨rfl,rfl⟩,rfl,rfl⟩,rfl⟩) (fun _ _ _ _ h=>h.1)) (.p .z2 .z1)))) (.c (.p .k (.p .s (.p (.c2 cf309 (fun _ _ r h=>y8L h) (fun _ _ _ _=>⟨_,_,⟨rfl,rfl⟩,⟨_,_,⟨rfl,rfl⟩,rfl,rfl⟩,rfl⟩) (fun _ _ _ _ h=>h.1)) (.p .z2 .z1)))) (.c (.p .k (.p .s (.p (.c2 cf310 (fun _ _ r h=>y8M h) (fun _ _ _ _=>⟨_,_,⟨rfl,rfl⟩,⟨_,_,⟨rfl,rfl⟩,rfl,rfl⟩,rfl⟩) (fun _ _ _ _ h=>h.1)) (.p .z2 .z1)))) (.c (.p .k (.p .s (.p (.c2 cf311 (fun _ _ r h=>y8N h) (fun _ _ _ _=>⟨_,_,⟨rfl,rfl⟩,⟨_,_,⟨rfl,rfl⟩,rfl,rfl⟩,rfl⟩) (fun _ _ _ _ h=>h.1)) (.p .z2 .z1)))) (.c (.p .k (.p .s (.p .z2 (.p (.c2 cf312 (fun _ _ r h=>y8O h) (fun _ _ _ _=>⟨_,_,⟨rfl,rfl⟩,⟨_,_,⟨rfl,rfl⟩,rfl,rfl⟩,rfl⟩) (fun _ _ _ _ h=>h.1)) .z1)))) (.c (.p .k (.p .s (.p .z2 (.p (.c2 cf313 (fun _ _ r h=>y8P h) (fun _ _ _ _=>⟨_,_,⟨rfl,rfl⟩,⟨_,_,⟨rfl,rfl⟩,rfl,rfl⟩,rfl⟩) (fun _ _ _ _ h=>h.1)) .z1)))) (.c (.p .k (.p .s (.p .z2 (.p (.c2 cf314 (fun _ _ r h=>y8Q h) (fun _ _ _ _=>⟨_,_,⟨rfl,rfl⟩,⟨_,_,⟨rfl,rfl⟩,rfl,rfl⟩,rfl⟩) (fun _ _ _ _ h=>h.1)) .z1)))) (.c (.p .k (.p .s (.p .z2 (.p (.c2 cf315 (fun _ _ r h=>y8u h) (fun _ _ _ _=>⟨_,_,⟨rfl,rfl⟩,⟨_,_,⟨rfl,rfl⟩,rfl,rfl⟩,rfl⟩) (fun _ _ _ _ h=>h.1)) .z1)))) (.c (.p .k (.p .s (.p .z2 (.p .z2 (.c1 cf316 (fun _ r h=>y8v h) (fun _ _ _=>⟨_,_,⟨rfl,rfl⟩,rfl,rfl⟩) (fun _ _ _ _ h=>h.1)))))) (.c (.p .k (.p .s (.p .z2 (.p .z2 (.c1 cf317 (fun _ r h=>y8w h) (fun _ _ _=>⟨_,_,⟨rfl,rfl⟩,rfl,rfl⟩) (fun _ _ _ _ h=>h.1)))))) (.c (.p .k (.p .s (.p .z2 (.p .z2 (.c1 cf318 (fun _ r h=>y8x h) (fun _ _ _=>⟨_,_,⟨rfl,rfl⟩,rfl,rfl⟩) (fun _ _ _ _ h=>h.1)))))) .n))))))))))))) R R R) R (.an R (.ret ?_))))))))))))))))))
 cases hm;exact .rr [] Tryz.results293 (.tmp R .nil) R I3 trivial
def y4w(p0:Int×Int×Int×List Bool×(List (Int×Int))):Option Int:=
 some (W ((W (p0.1+p0.2.1))+p0.2.2.1))
theorem yaF{p0:Int×Int×Int×List Bool×(List (Int×Int))}{r:Int}(hm:y4w p0=some r):
  F0 294 [.a (lx191 p0)] [] (.i r) []:=by
 unfold y4w at hm;refine Fw.mk2 Tryz.func294 Tryz.ntmps294 R (fun C=>?_) R;refine .sr (.bo 0 R (.an R (.sr (.fa y9M R (.lb nag3 R (.fa y9N R (.lb nag3 R (.bi R (.fa yay R (.lb nag3 R (.bi R (.an R (.ret ?_)))))))))))));cases hm;exact .rr [] Tryz.results294 (.tmp R .nil) R I3 trivial
def yC(p0:Int×Int×Int×List Bool×(List (Int×Int)))(b:Int×Int)(c:Int×ByteArray×(Option (Bool→Bool→Option Bool))×(Option (Bool→Bool→Option Bool))×(Option (Bool→Option Bool)))(a:Bool):Option Int:=
 if a then
  some 2
 else
  if(c.2.2.2.1.isSome&&(decide (b.2<p0.1))) then
   some 19
  else
   some 0
def y2r(p0:Int×Int×Int×List Bool×(List (Int×Int)))(p1:Int):Option Int:=
 (idx p0.2.2.2.2 p1).bind fun a=>
 (y1i).bind fun d=>
 if((decide (a.1<1))||(decide (a.1>(d.length:Int)))) then
  some 11
 else
  (idx d (W (a.1-1))).bind fun b=>
  if b.2.2.2.2.isSome then
   if((decide (a.2≤p1))||(decide (a.2>(p0.2.2.2.2.length:Int)))) then
    some 2
   else
    some 0
  else
   if decide (a.2<0) then
    yC p0 a b true
   else
    (y4w p0).bind fun c=>
    yC p0 a b (decide (a.2≥c))
theorem y7Z{p0:Int×Int×Int×List Bool×(List (Int×Int))}{p1:Int}{r:Int}(hm:y2r p0 p1=some r):
    F0 270 [.a (lx191 p0),.i p1] [] (.i r) []:=by
  unfold y2r at hm;refine Fw.mk2 Tryz.func270 Tryz.ntmps270 R (fun C=>?_) R;refine .sr (.bo 0 R (.an R (.sr (.fa y9O R (.lb y6Y R (.mv R (bS hm fun c y hm=> .ix sl189 y R (.op (O.lg (l':=[lI c.1,lI c.2]) ag302 Z R (.E lv302) R R R) R (.al 1 zz302 R (.st ag302.sz R (.nr (bS hm fun s x hm=> .c0 (y7a x) cf293 R (.an R (.seq (.sr (.fa ybL R (.lb nag3 R (.bi R (.mv R ?_)))))))))))))))))));refine .cut 6 (fun (t:Bool)=>((decide (c.1<1))||(decide (c.1>(s.length:Int))))=t) (fun t=>⟨[(23,.b t),(6,.f rE372 s),(5,.q 1 0),(2,.q 0 0),(1,.i p1)],[(1,.bx 302 [lI c.1,lI c.2]),(0,.bx 191 (lx191 p0))],2⟩) ?_ ?_
  · rintro _ rfl;refine .ns ?_;refine .cc hm R (fun hm=>?_) fun hm=>?_
    ·refine .sr (.an R (.ret (.seqR ?_)));cases hm;exact .rr [] Tryz.results270 (.tmp R .nil) R I3 trivial
    ·refine .skip (.seqN (.sr (.mv R (.fa ybL R (.lb nag3 R (.bi R (bS hm fun g z hm=> .ix sl368 z R (.op (O.lg (l':=[lI g.1,lV (.string g.2.1),lF2 Tryz.prog (fun (e:Bool) (c:Bool)=> [.bool e,.bool c]) (fun (r:Bool)=> .bool r) g.2.2.1,lF2 Tryz.prog (fun (e:Bool) (c:Bool)=> [.bool e,.bool c]) (fun (r:Bool)=> .bool r) g.2.2.2.1,lF1 Tryz.prog (fun (e:Bool)=> [.bool e]) (fun (r:Bool)=> .bool r) g.2.2.2.2]) ag372 Z R (.E lv372) R R R) R (.al 2 zz372 R (.st ag372.sz R (.ns (.seq (.sr (.fa yf4 R (.lb ygb R (.op (O.fne1 Tryz.underlying370 Z R R R) R (.ns ?_)))))))))))))))));refine .cc hm R (fun hm=>?_) fun hm=>?_
     ·refine .seq (.sr (.fa y7f R (.lb nag3 R (.mv R (.bi R (.mv R ?_))))));refine .cut 7 (fun (u:Bool)=>((decide (c.2≤p1))||(decide (c.2>(p0.2.2.2.2.length:Int))))=u) (fun u=>⟨[(44,.b u)],[],3⟩) ?_ ?_
      · rintro _ rfl;refine .ns ?_;refine .cc hm R (fun hm=>?_) fun hm=>?_
        ·refine .sr (.an R (.ret (.seqR (.seqR ?_))));cases hm;exact .rr [] Tryz.results270 (.tmp R .nil) R I3 trivial
        ·refine .skip (.seqN (.sr (.an R (.ret (.seqR ?_)))));cases hm;exact .rr [] Tryz.results270 (.tmp R .nil) R I3 trivial
      · intro w;rcases Bool.eq_false_or_eq_true (decide (c.2≤p1)) with hc|hc
        · refine .know (d:=37) R hc ?_;exact .sk R (.sk R (.sk R (.sk R (.sk R (.sk R (.op (O.pkT Z R R R R) R ((w true (orT hc).symm).sub [] R)))))))
        · refine .know (d:=37) R hc ?_;exact .op (O.faP y7f (Gu.mk R R) R R) R (.op (O.ld nag3 (Gu.mk R R) R (.B R) R R) R (.op (O.faP y9O (Gu.mk R R) R R) R (.op (O.ld y6Y (Gu.mk R R) R (.B R) R R) R (.op (O.len sl189 (Gu.mk R R) R R) R (.op (O.bi (Gu.mk R R) R R R R) R (.op (O.pkF Z R R R R) R ((w (decide (c.2>(p0.2.2.2.2.length:Int))) (orF hc).symm).sub [] R)))))))
     ·refine .skip (.seqN (.seq ?_));refine .join1 (fun (m:Bool)=>yC p0 c g m=some r) (fun m=>⟨[(54,.b m),(7,.q 0 0),(5,.q 1 0),(2,.q 2 0)],[(0,.bx 372 [lI g.1,lV (.string g.2.1),lF2 Tryz.prog (fun (e:Bool) (c:Bool)=> [.bool e,.bool c]) (fun (r:Bool)=> .bool r) g.2.2.1,lF2 Tryz.prog (fun (e:Bool) (c:Bool)=> [.bool e,.bool c]) (fun (r:Bool)=> .bool r) g.2.2.2.1,lF1 Tryz.prog (fun (e:Bool)=> [.bool e]) (fun (r:Bool)=> .bool r) g.2.2.2.2]),(1,.bx 302 [lI c.1,lI c.2]),(2,.bx 191 (lx191 p0))],3⟩) ?_ ?_
      · intro m hm;unfold yC at hm;refine .cc hm R (fun hm=>?_) fun hm=>?_
        ·refine .sr (.an R (.ret (.seqR ?_)));cases hm;exact .rr [] Tryz.results270 (.tmp R .nil) R I3 trivial
        ·refine .skip (.seqN (.seq (.sr (.fa yd6 R (.lb ybA R (.op (O.fne2 Tryz.underlying135 Z R R R) R (.mv R ?_)))))));refine .cut 6 (fun (k:Bool)=>(g.2.2.2.1.isSome&&(decide (c.2<p0.1)))=k) (fun k=>⟨[(64,.b k)],[],3⟩) ?_ ?_
         · rintro _ rfl;refine .ns ?_;refine .cc hm R (fun hm=>?_) fun hm=>?_
           ·refine .sr (.an R (.ret (.seqR ?_)));cases hm;exact .rr [] Tryz.results270 (.tmp R .nil) R I3 trivial
           ·refine .skip (.seqN (.sr (.an R (.ret ?_))));cases hm;exact .rr [] Tryz.results270 (.tmp R .nil) R I3 trivial
         · intro n;rcases Bool.eq_false_or_eq_true g.2.2.2.1.isSome with hc|hc
           · refine .know (d:=58) R hc ?_;exact .op (O.faP y7f (Gu.mk R R) R R) R (.op (O.ld nag3 (Gu.mk R R) R (.B R) R R) R (.op (O.faP y9M (Gu.mk R R) R R) R (.op (O.ld nag3 (Gu.mk R R) R (.B R) R R) R (.op (O.bi (Gu.mk R R) R R R R) R (.op (O.pkT Z R R R R) R ((n (decide (c.2<p0.1)) (andT hc).symm).sub [] R))))))
           · refine .know (d:=58) R hc ?_;exact .sk R (.sk R (.sk R (.sk R (.sk R (.op (O.pkF Z R R R R) R ((n false (andF hc).symm).sub [] R))))))
      · intro o;refine .sub (τ:=⟨[(7,.q 2 0),(5,.q 1 0),(2,.q 0 0)],[(2,.bx 372 [lI g.1,lV (.string g.2.1),lF2 Tryz.prog (fun (e:Bool) (c:Bool)=> [.bool e,.bool c]) (fun (r:Bool)=> .bool r) g.2.2.1,lF2 Tryz.prog (fun (e:Bool) (c:Bool)=> [.bool e,.bool c]) (fun (r:Bool)=> .bool r) g.2.2.2.1,lF1 Tryz.prog (fun (e:Bool)=> [.bool e]) (fun (r:Bool)=> .bool r) g.2.2.2.2]),(1,.bx 302 [lI c.1,lI c.2]),(0,.bx 191 (lx191 p0))],3⟩) ?_ [] R;refine .drP 3 [(3,[]),(3,[oT]),(3,[oT,oT])] [_,_,_] ⟨O.faP y7f Z R R,O.ld nag3 Z R (.B R) R R,O.bi Z R R R R,trivial⟩ fun j=>?_;rcases ifS hm with ⟨h,hm⟩|⟨h,hm⟩
        · skip
          exact .drF j [(3,tT 3),(3,tT 4),(3,tT 5),(3,tT 4),(3,tA 4 (fA 2 (tT 1))),(3,tT 8),(3,tT 9)] [_,_,_,_,_,_,_] ⟨[(54,.b true),(7,.q 2 0),(5,.q 1 0),(2,.q 0 0)],[(2,.bx 372 [lI g.1,lV (.string g.2.1),lF2 Tryz.prog (fun (e:Bool) (c:Bool)=> [.bool e,.bool c]) (fun (r:Bool)=> .bool r) g.2.2.1,lF2 Tryz.prog (fun (e:Bool) (c:Bool)=> [.bool e,.bool c]) (fun (r:Bool)=> .bool r) g.2.2.2.1,lF1 Tryz.prog (fun (e:Bool)=> [.bool e]) (fun (r:Bool)=> .bool r) g.2.2.2.2]),(1,.bx 302 [lI c.1,lI c.2]),(0,.bx 191 (lx191 p0))],3⟩ ⟨O.kn (O.mv Z R R) h,O.skip R R R R,O.skip R R R R,O.skip R R R R,O.skip R R R R,O.skip R R R R,O.pkT Z R R R R,trivial⟩ (by kernel_rfl) R ((o _ hm).sub [(0,2),(2,0)] R)
        · skip
          exact bS hm fun D p hm=> .drF j [(3,tT 3),(3,tT 4),(3,tT 5),(3,tT 4),(3,tA 4 (fA 2 (tT 1))),(3,tT 8),(3,tT 9)] [_,_,_,_,_,_,_] ⟨[(54,.b (decide (c.2≥D))),(7,.q 2 0),(5,.q 1 0),(2,.q 0 0)],[(2,.bx 372 [lI g.1,lV (.string g.2.1),lF2 Tryz.prog (fun (e:Bool) (c:Bool)=> [.bool e,.bool c]) (fun (r:Bool)=> .bool r) g.2.2.1,lF2 Tryz.prog (fun (e:Bool) (c:Bool)=> [.bool e,.bool c]) (fun (r:Bool)=> .bool r) g.2.2.2.1,lF1 Tryz.prog (fun (e:Bool)=> [.bool e]) (fun (r:Bool)=> .bool r) g.2.2.2.2]),(1,.bx 302 [lI c.1,lI c.2]),(0,.bx 191 (lx191 p0))],3⟩ ⟨O.kn (O.mv Z R R) h,O.faP y7f (Gu.mk R R) R R,O.ld nag3 (Gu.mk R R) R (.B R) R R,O.lg (l':=(lx191 p0)) ag191 (Gu.mk R R) R (.B R) R R R,O.ca0 (yaF p) cf294 R R (Gu.mk R R) R R R,O.bi (Gu.mk R R) R R R R,O.pkF Z R R R R,trivial⟩ (by kernel_rfl) R ((o _ hm).sub [(0,2),(2,0)] R)
  · intro v;rcases Bool.eq_false_or_eq_true (decide (c.1<1)) with hc|hc
    · refine .know (d:=17) R hc ?_;exact .sk R (.sk R (.sk R (.sk R (.sk R (.op (O.pkT Z R R R R) R ((v true (orT hc).symm).sub [] R))))))
    · refine .know (d:=17) R hc ?_;exact .op (O.faP ybL (Gu.mk R R) R R) R (.op (O.ld nag3 (Gu.mk R R) R (.B R) R R) R (.op (O.mv (Gu.mk R R) R R) R (.op (O.len sl368 (Gu.mk R R) R R) R (.op (O.bi (Gu.mk R R) R R R R) R (.op (O.pkF Z R R R R) R ((v (decide (c.1>(s.length:Int))) (orF hc).symm).sub [] R))))))
def y3w(p0:Int×Int×Int×List Bool×(List (Int×Int)))(a:Int):Option (Int⊕(Unit⊕Int)):=
 if decide (a<(p0.2.2.2.2.length:Int)) then
  (y2r p0 a).bind fun b=>
  if(b != 0) then
   some (.inr (.inr (b)))
  else
   some (.inl (W (a+1)))
 else
  some (.inr (.inl ()))
def y4x(p0:Int×Int×Int×List Bool×(List (Int×Int))):Option Int:=
 (y4m p0).bind fun a=>
 if(a != 0) then
  some a
 else
  (iter (y3w p0) 0).bind fun b=>
  match b with
  | .inl d=>
   some 0
  | .inr (c)=>
   some c
theorem y8f{p0:Int×Int×Int×List Bool×(List (Int×Int))}{r:Int}(hm:y4x p0=some r):
    F0 243 [.a (lx191 p0)] [] (.i r) []:=by
  unfold y4x at hm;refine Fw.mk2 Tryz.func243 Tryz.ntmps243 R (fun C=>?_) R;refine .sr (.bo 0 R (.an R (.seq (.sr (.op (O.lg (l':=(lx191 p0)) ag191 Z R (.B R) R R R) R (bS hm fun p j hm=> .c0 (y9C j) cf269 R (.an R (.sr (.mv R (.bi R (.ns ?_)))))))))));refine .cc hm R (fun hm=>?_) fun hm=>?_
  ·refine .sr (.mv R (.an R (.ret (.seqR ?_))));cases hm;exact .rr [] Tryz.results243 (.tmp R .nil) R I3 trivial
  ·refine .skip (.seqN (.seq (.sr (.fa y9O R (.lb y6Y R (.ln sl189 R (.mv R (.ns (.block (bS hm fun m h hm=>?_))))))))));refine .cutU (z:= .exit 0) (fun f=> .inl f=m) (fun (f:Unit)=>⟨[],[],0⟩) ?_ fun K8=>?_
   · rintro f rfl;dsimp only at hm;refine .blkE (.seqN (.sr (.an R (.ret ?_))));cases hm;exact .rr [] Tryz.results243 (.tmp R .nil) R I3 trivial
   refine .cutU (z:= .ret) (fun b=> .inr (b)=m) (fun (b:Int)=>⟨[(2,.i b)],[],0⟩) ?_ fun g=>?_
   · rintro b rfl;dsimp only at hm;refine .blkR (.seqR ?_);cases hm;exact .rr [] Tryz.results243 (.tmp R .nil) R I3 trivial
   refine .iter (fun (d:Int)=>⟨[(14,.i d),(13,.i (p0.2.2.2.2.length:Int)),(1,.q 0 0)],[(0,.bx 191 (lx191 p0))],1⟩) h [] R ?_;intro d n hm k c;unfold y3w at hm;refine .sr (.bi R (.ns (.seq ?_)));refine .cc hm R (fun hm=>?_) fun hm=> .exit (.seqX (.seqX ((K8 _ (c _ (oi hm).symm)).sub [] R)));refine .skip (.seqN (.seq (.block (.sr (.mv R (.an R (.sr (.op (O.lg (l':=(lx191 p0)) ag191 Z R (.B R) R R R) R (.mv R (bS hm fun o e hm=> .c0 (y7Z e) cf270 R (.an R (.sr (.mv R (.bi R (.ns ?_)))))))))))))));exact .cc hm R (fun hm=> .sr (.mv R (.an R (.ret (.blkR (.seqR (.seqR ((g _ (c _ (oi hm).symm)).sub [] R)))))))) fun hm=> .skip (.blkN (.seqN (.reg (.bi R (.mv R (.nil ((k _ (oi hm).symm).sub [] R)))))))
def y4y(p0:Int×Int×Int×List Bool×(List (Int×Int))):Option ((List Bool×List Bool)×Int):=
 (y4x p0).bind fun a=>
 if(a != 0) then
  some ((([]:List Bool),([]:List Bool)),a)
 else
  (mkL p0.2.1 false).bind fun b=>
  (app ([]:List Bool) p0.2.2.2.1).bind fun c=>
  some ((b,c),0)
theorem yaG{p0:Int×Int×Int×List Bool×(List (Int×Int))}{r:(List Bool×List Bool)×Int}(hm:y4y p0=some r):
    F0 220 [.a (lx191 p0)] [] (.tp [.a [lH 0,lH 1],.i r.2]) [ROW rB 4 r.1.1,ROW rB 4 r.1.2]:=by
  unfold y4y at hm;refine Fw.mk2 Tryz.func220 Tryz.ntmps220 R (fun C=>?_) R;refine .sr (.bo 0 R (.al 1 zz197 R (.an R (.seq (.sr (.op (O.lg (l':=(lx191 p0)) ag191 Z R (.B R) R R R) R (bS hm fun g b hm=> .c0 (y8f b) cf243 R (.an R (.sr (.mv R (.bi R (.ns ?_))))))))))));refine .cc hm R (fun hm=>?_) fun hm=>?_
  ·refine .sr (.op (O.bu (l:=[lN,lN]) pl197 R Z R R R) R (.mv R (.st ag197.sz R (.an R (.ret (.seqR (.nlb rB 4 1 0 R R (.nlb rB 4 1 1 R R ?_))))))));cases hm;exact .rr [2,3] Tryz.results220 (.cell R R ag197 R (.tmp R .nil)) R I3 ⟨⟨_,R,I4⟩,⟨_,R,I4⟩,trivial⟩
  ·refine .skip (.seqN (.seq ?_));refine .sub (τ:=⟨[(2,.q 1 0),(1,.q 0 0)],[(1,.bx 197 [lN,lN]),(0,.bx 191 (lx191 p0))],2⟩) ?_ [] R;refine bS hm fun e c hm=>bS hm fun f d hm=>?_;refine .drz 5 [(3,3)] [(2,[],[],[]),(2,[oT],[],[]),(2,[oT,oT],[],[]),(2,[],[],[]),(2,[],[],[]),(2,[oF,oF,oF,oF,oT],[],[]),(4,[oF,oF,oF,oT,oT,oT],[],[]),(5,[oT,oT,oT,oT,oT,oT,oT],[],[(3,3)]),(5,[oT,oT,oT,oT,oT,oT,oT,oT],[],[(3,3)]),(5,[oT,oT,oT,oT,oT,oT,oT,oT,oT],[],[(3,3)])] [_,_,_,_,_,_,_,_,_,_] ⟨[(3,.i 0),(2,.q 1 0)],[(1,.bx 197 [lH 2,lH 4]),(2,ROW rB 4 e),(4,ROW rB 4 f)],5⟩ ⟨O.faP y9N Z R R,O.ld nag3 Z R (.B R) R R,O.mk (z:=false) 2 Tryz.underlying144 zr4 R R Z R R c R,O.b0O (r:=rB) 3 R bs144 R Z R,O.faP yf3 Z R R,O.ld y3i Z R (.B R) R R,O.ap 4 Tryz.underlying144 el4 R R Z R R (.fr R) d R,O.bu (l:=[lH 2,lH 4]) pl197 R Z R R R,O.st ag197.sz Z R R R R R,O.as Z R R,trivial⟩ (by kernel_rfl) R ?_;refine .seqN (.ret ?_);cases hm;exact .rr [2,4] Tryz.results220 (.cell R R ag197 R (.tmp R .nil)) R I3 ⟨⟨_,R,I4⟩,⟨_,R,I4⟩,trivial⟩
def y5U(p0:PbT):Option ((Option BenT)×Int):=
 (y5y p0).bind fun a=>
 if(a.2 != 0) then
  some (none,a.2)
 else
  (y4y a.1.1).bind fun b=>
  if(b.2 != 0) then
   some (none,b.2)
  else
   some ((some (p0,a.1,0,b.1)),0)
theorem yaY{p0:PbT}{r:(Option BenT)×Int}(hm:y5U p0=some r):
    F0 191 [.a (lx37 p0)] [] (.tp [.o (lH 0),.i r.2]) [OBX rE199 199 r.1]:=by
  unfold y5U at hm;refine Fw.mk2 Tryz.func191 Tryz.ntmps191 R (fun C=>?_) R;refine .sr (.bo 0 R (.sa R (.an R (.sr (.op (O.lg (l':=(lx37 p0)) ag37 Z R (.B R) R R R) R (bS hm fun b e hm=> .op (O.ca (r':= .tp [.a [lI b.1.1.1,lI b.1.1.2.1,lI b.1.1.2.2.1,lH 1,lH 2,lH 3,lH 4,lI b.1.2.2.2],.i b.2]) [1,2,3,4] [(0,ROW rB 4 b.1.1.2.2.2.1),(1,ROW rE302 302 b.1.1.2.2.2.2),(2,ROW qI 3 b.1.2.1),(3,ROW qI 3 b.1.2.2.1)] (some 5) (y8A e) cf131 R R Z R R R R ⟨⟨_,R,I4⟩,⟨_,R,I4⟩,⟨_,R,I4⟩,⟨_,R,I4⟩,trivial⟩ I3 R) R (.mv R (.ex R (.ex R (.al 5 zz193 R (.st ag193.sz R (.an R (.seq (.sr (.mv R (.bi R (.ns ?_)))))))))))))))));refine .cc hm R (fun hm=>?_) fun hm=>?_
  ·refine .sr (.mv R (.sa R (.an R (.ret (.seqR (.nlp rE199 199 2 R ?_))))));cases hm;exact .rr [6] Tryz.results191 (.tmp R (.tmp R .nil)) R I3 ⟨⟨_,R,I4⟩,trivial⟩
  ·refine .skip (.seqN (.sr (.fa ybM R (.op (O.lg (l':=[lI b.1.1.1,lI b.1.1.2.1,lI b.1.1.2.2.1,lH 1,lH 2]) ag191 Z R (.B R) R R R) R (bS hm fun d f hm=> .op (O.caY (r':= .tp [.a [lH 6,lH 7],.i d.2]) [6,7] [(0,ROW rB 4 d.1.1),(1,ROW rB 4 d.1.2)] (some 8) (yaG f) cf220 R R Z R R ⟨⟨R,.rf,.rf,.rf,.hr R,.hr R,trivial⟩,trivial⟩ R ⟨.row flr4,.row flr4,trivial⟩ (fun _ _ _ _ h=>h) ⟨⟨_,R,I4⟩,⟨_,R,I4⟩,trivial⟩ I3 R) R (.mv R (.ex R (.ex R (.al 8 zz197 R (.st ag197.sz R (.an R (.seq (.sr (.mv R (.bi R (.ns ?_))))))))))))))));refine .cc hm R (fun hm=>?_) fun hm=>?_
   ·refine .sr (.mv R (.sa R (.an R (.ret (.seqR (.nlp rE199 199 2 R ?_))))));cases hm;exact .rr [9] Tryz.results191 (.tmp R (.tmp R .nil)) R I3 ⟨⟨_,R,I4⟩,trivial⟩
   ·refine .skip (.seqN (.sr (.op (O.lg (l':=(lx37 p0)) ag37 Z R (.B R) R R R) R (.op (O.lg (l':=[lI b.1.1.1,lI b.1.1.2.1,lI b.1.1.2.2.1,lH 1,lH 2,lH 3,lH 4,lI b.1.2.2.2]) ag193 Z R (.B R) R R R) R (.op (O.lg (l':=[lH 6,lH 7]) ag197 Z R (.B R) R R R) R (.op (O.bu (l:=[lF qI p0.1.1,lI p0.1.2.1,lF qI p0.1.2.2.1,lF qT p0.1.2.2.2,lF qI p0.2.1.1,lI p0.2.1.2.1,lF qI p0.2.1.2.2.1,lF qT p0.2.1.2.2.2,lF qI p0.2.2,lI b.1.1.1,lI b.1.1.2.1,lI b.1.1.2.2.1,lH 1,lH 2,lH 3,lH 4,lI b.1.2.2.2,lI 0,lH 6,lH 7]) pl199 R Z R R R) R (.bo 9 R (.sa R (.an R (.ret (.fz 1 [] [5,9] R R fR R R (.fz 2 [] [5,9] R R fR R R (.fz 3 [] [5,9] R R fR R R (.fz 4 [] [5,9] R R fR R R (.fz 6 [] [8,9] R R fR R R (.fz 7 [] [8,9] R R fR R R (.obx (r:=rE199) 9 R (.p (.p (.p .l (.p .k (.p .l .l))) (.p (.p .l (.p .k (.p .l .l))) .l)) (.p (.p (.p .k (.p .k (.p .k (.p .l .l)))) (.p .l (.p .l .k))) (.p .k (.p .l .l)))) (.cnt 2 R (.c .ph .n) R ?_))))))))))))))))));cases hm;exact .rr [9] Tryz.results191 (.tmp R (.tmp R .nil)) R I3 ⟨⟨_,R,I4⟩,trivial⟩
def y1t(a:Bool):Option Bool:=
 some a
def y2l(a:Option BenT)(b:Int)(p0:Int×Int×Int):Option Bool:=
 a.bind fun c=>
 if(p0.1==c.2.2.1) then
  y1t (p0.2.1==b)
 else
  y1t false
theorem y8R{j:Option BenT}{f:Int}{p0:Int×Int×Int}{r:Bool}(hm:y2l j f p0=some r):
  F0 242 [.a [lI p0.1,lI p0.2.1,lI p0.2.2],.o (lQ 276 [lK rE199 199 j] 0),.o (lQ 3 [lI f] 0)] [] (.b r) []:=by
 unfold y2l at hm;refine Fw.mk2 Tryz.func242 Tryz.ntmps242 R (fun C=>?_) R;refine .sr (.bo 0 R (.an R ?_));refine .join1 (fun (e:Bool)=>y1t e=some r) (fun e=>⟨[(4,.b e)],[],0⟩) ?_ ?_
 ·intro e hm;unfold y1t at hm;refine .ret ?_;cases hm;exact .rr [] Tryz.results242 (.tmp R .nil) R I3 trivial
 ·intro g;refine bS hm fun k i hm=> .cnt 1 R (.c (.q (.c (.pd i lv199) .n)) .n) R ?_;refine .sub (τ:=⟨[(3,.q 0 0),(1,.o (lQ 276 [lQ 199 (lx199 k) 0] 0)),(2,.o (lQ 3 [lI f] 0))],[(0,.bx 124 [lI p0.1,lI p0.2.1,lI p0.2.2])],1⟩) ?_ [] R;refine .drP 7 [(1,[]),(1,[oT]),(1,[]),(1,[oF,oF,oT]),(1,[oF,oF,oT,oT]),(1,fA 2 (tT 3)),(1,tT 6)] [_,_,_,_,_,_,_] ⟨O.faP y3r Z R R,O.ld nag3 Z R (.B R) R R,O.ld y5m Z R .Q R R,O.nc .Q Z R R,O.faQ ybN Z R R,O.ld nag3 Z R .Q R R,O.bi Z R R R R,trivial⟩ fun h=>?_;rcases ifS hm with ⟨d,hm⟩|⟨d,hm⟩
  ·skip
   exact .drF h [(1,tT 7),(1,tT 8),(1,tT 9),(1,tT 8),(1,tT 11),(1,tT 12),(1,tT 13)] [_,_,_,_,_,_,_] ⟨[(4,.b (p0.2.1==f))],[],1⟩ ⟨O.kn (O.mv Z R R) d,O.faP y4X (Gu.mk R R) R R,O.ld nag3 (Gu.mk R R) R (.B R) R R,O.ld nag3 (Gu.mk R R) R .Q R R,O.bi (Gu.mk R R) R R R R,O.pkT Z R R R R,O.as Z R R,trivial⟩ (by kernel_rfl) R ((g _ hm).sub [] R)
  ·skip
   exact .drF h [(1,tT 7),(1,tT 8),(1,tT 9),(1,tT 8),(1,tT 11),(1,tT 12),(1,tT 13)] [_,_,_,_,_,_,_] ⟨[(4,.b false)],[],1⟩ ⟨O.kn (O.mv Z R R) d,O.skip R R R R,O.skip R R R R,O.skip R R R R,O.skip R R R R,O.pkF Z R R R R,O.as Z R R,trivial⟩ (by kernel_rfl) R ((g _ hm).sub [] R)
end
end Go.Proofs.YtecmobjeeonmaaaGreatDoor
