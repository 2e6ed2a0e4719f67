/- Parts of the proof, without what nothing here names. -/
import Derived.Test.YtfdeiphkmjdifaaGreatDoorProg
import Derived.Test.YtfdeiphkmjdifaaGreatDoorKa5
set_option maxRecDepth 100000
set_option maxHeartbeats 8000000
namespace Go.Proofs.YtfdeiphkmjdifaaGreatDoor
section
open Go.Proofs.Tryz Go Go.RowKit
noncomputable section
def y1k(a:Int×Int×LI)(c:Int)(b:LI):Option ((Int×Int×LI)⊕LI):=
 some (.inl (W (a.1+1),c,b))
def y1l(d:List Bool)(a:Int×Int×LI)(c:LI)(b:Int):Option (Int⊕LI):=
 if decide (b<a.1) then
  (rng a.1 8).bind fun _=>
  (rng b 8).bind fun _=>
  ((d:List Bool)[0+a.1.toNat*8+b.toNat*1]?).bind fun e=>
  if(!e) then
   (idx c b).bind fun f=>
   (idx c a.1).bind fun h=>
   (upd c a.1 f).bind fun g=>
   some (.inr g)
  else
   some (.inl (W (b+1)))
 else
  some (.inr c)
def y1m(p0:LI×Int×LI×LI×EdgL)(c:List Bool)(a:Int×Int×LI):Option ((Int×Int×LI)⊕LI):=
 if decide (a.1<p0.2.1) then
  (idx a.2.2 a.1).bind fun f=>
  (upd a.2.2 a.1 a.2.1).bind fun d=>
  (iter (y1l c a d) 0).bind fun b=>
  (idx b a.1).bind fun e=>
  if(e==a.2.1) then
   y1k a (W (a.2.1+1)) b
  else
   y1k a a.2.1 b
 else
  some (.inr a.2.2)
def y1n(a:Int×Bool×List Bool)(b:Bool)(c:List Bool):Option ((Int×Bool×List Bool)⊕(Bool×List Bool)):=
 some (.inl (W (a.1+1),b,c))
def y1o(p0:LI×Int×LI×LI×EdgL)(j:LI)(b:Int×Bool×List Bool)(a:Int×Bool×List Bool)(c:Int):Option (Int⊕(Bool×List Bool)):=
 if decide (c<(j.length:Int)) then
  (idx j c).bind fun d=>
  (y1R p0 a.1 d).bind fun g=>
  (y1R p0 b.1 d).bind fun h=>
  (yR h (y2w g a.2.2)).bind fun i=>
  if i then
   (rng b.1 8).bind fun _=>
   (rng a.1 8).bind fun _=>
   (updN a.2.2 (0+b.1.toNat*8+a.1.toNat*1) true).bind fun e=>
   (rng a.1 8).bind fun _=>
   (rng b.1 8).bind fun _=>
   (updN e (0+a.1.toNat*8+b.1.toNat*1) true).bind fun f=>
   some (.inr (true,f))
  else
   some (.inl (W (c+1)))
 else
  some (.inr a.2)
def y1p(p0:LI×Int×LI×LI×EdgL)(e:LI)(b:Int×Bool×List Bool)(a:Int×Bool×List Bool):Option ((Int×Bool×List Bool)⊕(Bool×List Bool)):=
 if decide (a.1<p0.2.1) then
  (rng b.1 8).bind fun _=>
  (rng a.1 8).bind fun _=>
  ((a.2.2:List Bool)[0+b.1.toNat*8+a.1.toNat*1]?).bind fun d=>
  if d then
   y1n a a.2.1 a.2.2
  else
   (iter (y1o p0 e b a) 0).bind fun c=>
   y1n a c.1 c.2
 else
  some (.inr a.2)
def y1q(p0:LI×Int×LI×LI×EdgL)(c:LI)(a:Int×Bool×List Bool):Option ((Int×Bool×List Bool)⊕(Bool×List Bool)):=
 if decide (a.1<p0.2.1) then
  (iter (y1p p0 c a) (0,a.2)).bind fun b=>
  some (.inl (W (a.1+1),b))
 else
  some (.inr a.2)
def y1r(p0:LI×Int×LI×LI×EdgL)(c:LI)(a:Bool×List Bool):Option ((Bool×List Bool)⊕(List Bool)):=
 if a.1 then
  (iter (y1q p0 c) (0,false,a.2)).bind fun b=>
  some (.inl b)
 else
  some (.inr a.2)
def y1s(p0:LI×Int×LI×LI×EdgL)(b:Int×List Bool)(a:Int×List Bool):Option ((Int×List Bool)⊕(List Bool)):=
 if decide (a.1<p0.2.1) then
  ((yb p0) b.1).bind fun d=>
  ((yb p0) a.1).bind fun e=>
  (rng b.1 8).bind fun _=>
  (rng a.1 8).bind fun _=>
  (updN a.2 (0+b.1.toNat*8+a.1.toNat*1) (d != e)).bind fun c=>
  some (.inl (W (a.1+1),c))
 else
  some (.inr a.2)
def y1t(p0:LI×Int×LI×LI×EdgL)(a:Int×List Bool):Option ((Int×List Bool)⊕(List Bool)):=
 if decide (a.1<p0.2.1) then
  (iter (y1s p0 a) (0,a.2)).bind fun b=>
  some (.inl (W (a.1+1),b))
 else
  some (.inr a.2)
def y1f(p0:LI×Int×LI×LI×EdgL):Option LI:=
 (app ([(-1)]:LI) p0.1).bind fun e=>
 (iter (y1t p0) (0,(List.replicate 64 false))).bind fun d=>
 (iter (y1r p0 e) (true,d)).bind fun a=>
 (mkL p0.2.1 (0:Int)).bind fun c=>
 (iter (y1m p0 a) (0,0,c)).bind fun b=>
 some b
theorem y4B{p0:LI×Int×LI×LI×EdgL}{r:LI}(hm:y1f p0=some r):
  F0 25 [.a (lx29 p0)] [] (.h 0) [rwI r]:=by
 refine Fw.mk2 func25 ntmps25 R (fun C=>?_) R;refine .sr (.bo 0 R (.an R (.sr (.op (O.alP (r:=rB) (z0:=false) (N:=64) (v:= .bool false) 1 R az144 rfl (fun _=>rfl) Z R) R (.nr (.op (O.bsO (r:=qI) (zs:=([(-1)]:LI)) 2 R bs26 R R Z R R R (.c .k .n) R R R) R (.fa y2k R (.lb nag26 R (bS hm fun p g4 hm=> .ap 3 underlying26 el3 R R (.fr R) g4 (.an R (.sr (.fz 0 [1] [] R R fB R R (.op (O.mf (args:=(fun (x:Int)=> [.i x])) (res:=(fun (r:Bool)=> .b r)) (m:=(yb p0)) cf84 (fun x r h=>y6m h) (fun _=>R) R Z R R) R (.an R (.seq (.sr (.fq yC R (.lq nag3 R (.mv R (.ns (.block (bS hm fun a2 e3 hm=>?_))))))))))))))))))))));refine .cut1 (z:= .exit 0) a2 (fun (a2:List Bool)=>⟨[(4,.h 0),(3,.q 1 0),(1,.o (lQ 29 (lx29 p0) 0))],[(0,rwI p),(1,ABX rB 144 a2)],2⟩) ?_ fun g3=>?_
 ·skip
  refine .blkE (.seqN (.seq (.sr (.an R (.block (bS hm fun s a9 hm=>?_))))));refine .cut1 (z:= .exit 4) s (fun (s:List Bool)=>⟨[(3,.q 0 0),(1,.o (lQ 29 (lx29 p0) 0))],[(0,ABX rB 144 s)],1⟩) ?_ fun d8=>?_
  ·skip
   refine .blkE (.seqN (.sr (.fq yC R (.lq nag3 R (bS hm fun h3 c1 hm=> .op (O.mk (z:=(0:Int)) 1 underlying26 zr3 R R Z R R c1 R) R (.an R (.sr (.an R (.seq (.sr (.fq yC R (.lq nag3 R (.mv R (.ns (.block (bS hm fun H b0 hm=>?_))))))))))))))));refine .cut1 (z:= .exit 12) H (fun (H:LI)=>⟨[(14,.h 0)],[(0,rwI H)],1⟩) ?_ fun d9=>?_
   ·skip
    refine .blkE (.seqN (.sv R (.an R (.ret ?_))));cases hm;exact .rr [0] results25 (.tmp R .nil) R I3 ⟨⟨_,R,I4⟩,trivial⟩
   refine .iter (fun (f:Int×Int×LI)=>⟨[(94,.i f.1),(93,.i p0.2.1),(15,.i f.2.1),(14,.h 0),(3,.q 1 0)],[(0,rwI f.2.2),(1,ABX rB 144 s)],2⟩) b0 [(0,1),(1,0)] R ?_;intro f a4 hm d2 c7;refine .sr (.bi R (.ns (.seq ?_)));refine .cc hm R (fun hm=>?_) fun hm=> .xx ((d9 _ (c7 _ (oj hm))).s0 R);refine .sn ?_;refine .join2 (fun (B:Int) (u:LI)=>y1k f B u=some a4) (fun B u=>⟨[(15,.i B),(94,.i f.1),(93,.i p0.2.1),(14,.h 0),(3,.q 1 0)],[(0,rwI u),(1,ABX rB 144 s)],2⟩) ?_ ?_
   ·intro B u hm;exact .reg (.bi R (.mv R (.nil ((d2 _ (oj hm)).s0 R))))
   ·intro K;refine .block (.sv R (.an R (.sv R (.mv R (.mv R (bS hm fun h4 M hm=> .op (O.ir sl26 Z R R R M R) R (bS hm fun f1 c2 hm=> .op (O.su (z:=f.2.1) nag3.sz Z R R M c2 R R R lv3 R .k) R (.ns (.seq (.sv R (.mv R (.ns (.block (bS hm fun I b1 hm=>?_))))))))))))));refine .cut1 (z:= .exit 14) I (fun (I:LI)=>⟨[(16,.i f.1),(94,.i f.1),(93,.i p0.2.1),(15,.i f.2.1),(14,.h 0),(3,.q 1 0)],[(0,rwI I),(1,ABX rB 144 s)],2⟩) ?_ fun a0=>?_
    ·skip
     refine .blkE (.seqN (.sv R (.mv R (bS hm fun h5 P hm=> .op (O.ir sl26 Z R R R P R) R (.op (O.ld nag3 Z R (.R R P lv3) R R) R (.mv R (.bi R (.ns ?_))))))));exact .cc hm R (fun hm=> .reg (.mv R (.bi R (.sa R (.nil (.blkN ((K _ _ hm).s0 R))))))) fun hm=> .skip (.blkN ((K _ _ hm).s0 R))
    refine .iter (fun (X:Int)=>⟨[(102,.i X),(101,.i f.1),(16,.i f.1),(94,.i f.1),(93,.i p0.2.1),(15,.i f.2.1),(14,.h 0),(3,.q 1 0)],[(0,rwI f1),(1,ABX rB 144 s)],2⟩) b1 [] R ?_;intro X g6 hm d3 V;refine .sr (.bi R (.ns (.seq ?_)));refine .cc hm R (fun hm=>?_) fun hm=> .xx ((a0 _ (V _ (oj hm))).s0 R);refine .sn (.seq (.block (.sv R (.an R (.sv R (.mv R (bS hm fun _ f3 hm=> .op (O.ia ia144 Z R R f3 R) R (bS hm fun _ f4 hm=> .op (O.ia ia143 Z R R f4 R) R (bS hm fun h6 c3 hm=> .op (O.ldX (r:=rB) rfl nag4 Z R R c3 lv4 R) R (.no R (.ns ?_)))))))))));exact .cc hm R (fun hm=> .sv R (.mv R (.mv R (.mv R (bS hm fun f2 S hm=> .op (O.ir sl26 Z R R R S R) R (.op (O.ld nag3 Z R (.R R S lv3) R R) R (bS hm fun h7 T hm=> .op (O.ir sl26 Z R R R T R) R (bS hm fun h8 c4 hm=> .op (O.su (z:=f2) nag3.sz Z R R T c4 R R R lv3 R .k) R (.ns (.exit (.blkX R (.seqX (.seqX ((a0 _ (V _ (oj hm))).s0 R)))))))))))))) fun hm=> .skip (.blkN (.seqN (.reg (.bi R (.mv R (.nil ((d3 _ (oj hm)).s0 R)))))))
  refine .iter (fun (G:Bool×List Bool)=>⟨[(8,.b G.1),(4,.h 0),(3,.q 1 0),(1,.o (lQ 29 (lx29 p0) 0))],[(0,rwI p),(1,ABX rB 144 G.2)],2⟩) a9 [] R ?_;intro G g5 hm d1 c6;refine .seq (.sv R (.ns ?_));refine .cc hm R (fun hm=>?_) fun hm=> .xx ((d8 _ (c6 _ (oj hm))).sub [(0,1)] R);refine .sn (.block (.sr (.an R (.sr (.fq yC R (.lq nag3 R (.mv R (.ns (.block (bS hm fun D b2 hm=>?_))))))))));refine .cut1 (z:= .exit 6) D (fun (D:Bool×List Bool)=>⟨[(8,.b D.1),(4,.h 0),(3,.q 1 0),(1,.o (lQ 29 (lx29 p0) 0))],[(0,rwI p),(1,ABX rB 144 D.2)],2⟩) ?_ fun e0=>?_
  ·skip
   exact .blkE (.blkN ((d1 _ (oj hm)).s0 R))
  refine .iter (fun (d:Int×Bool×List Bool)=>⟨[(49,.i d.1),(48,.i p0.2.1),(8,.b d.2.1),(4,.h 0),(3,.q 1 0),(1,.o (lQ 29 (lx29 p0) 0))],[(0,rwI p),(1,ABX rB 144 d.2.2)],2⟩) b2 [] R ?_;intro d g7 hm d4 c8;refine .sr (.bi R (.ns (.seq ?_)));refine .cc hm R (fun hm=>?_) fun hm=> .xx ((e0 _ (c8 _ (oj hm))).s0 R);refine .sn (.seq (.block (.sv R (.an R (.sr (.fq yC R (.lq nag3 R (.mv R (.ns (.block (bS hm fun E b3 hm=>?_)))))))))));refine .cut1 (z:= .exit 8) E (fun (E:Bool×List Bool)=>⟨[(49,.i d.1),(48,.i p0.2.1),(8,.b E.1),(4,.h 0),(3,.q 1 0),(1,.o (lQ 29 (lx29 p0) 0))],[(0,rwI p),(1,ABX rB 144 E.2)],2⟩) ?_ fun e1=>?_
  ·skip
   exact .blkE (.blkN (.seqN (.reg (.bi R (.mv R (.nil ((d4 _ (oj hm)).s0 R)))))))
  refine .iter (fun (e:Int×Bool×List Bool)=>⟨[(54,.i e.1),(53,.i p0.2.1),(9,.i d.1),(49,.i d.1),(48,.i p0.2.1),(8,.b e.2.1),(4,.h 0),(3,.q 1 0),(1,.o (lQ 29 (lx29 p0) 0))],[(0,rwI p),(1,ABX rB 144 e.2.2)],2⟩) b3 [] R ?_;intro e a5 hm d5 c9;refine .sr (.bi R (.ns (.seq ?_)));refine .cc hm R (fun hm=>?_) fun hm=> .xx ((e1 _ (c9 _ (oj hm))).s0 R);refine .sn ?_;refine .join2 (fun (t:Bool) (w:List Bool)=>y1n e t w=some a5) (fun t w=>⟨[(54,.i e.1),(53,.i p0.2.1),(9,.i d.1),(49,.i d.1),(48,.i p0.2.1),(8,.b t),(4,.h 0),(3,.q 1 0),(1,.o (lQ 29 (lx29 p0) 0))],[(0,rwI p),(1,ABX rB 144 w)],2⟩) ?_ ?_
  ·intro t w hm;exact .reg (.bi R (.mv R (.nil ((d5 _ (oj hm)).s0 R))))
  ·intro L;refine .block (.sv R (.an R (.seq (.sv R (.mv R (bS hm fun _ f5 hm=> .op (O.ia ia144 Z R R f5 R) R (bS hm fun _ f6 hm=> .op (O.ia ia143 Z R R f6 R) R (bS hm fun h9 c5 hm=> .op (O.ldX (r:=rB) rfl nag4 Z R R c5 lv4 R) R (.ns ?_)))))))));refine .cc hm R (fun hm=> .exit (.seqX (.blkE ((L _ _ hm).s0 R)))) fun hm=>?_;refine .sn (.sv R (.lh sl26 R (.mv R (.ns (.block (bS hm fun F b4 hm=>?_))))));refine .cut1 (z:= .exit 10) F (fun (F:Bool×List Bool)=>⟨[(8,.b F.1),(54,.i e.1),(53,.i p0.2.1),(9,.i d.1),(49,.i d.1),(48,.i p0.2.1),(4,.h 0),(3,.q 1 0),(1,.o (lQ 29 (lx29 p0) 0))],[(0,rwI p),(1,ABX rB 144 F.2)],2⟩) ?_ fun a1=>?_
   ·skip
    exact .blkE (.blkN ((L _ _ hm).s0 R))
   refine .iter (fun (Y:Int)=>⟨[(64,.i Y),(63,.i p.length),(62,.h 0),(10,.i e.1),(54,.i e.1),(53,.i p0.2.1),(9,.i d.1),(49,.i d.1),(48,.i p0.2.1),(8,.b e.2.1),(4,.h 0),(3,.q 1 0),(1,.o (lQ 29 (lx29 p0) 0))],[(0,rwI p),(1,ABX rB 144 e.2.2)],2⟩) b4 [] R ?_;intro Y g8 hm d6 W;refine .sr (.bi R (.ns (.seq ?_)));refine .cc hm R (fun hm=>?_) fun hm=> .xx ((a1 _ (W _ (oj hm))).s0 R);refine .sn (.seq (.block (.sr (bS hm fun i0 U hm=> .op (O.ir sl26 Z R R R U R) R (.op (O.ld nag3 Z R (.R R U lv3) R R) R (.an R (.sr (.lg (lx29 p0) ag29 R .Q R (.mv R (.mv R (bS hm fun a3 b6 hm=> .cm (r':= .h 2) [2] [(0,rwI a3)] (some 3) (y3P b6) cf85 R ⟨⟨_,R,I4⟩,trivial⟩ R (.al 3 zz26 R (.st nag26.sz R (.nr (.lg (lx29 p0) ag29 R .Q R (.mv R (.mv R (bS hm fun e8 b7 hm=> .cm (r':= .h 4) [4] [(0,rwI e8)] (some 5) (y3P b7) cf85 R ⟨⟨_,R,I4⟩,trivial⟩ R (.op (O.mz (l:=[lP 3 0,lP 1 0]) Z R R) R (bS hm fun h2 b8 hm=> .op (O.caZ (y3c b8) cf39 R R Z R ⟨⟨R,.hr R,trivial⟩,⟨R,(.z (l':=[lQ 26 [lF qI a3] 0,lX rB 144 e.2.2 0]) cf87 (fun x r h=>y6n h) (fun _=>R) R ⟨(.q R ⟨.hr R,trivial⟩),(.px R),trivial⟩),trivial⟩,trivial⟩ (fun _ _ _ _ _ h=>h) R) R (.ns ?_)))))))))))))))))))));refine .cc hm R (fun hm=>?_) fun hm=> .skip (.blkN (.seqN (.reg (.bi R (.mv R (.nil ((d6 _ (oj hm)).s0 R)))))));refine .seq ?_;refine .sub (τ:=⟨[(10,.i e.1),(54,.i e.1),(53,.i p0.2.1),(9,.i d.1),(49,.i d.1),(48,.i p0.2.1),(4,.h 0),(3,.q 1 0),(1,.o (lQ 29 (lx29 p0) 0))],[(0,rwI p),(1,ABX rB 144 e.2.2)],5⟩) ?_ [] R;refine bS hm fun _ f7 hm=>bS hm fun _ f8 hm=>bS hm fun h1 a6 hm=>bS hm fun _ f9 hm=>bS hm fun _ g0 hm=>bS hm fun e6 a7 hm=>?_;refine .drz 5 [(6,1)] [(5,[],[],[]),(5,[],[],[]),(5,[],[1],[]),(5,[],[1],[]),(5,[oT],[],[]),(5,tA 2 (fA 2 (tT 1)),[],[]),(5,tA 2 (fA 2 (tT 2)),[],[]),(5,[oF,oF,oT],[1],[]),(5,tT 8,[],[]),(5,tT 9,[],[]),(5,tT 10,[],[(6,1)])] [_,_,_,_,_,_,_,_,_,_,_] ⟨[(8,.b true),(54,.i e.1),(53,.i p0.2.1),(9,.i d.1),(49,.i d.1),(48,.i p0.2.1),(4,.h 0),(3,.q 1 0),(1,.o (lQ 29 (lx29 p0) 0))],[(0,rwI p),(1,ABX rB 144 e6)],5⟩ ⟨zM R,zM R,zM R,zM R,O.ia ia144 Z R R f7 R,O.ia ia143 Z R R f8 R,O.stX (z:=true) rfl nag4.sz Z R R a6 R .b,O.ia ia144 Z R R f9 R,O.ia ia143 Z R R g0 R,O.stX (z:=true) rfl nag4.sz Z R R a7 R .b,O.as Z R R,trivial⟩ (by kernel_rfl) R ?_;exact .seqN (.exit (.blkX R (.seqX (.seqX ((a1 _ (W _ (oj hm))).s0 R)))))
 refine .iter (fun (g:Int×List Bool)=>⟨[(25,.i g.1),(24,.i p0.2.1),(5,.o (lW prog (fun (x:Int)=> [.i x]) (fun (r:Bool)=> .b r) (yb p0))),(4,.h 0),(3,.q 1 0),(1,.o (lQ 29 (lx29 p0) 0))],[(0,rwI p),(1,ABX rB 144 g.2)],2⟩) e3 [(0,3)] R ?_;intro g h0 hm e5 e4;refine .sr (.bi R (.ns (.seq ?_)));refine .cc hm R (fun hm=>?_) fun hm=> .xx ((g3 _ (e4 _ (oj hm))).s0 R);refine .sn (.seq (.block (.sv R (.an R (.sr (.fq yC R (.lq nag3 R (.mv R (.ns (.block (bS hm fun J b5 hm=>?_)))))))))));refine .cut1 (z:= .exit 2) J (fun (J:List Bool)=>⟨[(25,.i g.1),(24,.i p0.2.1),(5,.o (lW prog (fun (x:Int)=> [.i x]) (fun (r:Bool)=> .b r) (yb p0))),(4,.h 0),(3,.q 1 0),(1,.o (lQ 29 (lx29 p0) 0))],[(0,rwI p),(1,ABX rB 144 J)],2⟩) ?_ fun e2=>?_
 ·skip
  exact .blkE (.blkN (.seqN (.reg (.bi R (.mv R (.nil ((e5 _ (oj hm)).s0 R)))))))
 refine .iter (fun (j:Int×List Bool)=>⟨[(30,.i j.1),(29,.i p0.2.1),(6,.i g.1),(25,.i g.1),(24,.i p0.2.1),(5,.o (lW prog (fun (x:Int)=> [.i x]) (fun (r:Bool)=> .b r) (yb p0))),(4,.h 0),(3,.q 1 0),(1,.o (lQ 29 (lx29 p0) 0))],[(0,rwI p),(1,ABX rB 144 j.2)],2⟩) b5 [] R ?_;intro j g9 hm d7 d0;refine .sr (.bi R (.ns (.seq ?_)));refine .cc hm R (fun hm=>?_) fun hm=> .xx ((e2 _ (d0 _ (oj hm))).s0 R);refine .sn (.seq (.block (.sv R (.an R ?_))));refine .sub (τ:=⟨[(7,.i j.1),(30,.i j.1),(29,.i p0.2.1),(6,.i g.1),(25,.i g.1),(24,.i p0.2.1),(5,.o (lW prog (fun (x:Int)=> [.i x]) (fun (r:Bool)=> .b r) (yb p0))),(4,.h 0),(3,.q 1 0),(1,.o (lQ 29 (lx29 p0) 0))],[(0,rwI p),(1,ABX rB 144 j.2)],2⟩) ?_ [] R;refine bS hm fun e9 b9 hm=>bS hm fun f0 c0 hm=>bS hm fun _ g1 hm=>bS hm fun _ g2 hm=>bS hm fun e7 a8 hm=>?_;refine .drg 2 [(2,[]),(2,[]),(2,[]),(2,[]),(2,[oF,oF,oT,oT]),(2,[]),(2,[]),(2,fA 2 (tT 5)),(2,fA 2 (tT 6)),(2,[oT]),(2,tT 10),(2,tT 11)] [_,_,_,_,_,_,_,_,_,_,_,_] ⟨[(30,.i j.1),(29,.i p0.2.1),(6,.i g.1),(25,.i g.1),(24,.i p0.2.1),(5,.o (lW prog (fun (x:Int)=> [.i x]) (fun (r:Bool)=> .b r) (yb p0))),(4,.h 0),(3,.q 1 0),(1,.o (lQ 29 (lx29 p0) 0))],[(0,rwI p),(1,ABX rB 144 e7)],2⟩ ⟨zM R,zM R,zM R,zM R,O.fv (args:=(fun (x:Int)=> [.i x])) (res:=(fun (r:Bool)=> .b r)) (m:=(yb p0)) (y:=g.1) R R R Z R b9 R R,zM R,zM R,O.fv (args:=(fun (x:Int)=> [.i x])) (res:=(fun (r:Bool)=> .b r)) (m:=(yb p0)) (y:=j.1) R R R Z R c0 R R,O.bne underlying4 Z R R R,O.ia ia144 Z R R g1 R,O.ia ia143 Z R R g2 R,O.stX (z:=(e9 != f0)) rfl nag4.sz Z R R a8 R .b,trivial⟩ (by kernel_rfl) R ?_;exact .blkN (.seqN (.reg (.bi R (.mv R (.nil ((d7 _ (oj hm)).s0 R))))))
def y1S(p0:LI)(e:LI)(a:Int×LI):Option ((Int×LI)⊕LI):=
 if decide (a.1<(p0.length:Int)) then
  (idx p0 a.1).bind fun b=>
  (idx e b).bind fun c=>
  (app a.2 ([c]:LI)).bind fun d=>
  some (.inl (W (a.1+1),d))
 else
  some (.inr a.2)
def yl(c:LI)(p0:LI):Option LI:=
 (iter (y1S p0 c) (0,([]:LI))).bind fun b=>
 (y2t b ([]:LI)).bind fun a=>
 some a
theorem y5O{l:LI}{p0:LI}{r:LI}(hm:yl l p0=some r):
  F0 90 [.f qI p0,.o (lQ 26 [lF qI l] 0)] [] (.f qI r) []:=by
 refine Fw.mk2 func90 ntmps90 R (fun C=>?_) R;refine .sr (.an R (.sr (.an R (.seq (.sv R (.ln sl26 R (.mv R (.ns (.block (bS hm fun j p hm=>?_))))))))));refine .cut1 (z:= .exit 0) j (fun (j:LI)=>⟨[(4,.h 0)],[(0,rwI j)],1⟩) ?_ fun m=>?_
 ·skip
  refine .blkE (.seqN (.sv R (.fz 0 [21] [] R R fR R R (bS hm fun v b hm=> .op (O.ca0c (y4V b) cf78 R R Z R ⟨⟨R,.rf⟩,⟨R,(.c (.nf (r:=qI)) .n)⟩,trivial⟩ R R) R (.an R (.ret ?_))))));cases hm;exact .r0 results90 (.tmp R .nil) R R
 refine .nlg qI 3 4 0 R R (.iter (fun (a:Int×LI)=>⟨[(9,.i a.1),(8,.i p0.length),(7,.f qI p0),(4,.h 0),(1,.o (lQ 26 [lF qI l] 0))],[(0,rwI a.2)],1⟩) p [] R ?_);intro a u hm s q;refine .sr (.bi R (.ns (.seq ?_)));exact .cc hm R (fun hm=> .sn (.seq (.block (.sr (bS hm fun w d hm=> .ix sl26 d R (.le nag3 lv3 R (.an R (.reg (.mv R (.lq nag26 R (.mv R (bS hm fun t e hm=> .ix sl26 e R (.le nag3 lv3 R (.bf (r:=qI) ([t]:LI) bs26 R (.c .k .n) R (bS hm fun x g hm=> .ap 1 underlying26 el3 R R (.fr R) g (.sa R (.nil (.blkN (.seqN (.reg (.bi R (.mv R (.nil ((s _ (oj hm)).sub [(0,1)] R)))))))))))))))))))))))) fun hm=> .xx ((m _ (q _ (oj hm))).s0 R)
def y1u(p0:Int×Int×Int)(p1:Int×Int×Int):Option Int:=
 (y2B ([p0.1,p0.2.1,p0.2.2]:LI) ([p1.1,p1.2.1,p1.2.2]:LI)).bind fun a=>
 some a
theorem y5P{p0:Int×Int×Int}{p1:Int×Int×Int}{r:Int}(hm:y1u p0 p1=some r):
  F0 91 [.a [lI p0.1,lI p0.2.1,lI p0.2.2],.a [lI p1.1,lI p1.2.1,lI p1.2.2]] [] (.i r) []:=by
 refine Fw.mk2 func91 ntmps91 R (fun C=>?_) R;refine .sr (.bo 0 R (.bo 1 R (.an R (.sr (.fa yw R (.lb nag3 R (.fa yM R (.lb nag3 R (.fa yN R (.lb nag3 R (.bf (r:=qI) ([p0.1,p0.2.1,p0.2.2]:LI) bs26 R (.c .k (.c .k (.c .k .n))) R (.fa yw R (.lb nag3 R (.fa yM R (.lb nag3 R (.fa yN R (.lb nag3 R (.bf (r:=qI) ([p1.1,p1.2.1,p1.2.2]:LI) bs26 R (.c .k (.c .k (.c .k .n))) R (bS hm fun d b hm=> .c0 (y5b b) cf36 R (.an R (.ret ?_)))))))))))))))))))));cases hm;exact .r0 results91 (.tmp R .nil) R R
def y1c(a:Int×EdgL)(b:List (Int×Int×Int)):Option ((Int×EdgL)⊕EdgL):=
 some (.inl (W (a.1+1),b))
def y1d(p0:LI×Int×LI×LI×EdgL)(e:LI)(a:Int×EdgL):Option ((Int×EdgL)⊕EdgL):=
 if decide (a.1<(p0.2.2.2.2.length:Int)) then
  (idx p0.2.2.2.2 a.1).bind fun b=>
  (idx e b.1).bind fun c=>
  (idx e b.2.2).bind fun d=>
  if((b.2.1 != (-1))||(c != d)) then
   (app a.2 ([(c,b.2.1,d)]:List (Int×Int×Int))).bind fun f=>
   y1c a f
  else
   y1c a a.2
 else
  some (.inr a.2)
def y1e(c:LI)(a:Int×Int):Option ((Int×Int)⊕Int):=
 if decide (a.1<(c.length:Int)) then
  (idx c a.1).bind fun b=>
  some (.inl (W (a.1+1),(if a.2<W (b+1) then W (b+1) else a.2)))
 else
  some (.inr a.2)
def y2E(p0:LI×Int×LI×LI×EdgL):Option (LI×Int×LI×LI×EdgL):=
 (y1f p0).bind fun a=>
 ((yl a) p0.2.2.1).bind fun f=>
 ((yl a) p0.2.2.2.1).bind fun g=>
 (iter (y1e a) (0,0)).bind fun e=>
 (iter (y1d p0 a) (0,([]:List (Int×Int×Int)))).bind fun b=>
 (y1b y1u b).bind fun c=>
 (y2s c).bind fun d=>
 some (p0.1,e,f,g,d)
theorem y6v{p0:LI×Int×LI×LI×EdgL}{r:(LI×Int×LI×LI×EdgL)}(hm:y2E p0=some r):
  F0 27 [.a (lx29 p0)] [] (.g (lx29 r)) []:=by
 refine Fw.mk2 func27 ntmps27 R (fun C=>?_) R;refine .sr (.bo 0 R (.al 1 zz29 R (.nr (.lg (lx29 p0) ag29 R (.B R) R (bS hm fun s a5 hm=> .cm (r':= .h 2) [2] [(0,rwI s)] (some 3) (y4B a5) cf25 R ⟨⟨_,R,I4⟩,trivial⟩ R (.al 3 zz26 R (.st nag26.sz R (.nr (.fz 2 [] [3] R R fR R R (.fz 3 [3] [] R R fB R R (.op (O.mf (args:=(fun (x:LI)=> [.f qI x])) (res:=(fun (r:LI)=> .f qI r)) (m:=(yl s)) cf90 (fun x r h=>y5O h) (fun _=>R) R Z R R) R (.an R (.seq ?_)))))))))))));refine .sub (τ:=⟨[(4,.o (lW prog (fun (x:LI)=> [.f qI x]) (fun (r:LI)=> .f qI r) (yl s))),(3,.o (lQ 26 [lF qI s] 0)),(2,.q 1 0),(1,.q 0 0)],[(1,.bx 29 [lN,lI 0,lN,lN,lN]),(0,.bx 29 (lx29 p0))],4⟩) ?_ [] R;refine bS hm fun t a6 hm=>bS hm fun v a7 hm=>?_;refine .drz 5 [(11,4)] [(4,[],[],[]),(4,[oT],[],[]),(4,[],[],[]),(4,[],[],[]),(4,[oF,oF,oF,oT],[],[]),(4,fA 2 (tT 3),[],[]),(4,[],[],[]),(4,[],[],[]),(4,[oF,oF,oF,oF,oF,oF,oF,oT],[],[]),(4,fA 2 (tT 7),[],[]),(4,tT 10,[],[]),(4,[],[],[]),(5,tT 12,[],[])] [_,_,_,_,_,_,_,_,_,_,_,_,_] ⟨[(5,.q 4 0),(3,.o (lQ 26 [lF qI s] 0)),(2,.q 1 0),(1,.q 0 0)],[(4,.bx 29 [lF qI p0.1,lI 0,lF qI t,lF qI v,lN]),(1,.bx 29 [lN,lI 0,lN,lN,lN]),(0,.bx 29 (lx29 p0))],5⟩ ⟨O.faP y2k Z R R,zB nag26 R,zM R,O.faP y3R Z R R,zB nag26 R,O.fv (args:=(fun (x:LI)=> [.f qI x])) (res:=(fun (r:LI)=> .f qI r)) (m:=(yl s)) (y:=p0.2.2.1) R R R Z R a6 R R,zM R,O.faP y3v Z R R,zB nag26 R,O.fv (args:=(fun (x:LI)=> [.f qI x])) (res:=(fun (r:LI)=> .f qI r)) (m:=(yl s)) (y:=p0.2.2.2.1) R R R Z R a7 R R,O.bu (l:=[lF qI p0.1,lI 0,lF qI t,lF qI v,lN]) pl29 R Z R R R,O.al 4 R zz29 R Z R,O.st ag29.sz Z R R R R R,trivial⟩ (by kernel_rfl) R ?_;refine .seqN (.seq (.sr (.lq nag26 R (.ln sl26 R (.mv R (.ns (.block (bS hm fun F a4 hm=>?_))))))));refine .cut1 (z:= .exit 0) F (fun (F:Int)=>⟨[(5,.q 0 0),(3,.o (lQ 26 [lF qI s] 0)),(2,.q 1 0),(1,.q 2 0)],[(0,.bx 29 [lF qI p0.1,lI F,lF qI t,lF qI v,lN]),(1,.bx 29 [lN,lI 0,lN,lN,lN]),(2,.bx 29 (lx29 p0))],3⟩) ?_ fun a2=>?_
 ·skip
  refine .blkE (.seqN (.seq (.sr (.fa yx R (.lb nag27 R (.ln sl27 R (.mv R (.ns (.block (bS hm fun I P hm=>?_))))))))));refine .cut1 (z:= .exit 2) I (fun (I:EdgL)=>⟨[(5,.q 0 0),(2,.q 2 0)],[(0,.bx 29 [lF qI p0.1,lI F,lF qI t,lF qI v,lH 1]),(1,ROW qT 112 I),(2,.bx 29 [lN,lI 0,lN,lN,lN])],3⟩) ?_ fun a3=>?_
  ·skip
   refine .blkE (.seqN (.sr (.fa yx R (.lb nag27 R (bS hm fun b0 S hm=> .cm (r':= .tp []) [1] [(0,ROW qT 112 b0)] none (y3x cf91 (fun _ _ _=>y5P) S) cf62 R ⟨⟨_,R,I4⟩,trivial⟩ R (.nr (.fa yx R (.lb nag27 R (bS hm fun N T hm=> .cm (r':= .f qT N) [1] [(0,.u)] none (y4U T) cf92 R ⟨⟨_,R,fun _ _ _ _ _=>trivial⟩,trivial⟩ R (.fa yx R (.st nag27.sz R (.nr (.lg [lF qI p0.1,lI F,lF qI t,lF qI v,lF qT N] ag29 R (.B R) R (.st ag29.sz R (.ns (.ret ?_))))))))))))))));cases hm;exact .r0 results27 (.cell R R ag29 R .nil) R R
  refine .nlb qT 112 0 4 R R (.iter (fun (e:Int×EdgL)=>⟨[(41,.i e.1),(40,.i p0.2.2.2.2.length),(39,.f qT p0.2.2.2.2),(5,.q 0 0),(3,.o (lQ 26 [lF qI s] 0)),(2,.q 2 0)],[(0,.bx 29 [lF qI p0.1,lI F,lF qI t,lF qI v,lH 1]),(1,ROW qT 112 e.2),(2,.bx 29 [lN,lI 0,lN,lN,lN])],3⟩) P [(1,3),(2,1)] R ?_);intro e L hm a1 a0;refine .sr (.bi R (.ns (.seq ?_)));refine .cc hm R (fun hm=>?_) fun hm=> .xx ((a3 _ (a0 _ (oj hm))).s0 R);refine .sn ?_;refine .join1 (fun (G:List (Int×Int×Int))=>y1c e G=some L) (fun G=>⟨[(41,.i e.1),(40,.i p0.2.2.2.2.length),(39,.f qT p0.2.2.2.2),(5,.q 0 0),(3,.o (lQ 26 [lF qI s] 0)),(2,.q 2 0)],[(0,.bx 29 [lF qI p0.1,lI F,lF qI t,lF qI v,lH 1]),(1,ROW qT 112 G),(2,.bx 29 [lN,lI 0,lN,lN,lN])],3⟩) ?_ ?_
  ·intro G hm;exact .reg (.bi R (.mv R (.nil ((a1 _ (oj hm)).s0 R))))
  ·intro H;refine .block (.sr (bS hm fun j U hm=> .ix sl27 U R (.lg [lI j.1,lI j.2.1,lI j.2.2] ag112 R (.E lv112) R (.al 3 zz112 R (.st ag112.sz R (.ns (.seq ?_)))))));refine .sub (τ:=⟨[(9,.q 3 0),(41,.i e.1),(40,.i p0.2.2.2.2.length),(39,.f qT p0.2.2.2.2),(5,.q 0 0),(3,.o (lQ 26 [lF qI s] 0)),(2,.q 2 0)],[(3,.bx 112 [lI j.1,lI j.2.1,lI j.2.2]),(0,.bx 29 [lF qI p0.1,lI F,lF qI t,lF qI v,lH 1]),(1,ROW qT 112 e.2),(2,.bx 29 [lN,lI 0,lN,lN,lN])],4⟩) ?_ [] R;refine bS hm fun w V hm=>bS hm fun D W hm=>?_;refine .drz 5 [(13,4)] [(4,[],[],[]),(4,[],[],[]),(4,[oF,oT],[],[]),(4,tT 3,[],[]),(4,tT 4,[],[]),(4,[],[],[]),(4,[oF,oF,oF,oF,oF,oT],[],[]),(4,[],[],[]),(4,[],[],[]),(4,[oF,oF,oF,oF,oF,oF,oF,oF,oT],[],[]),(4,fA 7 (tT 3),[],[]),(4,fA 7 (tT 4),[],[]),(4,tT 12,[],[]),(4,[],[],[]),(5,tT 14,[],[])] [_,_,_,_,_,_,_,_,_,_,_,_,_,_,_] ⟨[(10,.q 4 0),(41,.i e.1),(40,.i p0.2.2.2.2.length),(39,.f qT p0.2.2.2.2),(5,.q 0 0),(3,.o (lQ 26 [lF qI s] 0)),(2,.q 2 0)],[(4,.bx 112 [lI w,lI j.2.1,lI D]),(0,.bx 29 [lF qI p0.1,lI F,lF qI t,lF qI v,lH 1]),(1,ROW qT 112 e.2),(2,.bx 29 [lN,lI 0,lN,lN,lN])],5⟩ ⟨O.ld nag26 Z R .Q R R,O.faP yw Z R R,zB nag3 R,O.ix sl26 Z R R V R,O.ld nag3 Z R (.E lv3) R R,O.faP yM Z R R,zB nag3 R,O.ld nag26 Z R .Q R R,O.faP yN Z R R,zB nag3 R,O.ix sl26 Z R R W R,O.ld nag3 Z R (.E lv3) R R,O.bu (l:=[lI w,lI j.2.1,lI D]) pl112 R Z R R R,O.al 4 R zz112 R Z R,O.st ag112.sz Z R R R R R,trivial⟩ (by kernel_rfl) R ?_;refine .seqN (.sr (.fa yM R (.lb nag3 R (.bi R (.mv R ?_)))));refine .cut 6 (fun (K:Bool)=>((j.2.1 != (-1))||(w != D))=K) (fun K=>⟨[(67,.b K),(10,.q 4 0),(41,.i e.1),(40,.i p0.2.2.2.2.length),(39,.f qT p0.2.2.2.2),(5,.q 0 0),(3,.o (lQ 26 [lF qI s] 0)),(2,.q 2 0)],[(4,.bx 112 [lI w,lI j.2.1,lI D]),(0,.bx 29 [lF qI p0.1,lI F,lF qI t,lF qI v,lH 1]),(1,ROW qT 112 e.2),(2,.bx 29 [lN,lI 0,lN,lN,lN])],5⟩) ?_ ?_
   ·rintro _ rfl;exact .ns (.cc hm R (fun hm=> .reg (.fa yx R (.lb nag27 R (.lg [lI w,lI j.2.1,lI D] ag112 R (.B R) R (.bf (r:=qT) ([(w,j.2.1,D)]:List (Int×Int×Int)) bs27 R (.c (.p .k (.p .k .k)) .n) R (bS hm fun b2 X hm=> .ap 5 underlying27 el112 R R (.fr R) X (.fa yx R (.st nag27.sz R (.nil (.blkN ((H _ hm).sub [(1,5)] R))))))))))) fun hm=> .skip (.blkN ((H _ hm).s0 R)))
   ·intro M;rcases yEt (j.2.1 != (-1)) with hc|hc
    ·refine .know (d:=61) R hc ?_;exact .s2 R R (.s2 R R (.sk R (.pT R ((M true (orT hc).symm).s0 R))))
    ·refine .know (d:=61) R hc ?_;exact .fag yw R (.lbg nag3 R (.fag yN R (.lbg nag3 R (.bg R (.pF R ((M (w != D) (orF hc).symm).s0 R))))))
 refine .iter (fun (J:Int×Int)=>⟨[(27,.i J.1),(26,.i s.length),(25,.f qI s),(5,.q 0 0),(3,.o (lQ 26 [lF qI s] 0)),(2,.q 1 0),(1,.q 2 0)],[(0,.bx 29 [lF qI p0.1,lI J.2,lF qI t,lF qI v,lN]),(1,.bx 29 [lN,lI 0,lN,lN,lN]),(2,.bx 29 (lx29 p0))],3⟩) a4 [(0,4),(2,0)] R ?_;intro J b1 hm a9 a8;refine .sr (.bi R (.ns (.seq ?_)));exact .cc hm R (fun hm=> .sn (.seq (.block (.sr (bS hm fun b3 Y hm=> .ix sl26 Y R (.le nag3 lv3 R (.an R (.reg (.fa yC R (.lb nag3 R (.mv R (.bi R (.op (O.max Z R R R) R (.fa yC R (.st nag3.sz R (.nil (.blkN (.seqN (.reg (.bi R (.mv R (.nil ((a9 _ (oj hm)).s0 R))))))))))))))))))))))) fun hm=> .xx ((a2 _ (a8 _ (oj hm))).s0 R)
def y3Y(p0:List (Int×Int×Int))(p1:List (Int×Int×Int))(a:Int):Option (Int⊕(Unit⊕Unit)):=
 if decide (a<(p0.length:Int)) then
  (idx p0 a).bind fun b=>
  (idx p1 a).bind fun c=>
  if(!(b.1==c.1&&(b.2.1==c.2.1&&(b.2.2==c.2.2&&true)))) then
   some (.inr (.inr (())))
  else
   some (.inl (W (a+1)))
 else
  some (.inr (.inl ()))
def y3I(p0:List (Int×Int×Int))(p1:List (Int×Int×Int)):Option Bool:=
 if((p0.length:Int) != (p1.length:Int)) then
  some false
 else
  (iter (y3Y p0 p1) 0).bind fun a=>
  match a with
  | .inl b=>
   some true
  | .inr (c)=>
   some false
theorem y8w{p0:List (Int×Int×Int)}{p1:List (Int×Int×Int)}{r:Bool}(hm:y3I p0 p1=some r):
    F0 89 [.f qT p0,.f qT p1] [] (.b r) []:=by
  refine Fw.mk2 func89 ntmps89 R (fun C=>?_) R;refine .sr (.an R (.seq (.sv R (.ln sl27 R (.mv R (.ln sl27 R (.bi R (.ns ?_))))))));refine .cc hm R (fun hm=>?_) fun hm=>?_
  ·refine .sr (.an R (.ret (.seqR ?_)));cases hm;exact .r0 results89 (.tmp R .nil) R R
  ·refine .sn (.seq (.sv R (.ln sl27 R (.mv R (.ns (.block (bS hm fun o m hm=>?_)))))));refine .cutU (z:= .exit 0) (fun j=> .inl j=o) (fun (j:Unit)=>⟨[],[],0⟩) ?_ fun K7=>?_
   · rintro j rfl;dsimp only at hm;refine .blkE (.seqN (.sr (.an R (.ret ?_))));cases hm;exact .r0 results89 (.tmp R .nil) R R
   refine .cutU (z:= .ret) (fun k=> .inr (k)=o) (fun (k:Unit)=>⟨[(4,.b false)],[],0⟩) ?_ fun K9=>?_
   · rintro k rfl;dsimp only at hm;refine .blkR (.seqR ?_);cases hm;exact .r0 results89 (.tmp R .nil) R R
   refine .iter (fun (d:Int)=>⟨[(13,.i d),(12,.i p0.length),(0,.f qT p0),(1,.f qT p1)],[],0⟩) m [] R ?_;intro d p hm n e;refine .sr (.bi R (.ns (.seq ?_)));refine .cc hm R (fun hm=>?_) fun hm=> .xx ((K7 _ (e _ (oj hm))).s0 R);refine .sn (.seq (.block (.sv R (.an R (.seq ?_)))));refine .sub (τ:=⟨[(5,.i d),(13,.i d),(12,.i p0.length),(0,.f qT p0),(1,.f qT p1)],[],0⟩) ?_ [] R;refine bS hm fun a g hm=>bS hm fun c h hm=>?_;refine .drw [(0,[]),(0,[]),(0,[oT,oT]),(0,tT 3),(0,[]),(0,[]),(0,[oF,oF,oF,oF,oT,oT]),(0,fA 4 (tT 3)),(0,tT 8)] [_,_,_,_,_,_,_,_,_] ⟨[(24,.b (!(a.1==c.1&&(a.2.1==c.2.1&&(a.2.2==c.2.2&&true))))),(13,.i d),(12,.i p0.length),(0,.f qT p0),(1,.f qT p1)],[],0⟩ ⟨zM R,zM R,O.ix sl27 Z R R g R,O.lg (l':=[lI a.1,lI a.2.1,lI a.2.2]) ag112 Z R (.E lv112) R R R,zM R,zM R,O.ix sl27 Z R R h R,O.lg (l':=[lI c.1,lI c.2.1,lI c.2.2]) ag112 Z R (.E lv112) R R R,O.nes (us:=[.int .i64 a.1,.int .i64 a.2.1,.int .i64 a.2.2]) (vs:=[.int .i64 c.1,.int .i64 c.2.1,.int .i64 c.2.2]) (b:=(a.1==c.1&&(a.2.1==c.2.1&&(a.2.2==c.2.2&&true)))) (Eqs.mk underlying112 (by kernel_rfl) fun w=>(y2z rfl nag3.agg nag3.sz rfl rfl (run_equalIn_int _ _ _ _ _ _ _ underlying3) (y2z rfl nag3.agg nag3.sz rfl rfl (run_equalIn_int _ _ _ _ _ _ _ underlying3) (y2z rfl nag3.agg nag3.sz rfl rfl (run_equalIn_int _ _ _ _ _ _ _ underlying3) rfl)))) (by kernel_rfl) Z R R R R,trivial⟩ (by kernel_rfl) R ?_;exact .seqN (.cc hm R (fun hm=> .sr (.an R (.ret (.blkR (.seqR (.seqR ((K9 _ (e _ (oj hm))).s0 R))))))) fun hm=> .skip (.blkN (.seqN (.reg (.bi R (.mv R (.nil ((n _ (oj hm)).s0 R))))))))
def y2F(p0:LI×Int×LI×LI×EdgL)(p1:LI×Int×LI×LI×EdgL):Option Bool:=
 (if (p0.2.1==p1.2.1) then
  (ym p0.1 p1.1).bind fun e=>
  some e
 else
  some false).bind fun f=>
 (if f then
  (ym p0.2.2.1 p1.2.2.1).bind fun d=>
  some d
 else
  some false).bind fun g=>
 (if g then
  (ym p0.2.2.2.1 p1.2.2.2.1).bind fun c=>
  some c
 else
  some false).bind fun h=>
 (if h then
  (y3I p0.2.2.2.2 p1.2.2.2.2).bind fun b=>
  some b
 else
  some false).bind fun a=>
 some a
theorem y6w{p0:LI×Int×LI×LI×EdgL}{p1:LI×Int×LI×LI×EdgL}{r:Bool}(hm:y2F p0 p1=some r):
  F0 26 [.a (lx29 p0),.a (lx29 p1)] [] (.b r) []:=by
 refine Fw.mk2 func26 ntmps26 R (fun C=>?_) R;refine .sr (.bo 0 R (.bo 1 R (.an R (.sr (.fa yC R (.lb nag3 R (.fa yC R (.lb nag3 R (.bi R (.mv R (bS hm fun w eb1 hm=>?_)))))))))));refine .cut 6 (fun (j:Bool)=>w=j) (fun j=>⟨[(16,.b j),(3,.q 1 0),(2,.q 0 0)],[(1,.bx 29 (lx29 p1)),(0,.bx 29 (lx29 p0))],2⟩) ?_ ?_
 ·rintro _ rfl;refine .mv R (bS hm fun x eb4 hm=>?_);refine .cut 6 (fun (k:Bool)=>x=k) (fun k=>⟨[(23,.b k),(3,.q 1 0),(2,.q 0 0)],[(1,.bx 29 (lx29 p1)),(0,.bx 29 (lx29 p0))],2⟩) ?_ ?_
  ·rintro _ rfl;refine .mv R (bS hm fun y eb7 hm=>?_);refine .cut 6 (fun (l:Bool)=>y=l) (fun l=>⟨[(30,.b l),(3,.q 1 0),(2,.q 0 0)],[(1,.bx 29 (lx29 p1)),(0,.bx 29 (lx29 p0))],2⟩) ?_ ?_
   ·rintro _ rfl;refine .mv R (bS hm fun p eb10 hm=>?_);refine .cut 6 (fun (c:Bool)=>p=c) (fun c=>⟨[(37,.b c)],[],2⟩) ?_ ?_
    ·rintro _ rfl;refine .an R (.ret ?_);cases hm;exact .r0 results26 (.tmp R .nil) R R
    ·intro e;rcases ifS eb10 with ⟨hc,hm⟩|⟨hc,hm⟩
     ·refine .know (d:=31) R hc ?_;exact .fag yx R (.lbg nag27 R (.fag yx R (.lbg nag27 R (bS hm fun s f hm=> .op (O.ca0 (y8w f) cf89 R R (Gu.mk R R) R R R) R (.pT R ((e s (oj hm)).s0 R))))))
     ·refine .know (d:=31) R hc ?_;exact .s2 R R (.s2 R R (.sk R (.pF R ((e false (oj hm)).s0 R))))
   ·intro o;rcases ifS eb7 with ⟨hc,hm⟩|⟨hc,hm⟩
    ·refine .know (d:=24) R hc ?_;exact .fag y3v R (.lbg nag26 R (.fag y3v R (.lbg nag26 R (bS hm fun t g hm=> .op (O.ca0 (y1W g) cf21 R R (Gu.mk R R) R R R) R (.pT R ((o t (oj hm)).s0 R))))))
    ·refine .know (d:=24) R hc ?_;exact .s2 R R (.s2 R R (.sk R (.pF R ((o false (oj hm)).s0 R))))
  ·intro n;rcases ifS eb4 with ⟨hc,hm⟩|⟨hc,hm⟩
   ·refine .know (d:=17) R hc ?_;exact .fag y3R R (.lbg nag26 R (.fag y3R R (.lbg nag26 R (bS hm fun u h hm=> .op (O.ca0 (y1W h) cf21 R R (Gu.mk R R) R R R) R (.pT R ((n u (oj hm)).s0 R))))))
   ·refine .know (d:=17) R hc ?_;exact .s2 R R (.s2 R R (.sk R (.pF R ((n false (oj hm)).s0 R))))
 ·intro m;rcases ifS eb1 with ⟨hc,hm⟩|⟨hc,hm⟩
  ·refine .know (d:=10) R hc ?_;exact .fag y2k R (.lbg nag26 R (.fag y2k R (.lbg nag26 R (bS hm fun v i hm=> .op (O.ca0 (y1W i) cf21 R R (Gu.mk R R) R R R) R (.pT R ((m v (oj hm)).s0 R))))))
  ·refine .know (d:=10) R hc ?_;exact .s2 R R (.s2 R R (.sk R (.pF R ((m false (oj hm)).s0 R))))
def yp(a:Bool):Option Bool:=
 some a
def y1T(p0:Int×Int×Int×Int×EdgL):Option Bool:=
 (y4h).bind fun h=>
 if(!h) then
  some false
 else
  (y3o p0).bind fun a=>
  (yY a).bind fun f=>
  (y1v a).bind fun g=>
  if(f.2==0) then
   if(g.2==0) then
    (y1f a).bind fun b=>
    (ym f.1 b).bind fun c=>
    if c then
     (y2E a).bind fun d=>
     (y2F g.1 d).bind fun e=>
     yp e
    else
     yp false
   else
    yp false
  else
   yp false
theorem y4u{p0:Int×Int×Int×Int×EdgL}{r:Bool}(hm:y1T p0=some r):
    F0 5 [.a (lx24 p0)] [] (.b r) []:=by
  refine Fw.mk2 func5 ntmps5 R (fun C=>?_) R;refine .sr (.bo 0 R (.an R (.seq (.sr (bS hm fun J x hm=> .c0 (y7D x) cf11 R (.no R (.ns ?_)))))));refine .cc hm R (fun hm=>?_) fun hm=>?_
  ·refine .sr (.an R (.ret (.seqR ?_)));cases hm;exact .r0 results5 (.tmp R .nil) R R
  ·refine .sn (.sr (.lg (lx24 p0) ag24 R (.B R) R (bS hm fun d y hm=> .cm (r':= .g [lH 1,lI d.2.1,lH 2,lH 3,lH 4]) [1,2,3,4] [(0,rwI d.1),(1,rwI d.2.2.1),(2,rwI d.2.2.2.1),(3,ROW qT 112 d.2.2.2.2)] (some 5) (y8c y) cf12 R ⟨⟨_,R,I4⟩,⟨_,R,I4⟩,⟨_,R,I4⟩,⟨_,R,I4⟩,trivial⟩ R (.al 5 zz29 R (.st ag29.sz R (.nr (.lg [lH 1,lI d.2.1,lH 2,lH 3,lH 4] ag29 R (.B R) R (.fz 1 [13] [5] R R fR R R (.fz 2 [13] [5] R R fR R R (.fz 3 [13] [5] R R fR R R (.fz 4 [13] [5] R R fR R R (bS hm fun G z hm=> .c0 (y3M z) cf24 R (.mv R (.ex R (.ex R (.sa R (.an R (.sr (.lg (lx29 d) ag29 R (.B R) R (bS hm fun c D hm=> .cm (r':= .tp [.a [lH 6,lI c.1.2.1,lF qI c.1.2.2.1,lF qI c.1.2.2.2.1,lH 7],.i c.2]) [6,7] [(0,rwI c.1.1),(1,ROW qT 112 c.1.2.2.2.2)] (some 8) (y3y D) cf13 R ⟨⟨_,R,I4⟩,⟨_,R,I4⟩,trivial⟩ R (.mv R (.ex R (.ex R (.al 8 zz29 R (.st ag29.sz R (.an R ?_))))))))))))))))))))))))));refine .join1 (fun (o:Bool)=>yp o=some r) (fun o=>⟨[(2,.b o)],[],0⟩) ?_ ?_
   · intro o hm;refine .ret ?_;cases hm;exact .r0 results5 (.tmp R .nil) R R
   · intro k;refine .sub (τ:=⟨[(7,.i c.2),(6,.q 8 0),(5,.i G.2),(4,.f qI G.1),(3,.q 5 0)],[(8,.bx 29 [lH 6,lI c.1.2.1,lF qI c.1.2.2.1,lF qI c.1.2.2.2.1,lH 7]),(6,rwI c.1.1),(7,ROW qT 112 c.1.2.2.2.2),(5,.bx 29 (lx29 d))],9⟩) ?_ [] R;refine .drP 2 [(9,[]),(9,[oT])] [_,_] ⟨zM R,O.bi Z R R R R,trivial⟩ fun p=>?_;rcases ifS hm with ⟨m,hm⟩|⟨m,hm⟩
     · skip
       refine .drX p 6 [(9,[oT,oT]),(9,tT 3),(9,tT 4),(9,tT 5)] [_,_,_,_] ⟨O.kn (zM R) m,O.mv (Gu.mk R R) R R,O.bi (Gu.mk R R) R R R R,O.pkT Z R R R R,trivial⟩ (by kernel_rfl) fun s=>?_;rcases ifS hm with ⟨e,hm⟩|⟨e,hm⟩
       · skip
         refine bS hm fun E t hm=>bS hm fun H u hm=> .drX s 12 [(9,tT 6),(9,tT 7),(9,tT 7),(9,tA 7 (fA 1 (tT 1))),(10,tT 10),(10,tT 11)] [_,_,_,_,_,_] ⟨O.kn (zM R) e,O.mv (Gu.mk R R) R R,O.lg (l':=(lx29 d)) ag29 (Gu.mk R R) R (.B R) R R R,O.ca (r':= .h 9) [9] [(0,rwI E)] (some 10) (y4B t) cf25 R R (Gu.mk R R) R R R R ⟨⟨_,R,I4⟩,trivial⟩ I3 R,O.caZ (y1W u) cf21 R R (Gu.mk R R) R ⟨⟨R,LnL.rf⟩,⟨R,.hr R,trivial⟩,trivial⟩ (fun _ _ _ _ _ h=>h) R,O.pkT Z R R R R,trivial⟩ (by kernel_rfl) fun n=>?_;rcases ifS hm with ⟨j,hm⟩|⟨j,hm⟩
         · skip
           exact bS hm fun I v hm=>bS hm fun F w hm=> .drF n [(10,tT 12),(10,tT 13),(10,tT 13),(10,tA 13 (fA 1 (tT 1))),(10,tT 16),(10,tT 17),(10,tT 18)] [_,_,_,_,_,_,_] ⟨[(2,.b F)],[],10⟩ ⟨O.kn (zM R) j,O.lg (l':=[lH 6,lI c.1.2.1,lF qI c.1.2.2.1,lF qI c.1.2.2.2.1,lH 7]) ag29 (Gu.mk R R) R (.B R) R R R,O.lg (l':=(lx29 d)) ag29 (Gu.mk R R) R (.B R) R R R,O.ca0 (y6v v) cf27 R R (Gu.mk R R) R R R,O.caZ (y6w w) cf26 R R (Gu.mk R R) R ⟨⟨R,.hr R,.rf,.rf,.rf,.hr R,trivial⟩,⟨R,LnL.rf⟩,trivial⟩ (fun _ _ _ _ _ h=>h) R,O.pkT Z R R R R,O.as Z R R,trivial⟩ (by kernel_rfl) R ((k _ hm).s0 R)
         · skip
           exact .drF n [(10,tT 12),(10,tT 13),(10,tT 13),(10,tA 13 (fA 1 (tT 1))),(10,tT 16),(10,tT 17),(10,tT 18)] [_,_,_,_,_,_,_] ⟨[(2,.b false)],[],10⟩ ⟨O.kn (zM R) j,zK R,zK R,zK R,zK R,O.pkF Z R R R R,O.as Z R R,trivial⟩ (by kernel_rfl) R ((k _ hm).s0 R)
       · skip
         exact .drF s [(9,tT 6),(9,tT 7),(9,tT 7),(9,tA 7 (fA 1 (tT 1))),(9,tT 10),(9,tT 11),(9,tT 12),(9,tT 13),(9,tT 13),(9,tA 13 (fA 1 (tT 1))),(9,tT 16),(9,tT 17),(9,tT 18)] [_,_,_,_,_,_,_,_,_,_,_,_,_] ⟨[(2,.b false)],[],9⟩ ⟨O.kn (zM R) e,zK R,zK R,zK R,zK R,O.pkF Z R R R R,zM R,zK R,zK R,zK R,zK R,O.pkF Z R R R R,O.as Z R R,trivial⟩ (by kernel_rfl) R ((k _ hm).s0 R)
     · skip
       exact .drF p [(9,[oT,oT]),(9,tT 3),(9,tT 4),(9,tT 5),(9,tT 6),(9,tT 7),(9,tT 7),(9,tA 7 (fA 1 (tT 1))),(9,tT 10),(9,tT 11),(9,tT 12),(9,tT 13),(9,tT 13),(9,tA 13 (fA 1 (tT 1))),(9,tT 16),(9,tT 17),(9,tT 18)] [_,_,_,_,_,_,_,_,_,_,_,_,_,_,_,_,_] ⟨[(2,.b false)],[],9⟩ ⟨O.kn (zM R) m,zK R,zK R,O.pkF Z R R R R,zM R,zK R,zK R,zK R,zK R,O.pkF Z R R R R,zM R,zK R,zK R,zK R,zK R,O.pkF Z R R R R,O.as Z R R,trivial⟩ (by kernel_rfl) R ((k _ hm).s0 R)
end
end
section
open Go.Proofs.Tryz
def wval(u:LI):Int:=u.foldl (fun acc e=>33*acc+e+1) 0
theorem y9D(u:LI)(e:Int):wval (u++[e])=33*wval u+e+1:=by simp [wval,List.foldl_append]
def Evs(u:LI):Prop:=∀e∈u,0≤e∧e<32
theorem Evs.nil :Evs []:=fun e h=>by cases h
theorem Evs.snoc{u:LI}{e:Int}(h:Evs u)(h0:0≤e)(h1:e<32):Evs (u++[e]):=by
 intro x hx;rcases yMa.1 hx with h2|h2
 ·exact h x h2
 ·rw [yMs.1 h2];exact⟨h0,h1⟩
theorem Evs.of_snoc{u:LI}{e:Int}(h:Evs (u++[e])):Evs u∧0≤e∧e<32:=
 ⟨fun x hx=>h x (yMl _ hx),h e (by simp)⟩
theorem yfy{α:Type}{P:List α→Prop}(h0:P [])(h1:∀u e,P u→P (u++[e]))(u:List α):P u:=by
 have h2:∀n (u:List α),u.length=n→P u:=by
  intro n
  induction n with
  | zero=>intro u hu;rw [yLz hu];exact h0
  | succ n ih=>
   intro u hu;rcases List.eq_nil_or_concat u with rfl|⟨l,b,rfl⟩
   ·cases hu
   ·have hl:l.length=n:=by simpa using hu
    simpa using h1 l b (ih l hl)
 exact h2 _ u rfl
theorem yd4(u:LI):Evs u→0≤wval u:=by
 refine yfy (P:=fun u=>Evs u→0≤wval u) (fun _=>Int.le_refl 0) (fun u e ih h=>?_) u;have h1:=h.of_snoc;have:=ih h1.1;rw [y9D];omega
def Leads(es:List Ed)(perm:Ed→Bool)(s:Int):LI→Int→Prop
 | [],t=>s=t
 | e::u,t=>∃x∈es,x.f=s∧x.e=e∧perm x=true∧Leads es perm x.t u t
theorem Leads.snoc{es:List Ed}{perm:Ed→Bool}:∀{u:LI} {s t:Int},Leads es perm s u t→∀{x:Ed},x∈es→x.f=t→perm x=true→Leads es perm s (u++[x.e]) x.t
 | [],s,t,h,x,hx,hf,hp=>⟨x,hx,by rw [hf];exact h.symm,rfl,hp,rfl⟩
 | e::u,s,t,⟨y,hy,h1,h2,h3,h4⟩,x,hx,hf,hp=>⟨y,hy,h1,h2,h3,h4.snoc hx hf hp⟩
theorem Leads.of_snoc{es:List Ed}{perm:Ed→Bool}{e:Int}:∀{u:LI} {s t:Int},Leads es perm s (u++[e]) t→∃x∈es,Leads es perm s u x.f∧x.e=e∧x.t=t∧perm x=true
 | [],s,t,⟨y,hy,h1,h2,h3,h4⟩=>⟨y,hy,h1.symm,h2,h4,h3⟩
 | a::u,s,t,⟨y,hy,h1,h2,h3,h4⟩=>by
  obtain⟨x,hx,g1,g2,g3,g4⟩:=Leads.of_snoc (u:=u) h4;exact⟨x,hx,⟨y,hy,h1,h2,h3,g1⟩,g2,g3,g4⟩
def EvEs(es:List Ed):Prop:=∀x∈es,0≤x.e∧x.e<32
def edLt(x y:Ed):Prop:=x.f<y.f∨(x.f=y.f∧x.e<y.e)
def ycB(es:List Ed):Prop:=es.Pairwise edLt
def y9Q(es:List Ed)(tg:LI):Nat→Int→Prop
 | 0,s=>s∈tg
 | k+1,s=>∃x∈es,x.f=s∧y9Q es tg k x.t
end
section
open Go.Proofs.Tryz Go Go.RowKit
theorem W_of{x:Int}(h0: -9223372036854775808≤x)(h1:x<9223372036854775808):W x=x:=IntWalk.i64_in _ (by omega)
theorem W_nat{k:Nat}(h:k<9223372036854775808):W (k:Int)=k:=W_of (by omega) (by omega)
theorem yj{α:Type}{xs:List α}{i:Nat}(h:i<xs.length):idx xs (i:Int)=some xs[i]:=by rw [yg0,yGe h]
theorem y5Q{S O:Type}{f:S→Option (S⊕O)}{s:S}{o:O}{n:Nat}(hn:n≤18446744073709551616)(h:iterF f n s=some o):iter f s=some o:=by
 have mono:∀(n m:Nat) (s:S),n≤m→iterF f n s=some o→iterF f m s=some o:=by
  intro n
  induction n with
  | zero=>intro m s _ h;cases h
  | succ n ih=>
   intro m s hm h;obtain⟨k,rfl⟩:∃k,m=k+1:=⟨m-1,by omega⟩;rw [yE] at h ⊢;split at h
   ·cases h
   ·rename_i h1;exact ih k _ (by omega) h
   ·rename_i h1;exact h
 exact mono n _ s hn h
theorem yf{S O:Type}{f:S→Option (S⊕O)}(P:Nat→S→Prop)(Q:O→Prop):∀(n i:Nat),n<i+18446744073709551616→(∀i s,i<n→P i s→(∃s',f s=some (.inl s')∧P (i+1) s')∨∃o,f s=some (.inr o)∧Q o)→(∀s,P n s→∃o,f s=some (.inr o)∧Q o)→i≤n→
  ∀s,P i s→∃o,iter f s=some o∧Q o:=by
 have key:∀(n:Nat),(∀i s,i<n→P i s→(∃s',f s=some (.inl s')∧P (i+1) s')∨∃o,f s=some (.inr o)∧Q o)→(∀s,P n s→∃o,f s=some (.inr o)∧Q o)→∀(j i:Nat),i+j=n→∀s,P i s→∃o,iterF f (j+1) s=some o∧Q o:=by
  intro n step fin j
  induction j with
  | zero=>
   intro i hi s h;obtain rfl:i=n:=by omega
   obtain⟨o,h1,h2⟩:=fin s h;exact⟨o,by rw [yE,h1],h2⟩
  | succ j ih=>
   intro i hi s h;rcases step i s (by omega) h with ⟨s',h1,h2⟩|⟨o,h1,h2⟩
   ·obtain ⟨o,h3,h4⟩:=ih (i+1) (by omega) s' h2;exact⟨o,by rw [yE,h1];exact h3,h4⟩
   ·exact ⟨o,by rw [yE,h1],h2⟩
 intro n i hn step fin hi s h;obtain⟨o,h1,h2⟩:=key n step fin (n-i) i (by omega) s h;exact⟨o,y5Q (by omega) h1,h2⟩
theorem nxt{i:Nat}(h:i<4611686018427387904):W ((i:Int)+1)=((i+1:Nat):Int):=by rw [show (i:Int)+1=((i+1:Nat):Int) by omega,W_nat (by omega)]
theorem ct_lt{i n:Nat}(h:i<n):decide ((i:Int)<(n:Int))=true:=by simp;omega
theorem ct_ge{n:Nat}:¬decide ((n:Int)<(n:Int))=true:=by simp
theorem ycC{xs:LI}(h:xs.length≤4294967296):yi xs=some xs:=by
 rw [yi,ye8 (by simpa using h)];rfl
def errO(e:Int):Unit⊕Int:=if e=0 then .inl () else .inr e
theorem yd5{xs:LI}{n:Int}(hl:xs.length<4611686018427387904):∀(j i:Nat),i+j=xs.length→
  iterF (y2c xs n) (j+1) (i:Int)=some (errO (yh n (y2Z xs i) (xs.drop i))):=by
 intro j
 induction j with
 | zero=>
  intro i hi;have e:xs.drop i= []:=List.drop_of_length_le (by omega);rw [yE,y2c,iN (by simp;omega),e];rfl
 | succ j ih=>
  intro i hi;have hlt:i<xs.length:=by omega
  rw [yE,y2c,iP (by simp;omega),yj hlt,yOb];by_cases h1:xs[i]<0∨n≤xs[i]
  ·rw [iP (by simpa using h1),ya8 hlt h1];rfl
  ·rw [iN (by simpa using h1)];by_cases h0:0<i
   ·rw [iP (by simp;omega),show(i:Int)-1=((i-1:Nat):Int) by omega,W_nat (by omega),yj (show i-1<xs.length by omega),yOb,yOb];by_cases h2:xs[i]≤xs[i-1]
    ·rw [iP (by simpa using h2),ya9 hlt h1 h0 h2];rfl
    ·rw [iN (by simpa using h2),show(i:Int)+1=((i+1:Nat):Int) by omega,W_nat (by omega),y5T hlt h1 (fun _=>by omega)];exact ih (i+1) (by omega)
   ·rw [iN (by simp;omega),yOb,iN (by simp),show(i:Int)+1=((i+1:Nat):Int) by omega,W_nat (by omega),y5T hlt h1 (fun h=>absurd h h0)];exact ih (i+1) (by omega)
theorem ya5{xs:LI}{n:Int}(hl:xs.length<4611686018427387904):y1g xs n=some (yh n none xs):=by
 have h:iter (y2c xs n) 0=some (errO (yh n none xs)):=y5Q (by omega) (yd5 (n:=n) hl xs.length 0 (by omega));rw [y1g,h,yOb];by_cases h0:yh n none xs=0
 ·rw [h0];rfl
 ·rw [errO,iN h0]
theorem yfz{xs:LI}{x:Int}(hl:xs.length<4611686018427387904):∀(j i:Nat),i+j=xs.length→
  ∃o,iterF (y2r xs x) (j+1) (i:Int)=some o∧((o= .inl ()∧x∉xs.drop i)∨∃k:Nat,i≤k∧o= .inr (k:Int)∧x∈xs.drop i):=by
 intro j
 induction j with
 | zero=>
  intro i hi;have e:xs.drop i= []:=List.drop_of_length_le (by omega);refine⟨.inl (),?_,.inl ⟨rfl,by rw [e];simp⟩⟩;rw [yE,y2r,iN (by simp;omega)]
 | succ j ih=>
  intro i hi;have hlt:i<xs.length:=by omega
  rw [yE,y2r,iP (by simp;omega),yj hlt,yOb];by_cases h1:x=xs[i]
  ·rw [iP (by simpa using h1)];exact⟨_,rfl,.inr ⟨i,yNr _,rfl,by rw [yDc hlt,h1];exact yMc⟩⟩
  ·rw [iN (by simpa using h1),show(i:Int)+1=((i+1:Nat):Int) by omega,W_nat (by omega)];obtain⟨o,h2,h3⟩:=ih (i+1) (by omega);refine⟨o,h2,?_⟩;rw [yDc hlt];rcases h3 with ⟨h4,h5⟩|⟨k,h4,h5,h6⟩
   ·exact .inl ⟨h4,fun hc=>(yMo.1 hc).elim h1 h5⟩
   ·exact .inr ⟨k,by omega,h5,yMm _ h6⟩
theorem y5V{xs:LI}{x:Int}(hl:xs.length<4611686018427387904):yz xs x=some (hasB xs x):=by
 obtain⟨o,h1,h2⟩:=yfz (x:=x) hl xs.length 0 (by omega);have h:iter (y2r xs x) 0=some o:=y5Q (by omega) h1;rw [yz,y4K,h,yOb];rcases h2 with ⟨rfl,h4⟩|⟨k,_,rfl,h4⟩
 ·rw [y6z.2 (by simpa using h4)];rfl
 ·rw [yK.2 (by simpa using h4)];show some (decide ((k:Int)≥0))=some true;simp
def edP(x:Ed):Int×Int×Int:=(x.f,x.e,x.t)
def autP(a:Aut):LI×Int×LI×List (Int×Int×Int):=(a.al,a.n,a.ms,a.es.map edP)
def prevE(es:List Ed)(k:Nat):Option Ed:=if k=0 then none else es[k-1]?
theorem yd6{al:LI}{n:Int}{es:List Ed}{k:Nat}(hk:k<es.length):edErr al n (prevE es k) (es.drop k)=
  if(es[k].f<0∨n≤es[k].f∨es[k].t<0∨n≤es[k].t) then 2 else if hasB al es[k].e=false then 9 else if(∃q,prevE es k=some q∧(es[k].f<q.f∨(es[k].f=q.f∧es[k].e≤q.e))) then 5 else edErr al n (prevE es (k+1)) (es.drop (k+1)):=by
 rw [yDc hk,edErr];congr 3;simp [prevE,yGe hk]
theorem yfA{a:Aut}(hl:a.es.length<4611686018427387904)(hal:a.al.length<4611686018427387904):∀(j i:Nat),i+j=a.es.length→
  iterF (y1J (autP a)) (j+1) (i:Int)=some (errO (edErr a.al a.n (prevE a.es i) (a.es.drop i))):=by
 have hlen:(autP a).2.2.2.length=a.es.length:=by simp [autP]
 have hat:∀(i:Nat) (h:i<a.es.length),idx (autP a).2.2.2 (i:Int)=some (edP a.es[i]):=fun i h=>by
  rw [yj (by rw [hlen];exact h)];simp [autP]
 intro j
 induction j with
 | zero=>
  intro i hi;have e:a.es.drop i= []:=List.drop_of_length_le (by omega);rw [yE,y1J,iN (by rw [hlen];simp;omega),e];rfl
 | succ j ih=>
  intro i hi;have hlt:i<a.es.length:=by omega
  have hnext:y1I (i:Int)=some (.inl ((i+1:Nat):Int)):=by
   rw [y1I,show(i:Int)+1=((i+1:Nat):Int) by omega,W_nat (by omega)]
  rw [yE,y1J,iP (by rw [hlen];simp;omega),hat i hlt,yOb,yd6 hlt];by_cases h1:a.es[i].f<0∨a.n≤a.es[i].f∨a.es[i].t<0∨a.n≤a.es[i].t
  ·rw [iP (by simp only [Bool.or_eq_true,decide_eq_true_eq];show((a.es[i].f<0∨a.es[i].f≥a.n)∨a.es[i].t<0)∨a.es[i].t≥a.n;omega),iP h1];rfl
  ·rw [iN (by simp only [Bool.or_eq_true,decide_eq_true_eq];show ¬(((a.es[i].f<0∨a.es[i].f≥a.n)∨a.es[i].t<0)∨a.es[i].t≥a.n);omega),iN h1];rw [show yz (autP a).1 (edP a.es[i]).2.1=some (hasB a.al a.es[i].e) from y5V hal,yOb];cases h2:hasB a.al a.es[i].e with
   | false=>rfl
   | true=>
    rw [iN (show ¬(!true)=true by simp),iN (show ¬(true=false) by simp)];by_cases h0:i=0
    ·subst h0;rw [iP (by simp),hnext,iN (by rintro⟨q,hq,_⟩;simp [prevE] at hq)];exact ih 1 (by omega)
    ·have hp:prevE a.es i=some a.es[i-1]:=by rw [prevE,iN h0,yGe (by omega)]
     rw [iN (by simp;omega),show(i:Int)-1=((i-1:Nat):Int) by omega,W_nat (by omega),hat (i-1) (by omega),yOb];by_cases h3:a.es[i].f<a.es[i-1].f∨(a.es[i].f=a.es[i-1].f∧a.es[i].e≤a.es[i-1].e)
     ·rw [iP (by simp only [Bool.or_eq_true,yAe,decide_eq_true_eq,beq_iff_eq];exact h3),iP ⟨_,hp,h3⟩];rfl
     ·rw [iN (by simp only [Bool.or_eq_true,yAe,decide_eq_true_eq,beq_iff_eq];exact h3),hnext,iN (by rintro⟨q,hq,h4⟩;rw [hp] at hq;cases hq;exact h3 h4)];exact ih (i+1) (by omega)
theorem yfB{a:Aut}(hl:a.es.length<4611686018427387904)(hal:a.al.length<4611686018427387904)(hms:a.ms.length<4611686018427387904):y2I (autP a)=some a.err:=by
 have h:iter (y1J (autP a)) 0=some (errO (edErr a.al a.n none a.es)):=y5Q (by omega) (yfA hl hal a.es.length 0 (by omega));have he:y2Y (autP a)=some (edErr a.al a.n none a.es):=by
  rw [y2Y,h,yOb];by_cases h0:edErr a.al a.n none a.es=0
  ·rw [h0];rfl
  ·rw [errO,iN h0]
 rw [y2I,show y1g (autP a).1 32=some (yh 32 none a.al) from ya5 hal,yOb,Aut.err];by_cases h1:(yh 32 none a.al != 0)=true
 ·rw [iP h1,iP h1]
 ·rw [iN h1,iN h1];by_cases h2:a.n<0
  ·rw [iP (show decide ((autP a).2.1<0)=true from decide_eq_true h2),iP h2]
  ·rw [iN (show ¬decide ((autP a).2.1<0)=true from fun e=>h2 (of_decide_eq_true e)),iN h2];by_cases h3:4096<a.n
   ·rw [iP (show decide ((autP a).2.1>4096)=true from decide_eq_true h3),iP h3]
   ·rw [iN (show ¬decide ((autP a).2.1>4096)=true from fun e=>h3 (of_decide_eq_true e)),iN h3,show y1g (autP a).2.2.1 (autP a).2.1=some (yh a.n none a.ms) from ya5 hms,yOb];by_cases h4:(yh a.n none a.ms != 0)=true
    ·rw [iP h4,iP h4]
    ·rw [iN h4,iN h4,he];rfl
abbrev Inc(xs:LI):Prop:=xs.Pairwise (· < ·)
theorem ydx{i j:Nat}(h:i+j<9223372036854775808):W ((IntKind.u64.wrap (W ((i:Int)+(j:Int)))).fdiv (2 ^ (min (1:Int).toNat 64)))=(((i+j)/2:Nat):Int):=by
 rw [W_of (x:=(i:Int)+j) (by omega) (by omega),IntWalk.u64_in _ (by omega),show(2:Int) ^ (min (1:Int).toNat 64)=2 from rfl,Int.fdiv_eq_ediv_of_nonneg _ (by omega),W_of (by omega) (by omega)];omega
theorem ygk(x y:Int):y4P x y=some (decide (x<y)):=by
 rw [y4P,show y1F x=some false by rw [y1F];simp,yOb,iN (by simp),yOb,Bool.false_or]
theorem ygO{xs:LI}{t:Int}(hl:xs.length<4294967296)(hs:Inc xs):∀(f i j:Nat),j≤i+f→i≤j→j≤xs.length→(∀k (h:k<xs.length),k<i→xs[k]<t)→(∀k (h:k<xs.length),j≤k→t≤xs[k])→
  ∃p:Nat,iterF (yV xs t) (f+1) ((j:Int),(i:Int))=some (p:Int)∧p≤xs.length∧(∀k (h:k<xs.length),k<p→xs[k]<t)∧(∀k (h:k<xs.length),p≤k→t≤xs[k]):=by
 intro f
 induction f with
 | zero=>
  intro i j h1 h2 h3 h4 h5;refine⟨i,?_,by omega,h4,fun k h hk=>h5 k h (by omega)⟩;rw [yE,yV,iN (by simp;omega)]
 | succ f ih=>
  intro i j h1 h2 h3 h4 h5;rw [yE,yV];dsimp only;by_cases hij:i<j
  ·have hm:(i+j)/2<xs.length:=by omega
   rw [iP (by simp;omega),ydx (by omega),yj hm,yOb,ygk,yOb];have mono:∀(a b:Nat) (ha:a<xs.length) (hb:b<xs.length),a≤b→xs[a]≤xs[b]:=fun a b ha hb hab=>by
    rcases Nat.lt_or_ge a b with h|h
    ·exact Int.le_of_lt (yPg.1 hs a b ha hb h)
    ·have:a=b:=by omega
     subst this;exact Int.le_refl _
   by_cases hc:xs[(i+j)/2]<t
   ·rw [iP (decide_eq_true hc),show(((i+j)/2:Nat):Int)+1=(((i+j)/2+1:Nat):Int) by omega,W_nat (by omega)];exact ih _ j (by omega) (by omega) h3 (fun k h hk=>by have:=mono k _ h hm (by omega);omega) h5
   ·rw [iN (by simpa using hc)];exact ih i _ (by omega) (by omega) (by omega) h4 (fun k h hk=>by have:=mono _ k hm h hk;omega)
  ·rw [iN (by simp;omega)];exact⟨i,rfl,by omega,h4,fun k h hk=>h5 k h (by omega)⟩
theorem y9E{xs:LI}{t:Int}(hl:xs.length<4294967296)(hs:Inc xs):yk xs t=some (hasB xs t):=by
 obtain⟨p,hp,hle,hlo,hhi⟩:=ygO (t:=t) hl hs xs.length 0 xs.length (by omega) (by omega) (by omega) (fun k h hk=>absurd hk (by omega)) (fun k h hk=>absurd hk (by omega));have hi:iter (yV xs t) ((xs.length:Int),0)=some (p:Int):=y5Q (by omega) hp;rw [yk,y3j,hi,yOb];by_cases hlt:p<xs.length
 ·rw [iP (by simpa using hlt),yj hlt,yOb];by_cases he:xs[p]=t
  ·rw [iP (by simpa using he)];show some true=_;rw [yK.2 (he▸yGm hlt)]
  ·rw [iN (by simpa using he),yOb,show y3a xs[p]=some false by rw [y3a];simp,yOb,iN (by simp)];show some false=_;rw [y6z.2];intro hm;obtain⟨k,hk,hk2⟩:=List.getElem_of_mem hm;rcases Nat.lt_trichotomy k p with h|h|h
   ·have:=hlo k hk h;omega
   ·subst h;exact he hk2
   ·have:=hhi p hlt (yNr _);have:=yPg.1 hs p k hlt hk h;omega
 ·rw [iN (by simpa using hlt)];show some false=_;rw [y6z.2];intro hm;obtain⟨k,hk,hk2⟩:=List.getElem_of_mem hm;have:=hlo k hk (by omega);omega
theorem y9F{n:Int}:∀{p:Option Int} {xs:LI},xs.Pairwise (· < ·)→(∀x∈xs,0≤x∧x<n)→(∀q,p=some q→∀x∈xs,q<x)→yh n p xs=0
 | _,[],_,_,_=>rfl
 | p,x::xs,h,hr,hp=>by
  obtain⟨h1,h2⟩:=yPc.1 h;have h3:=hr x (yMc ..);rw [yh,iN (by omega),iN ?_]
  ·exact y9F h2 (fun y hy=>hr y (yMm _ hy)) (fun q hq y hy=>by cases hq;exact h1 y hy)
  ·rintro ⟨q,hq,hle⟩;have:=hp q hq x (yMc ..);omega
theorem ycD{al:LI}{n:Int}:∀{p:Option Ed} {es:List Ed},ycB es→(∀x∈es,0≤x.f∧x.f<n∧0≤x.t∧x.t<n∧hasB al x.e=true)→(∀q,p=some q→∀x∈es,edLt q x)→edErr al n p es=0
 | _,[],_,_,_=>rfl
 | p,x::xs,h,hr,hp=>by
  obtain⟨h1,h2⟩:=yPc.1 h;have h3:=hr x (yMc ..);rw [edErr,iN (by omega),iN (by rw [h3.2.2.2.2];simp),iN ?_]
  ·exact ycD h2 (fun y hy=>hr y (yMm _ hy)) (fun q hq y hy=>by cases hq;exact h1 y hy)
  ·rintro ⟨q,hq,hle⟩;have:=hp q hq x (yMc ..);unfold edLt at this;omega
theorem ye2(a:AutT):autP (toAut a)=a:=by
 obtain⟨x,y,z,es⟩:=a;simp only [autP,toAut,List.map_map];rw [show (edP∘toEd)=id from rfl,List.map_id]
structure Right (a:AutT) (n:Nat):Prop where
 nn:a.2.1=(n:Int)
 nl:n≤4096
 ali:Inc a.1
 alr:∀x∈a.1,0≤x∧x<32
 msi:Inc a.2.2.1
 msr:∀x∈a.2.2.1,0≤x∧x<(n:Int)
 es:∀x∈a.2.2.2,0≤x.1∧x.1<(n:Int)∧0≤x.2.2∧x.2.2<(n:Int)∧x.2.1∈a.1
 so:a.2.2.2.Pairwise fun x y=>x.1<y.1∨(x.1=y.1∧x.2.1<y.2.1)
 l1:a.1.length≤1000000
 l2:a.2.2.1.length≤1000000
 l3:a.2.2.2.length≤1000000
namespace Right
variable{a:AutT}{n:Nat}
theorem sorted(h:Right a n):ycB (a.2.2.2.map toEd):=by
 unfold ycB;rw [List.pairwise_map];exact h.so
theorem evs(h:Right a n):EvEs (a.2.2.2.map toEd):=fun x hx=>by
 obtain⟨y,hy,rfl⟩:=List.mem_map.1 hx;exact h.alr _ (h.es y hy).2.2.2.2
theorem err(h:Right a n):(toAut a).err=0:=by
 have h1:yh 32 none (toAut a).al=0:=y9F h.ali h.alr (fun q hq=>by cases hq);have hn:(toAut a).n=n:=h.nn;have h2:yh (toAut a).n none (toAut a).ms=0:=by rw [hn];exact y9F h.msi h.msr (fun q hq=>by cases hq)
 have h3:edErr (toAut a).al (toAut a).n none (toAut a).es=0:=by
  rw [hn];refine ycD h.sorted (fun x hx=>?_) (fun q hq=>by cases hq);obtain⟨y,hy,rfl⟩:=List.mem_map.1 hx;have:=h.es y hy;exact⟨this.1,this.2.1,this.2.2.1,this.2.2.2.1,yK.2 this.2.2.2.2⟩
 have:=h.nl;unfold Aut.err;rw [h1,if_neg (by decide),if_neg (by rw [hn];omega),if_neg (by rw [hn];omega),h2,if_neg (by decide),h3]
theorem check(h:Right a n):y2I a=some 0:=by
 have h1:=h.l1;have h2:=h.l2;have h3:=h.l3;have:=yfB (a:=toAut a) (by simp [toAut];omega) (by simp [toAut];omega) (by simp [toAut];omega);rwa [ye2,h.err] at this
end Right
theorem y5d{α:Type}(a:α)(us:List α):idx (a::us) 0=some a:=rfl
theorem y8x{α:Type}(a:α)(us:List α):slc (a::us) 1 ((a::us).length:Int)=some us:=by
 rw [slc,if_pos ⟨by omega,by simp;omega,by omega⟩];simp
theorem y9Q.snoc{es:List Ed}:∀{k:Nat} {x:Int} {e:Ed},e∈es→y9Q es [e.f] k x→y9Q es [e.t] (k+1) x
 | 0,x,e,he,h=>⟨e,he,(yMs.1 h).symm,yMs.2 rfl⟩
 | k+1,x,e,he,⟨y,hy,h1,h2⟩=>⟨y,hy,h1,h2.snoc he⟩
def dd{α:Type}[DecidableEq α]:List α→List α
 | []=> []
 | [x]=> [x]
 | x::y::l=>if x=y then dd (y::l) else x::dd (y::l)
section
variable{α:Type}[DecidableEq α]
theorem ydy(x y:α):∀l:List α,dd (l++[x,y])=if x=y then dd (l++[x]) else dd (l++[x])++[y]
 | []=>by simp only [List.nil_append,dd];split <;> simp_all
 | [z]=>by
  show dd (z::x::[y])=if x=y then dd [z,x] else dd [z,x]++[y]
  simp only [dd];by_cases h1:z=x <;> by_cases h2:x=y <;> simp [h1,h2]
 | z::w::l=>by
  have ih:=ydy x y (w::l);show dd (z::w::(l++[x,y]))=if x=y then dd (z::w::(l++[x])) else dd (z::w::(l++[x]))++[y]
  have ih:dd (w::(l++[x,y]))=if x=y then dd (w::(l++[x])) else dd (w::(l++[x]))++[y]:=ih
  simp only [dd,ih];by_cases h1:z=w <;> by_cases h2:x=y <;> simp [h1,h2]
theorem ybp{xs:List α}{k:Nat}(h:k+1<xs.length):dd (xs.take (k+2))=if xs[k]=xs[k+1] then dd (xs.take (k+1)) else dd (xs.take (k+1))++[xs[k+1]]:=by
 have h1:xs.take (k+1)=xs.take k++[xs[k]]:=by rw [yTs]
 have h2:xs.take (k+2)=xs.take k++[xs[k],xs[k+1]]:=by rw [yTs h,h1,List.append_assoc];rfl
 rw [h2,h1,ydy]
theorem yfC{xs:List α}(h:0<xs.length):dd (xs.take 1)=xs.take 1:=by
 cases xs with
 | nil=>simp at h
 | cons x l=>rfl
theorem ybq{xs:List α}:∀{k:Nat},k≤xs.length→(∀i (h:i+1<xs.length),i+1<k→xs[i]≠xs[i+1])→dd (xs.take k)=xs.take k
 | 0,_,_=>rfl
 | 1,h,_=>yfC (by omega)
 | k+2,h,hn=>by
  rw [ybp (by omega),if_neg (hn k (by omega) (by omega)),ybq (k:=k+1) (by omega) fun i h1 h2=>hn i h1 (by omega),yTs (i:=k+1) (by omega)]
theorem yaQ :∀{xs:List α} {x:α},x∈dd xs↔x∈xs
 | [],_=>Iff.rfl
 | [_],_=>Iff.rfl
 | y::z::l,x=>by
  have ih:=yaQ (xs:=z::l) (x:=x);unfold dd;split
  ·rename_i e;subst e;rw [ih];simp
  ·rw [List.mem_cons,ih,List.mem_cons (a:=x) (b:=y)]
theorem ycE :∀(xs:List α),(dd xs).length≤xs.length
 | []=>Nat.le_refl _
 | [_]=>Nat.le_refl _
 | y::z::l=>by
  have ih:=ycE (z::l);unfold dd;split
  ·simp only [List.length_cons] at *;omega
  ·simp only [List.length_cons] at *;omega
/-! The loops, for any elements. -/
def cpL2(k:Int)(st:List α×Int×Int):Option ((List α×Int×Int)⊕(List α×Int)):=
 if decide (st.2.1<((st.1.length-k.toNat:Nat):Int))=true then
  (idxV st.1 k.toNat st.2.1).bind fun x=>(idxV st.1 k.toNat (W (st.2.1-1))).bind fun y=>
  if x≠y then(idxV st.1 k.toNat st.2.1).bind fun z=>(idx st.1 st.2.2).bind fun _=>(upd st.1 st.2.2 z).bind fun l=>some (.inl (l,W (st.2.1+1),W (st.2.2+1)))
  else some (.inl (st.1,W (st.2.1+1),st.2.2))
 else some (.inr (st.1,st.2.2))
def cpL1(z0:α)(p0:List α)(st:Int):Option (Int⊕(Unit⊕List α)):=
 if decide (st<(p0.length:Int))=true then
  (idx p0 st).bind fun x=>(idx p0 (W (st-1))).bind fun y=>
  if x=y then(slc p0 st (p0.length:Int)).bind fun _=>(iter (cpL2 st) (p0,1,st)).bind fun o=>(slc o.1 o.2 (o.1.length:Int)).bind fun _=>
   (slc (o.1.take o.2.toNat++List.replicate (o.1.length-o.2.toNat) z0) 0 o.2).bind fun x=>some (.inr (.inr x))
  else some (.inl (W (st+1)))
 else some (.inr (.inl ()))
def cpL(z0:α)(p0:List α):Option (List α):=
 if decide ((p0.length:Int)<2)=true then some p0
 else(iter (cpL1 z0 p0) 1).bind fun o=>match o with
  | .inl _=>some p0
  | .inr u=>some u
end
theorem y9G{α:Type}{xs:List α}{i j:Nat}(h1:i≤j)(h2:j≤xs.length):slc xs (i:Int) (j:Int)=some ((xs.take j).drop i):=by
 unfold slc;rw [if_pos (by omega)];simp
section
variable{α:Type}[DecidableEq α]
omit [DecidableEq α] in
theorem ydz{xs:List α}{k j:Nat}(h:k+j<xs.length):idxV xs k (j:Int)=some xs[k+j]:=by
 unfold idxV;rw [if_pos (by omega),show((k:Nat):Int)+(j:Int)=((k+j:Nat):Int) by omega,yj h]
theorem yfD{xs:List α}(hl:xs.length≤4294967296){k:Nat}(hkn:k<xs.length)(hd:dd (xs.take (k+1))=xs.take k):∃(row:List α) (m:Nat),iter (cpL2 (k:Int)) (xs,1,(k:Int))=some (row,(m:Int))∧row.length=xs.length∧m≤xs.length∧row.take m=dd xs:=by
 obtain⟨o,h1,row,m,rfl,h2,h3,h4⟩:=yf (f:=cpL2 (k:Int))
  (fun j (st:List α×Int×Int)=>∃(row:List α) (m:Nat),st=(row,((j+1:Nat):Int),(m:Int))∧row.length=xs.length∧m≤k+j∧row.take m=dd (xs.take (k+j+1))∧∀i,k+j≤i→row[i]? =xs[i]?)
  (fun o=>∃(row:List α) (m:Nat),o=(row,(m:Int))∧row.length=xs.length∧m≤xs.length∧row.take m=dd xs)
  (xs.length-k-1) 0 (by omega) (fun j st hj ⟨row,m,e,g1,g2,g3,g4⟩=>by
   subst e;have hx:idxV row k (((j+1:Nat):Int))=some xs[k+j+1]:=by
    rw [ydz (by omega)];have:=g4 (k+(j+1)) (by omega);rw [yGe (by omega),yGe (by omega)] at this;rw [Option.some.inj this];rfl
   have hy:idxV row k (W (((j+1:Nat):Int)-1))=some xs[k+j]:=by
    rw [show ((j+1:Nat):Int)-1=(j:Int) by omega,W_nat (by omega),ydz (by omega)];have:=g4 (k+j) (by omega);rw [yGe (by omega),yGe (by omega)] at this;rw [Option.some.inj this]
   have hdd:=ybp (xs:=xs) (k:=k+j) (by omega);refine .inl ?_;unfold cpL2;rw [if_pos (by simp;omega)];simp only [Int.toNat_natCast,hx,hy,yOb];by_cases he:xs[k+j]=xs[k+j+1]
   ·rw [if_neg (by simpa using he.symm)];refine⟨_,rfl,row,m,?_,g1,by omega,?_,fun i hi=>g4 i (by omega)⟩
    ·simp only [nxt (show j+1<4611686018427387904 by omega)]
    ·rw [g3];rw [if_pos he] at hdd;exact hdd.symm
   ·rw [if_pos (fun e=>he e.symm),yj (show m<row.length by omega),yOb];have hu:upd row (m:Int) xs[k+j+1]=some (row.set m xs[k+j+1]):=by unfold upd;rw [if_pos (by omega)];simp
    rw [hu,yOb];refine⟨_,rfl,row.set m xs[k+j+1],m+1,?_,by simpa using g1,by omega,?_,fun i hi=>?_⟩
    ·simp only [nxt (show j+1<4611686018427387904 by omega),nxt (show m<4611686018427387904 by omega)]
    ·rw [if_neg he] at hdd;rw [show k+(j+1)+1=k+j+2 by omega,hdd,←g3,yTs (by simp;omega),List.getElem_set_self];congr 1;rw [List.take_set];exact List.set_eq_of_length_le (by rw [List.length_take];omega)
    ·rw [List.getElem?_set_ne (by omega)];exact g4 i (by omega))
  (fun st ⟨row,m,e,g1,g2,g3,_⟩=>by
   subst e;refine⟨_,?_,row,m,rfl,g1,by omega,?_⟩
   ·unfold cpL2;rw [if_neg (by simp;omega)]
   ·rw [g3,show k+(xs.length-k-1)+1=xs.length by omega,List.take_length])
  (by omega) (xs,1,(k:Int)) ⟨xs,k,rfl,rfl,by omega,hd.symm,fun _ _=>rfl⟩
 exact⟨row,m,h1,h2,h3,h4⟩
theorem cp_eq(z0:α){xs:List α}(hl:xs.length≤4294967296):cpL z0 xs=some (dd xs):=by
 unfold cpL;by_cases h2:xs.length<2
 ·rw [if_pos (by simp;omega)]
  match xs,h2 with
  | [],_=>rfl
  | [_],_=>rfl
 rw [if_neg (by simp;omega)];obtain⟨o,h1,ho⟩:=yf (f:=cpL1 z0 xs)
  (fun j (st:Int)=>st=((j+1:Nat):Int)∧∀i (h:i+1<xs.length),i+1<j+1→xs[i]≠xs[i+1])
  (fun o=>o= .inl ()∧dd xs=xs∨o= .inr (dd xs)) (xs.length-1) 0 (by omega) (fun j st hj ⟨e,hn⟩=>by
   subst e;have hx:idx xs (((j+1:Nat):Int))=some xs[j+1]:=yj (by omega);have hy:idx xs (W (((j+1:Nat):Int)-1))=some xs[j]:=by rw [show ((j+1:Nat):Int)-1=(j:Int) by omega,W_nat (by omega),yj (by omega)]
   unfold cpL1;rw [if_pos (by simp;omega),hx,hy];simp only [yOb];by_cases he:xs[j+1]=xs[j]
   ·right;have hd:dd (xs.take (j+1+1))=xs.take (j+1):=by
     rw [ybp (by omega),if_pos he.symm];exact ybq (by omega) fun i h h'=>hn i h (by omega)
    obtain⟨row,m,k1,k2,k3,k4⟩:=yfD hl (k:=j+1) (by omega) hd;have hs1:slc xs (((j+1:Nat):Int)) (xs.length:Int)=some ((xs.take xs.length).drop (j+1)):=y9G (by omega) (Nat.le_refl _);have hs2:slc row (m:Int) (row.length:Int)=some ((row.take row.length).drop m):=y9G (by omega) (Nat.le_refl _);have hs3:slc (row.take m++List.replicate (row.length-m) z0) ((0:Nat):Int) (m:Int)=some (((row.take m++List.replicate (row.length-m) z0).take m).drop 0):=y9G (by omega) (by simp;omega);rw [if_pos he,hs1,yOb,k1,yOb];simp only [Int.toNat_natCast];rw [hs2,yOb];have hs3':=hs3;simp only [Int.natCast_zero] at hs3';rw [hs3',yOb];refine⟨_,rfl,.inr ?_⟩;rw [List.drop_zero,List.take_append_of_le_length (by simp;omega),List.take_of_length_le (by simp;omega),k4]
   ·left;rw [if_neg he];refine⟨_,rfl,?_,fun i h h'=>?_⟩
    ·rw [nxt (by omega)]
    ·by_cases hij:i=j
     ·subst hij;exact fun e=>he e.symm
     ·exact hn i h (by omega))
  (fun st ⟨e,hn⟩=>by
   subst e;refine⟨.inl (),?_,.inl ⟨rfl,?_⟩⟩
   ·unfold cpL1;rw [if_neg (by simp;omega)]
   ·have:=ybq (xs:=xs) (k:=xs.length) (Nat.le_refl _) fun i h h'=>hn i h (by omega);rwa [List.take_length] at this)
  (by omega) 1 ⟨rfl,fun i h h'=>by omega⟩
 rw [h1,yOb];rcases ho with ⟨rfl,hd⟩|rfl
 ·show some xs=_;rw [hd]
 ·rfl
end
theorem y8d{xs:List Int}(hl:xs.length≤4294967296):y1V xs=some (dd xs):=by
 rw [←cp_eq (0:Int) hl];have h2:∀k,y3J k=cpL2 k:=fun k=>funext fun st=>by
  unfold y3J cpL2 y2L;simp only [bne_iff_ne,ne_eq]
 have h1:y3K xs=cpL1 0 xs:=funext fun st=>by
  unfold y3K cpL1;simp only [h2,beq_iff_eq]
 unfold y1V cpL;rw [h1];split
 ·rfl
 ·congr 1;funext o;cases o <;> rfl
theorem y9R(a b:Int):yo a b=some (if a<b then -1 else if a>b then 1 else 0):=by
 have hn:∀x,y1F x=some false:=fun x=>by rw [y1F];simp
 rw [yo,hn,yOb,hn,yOb,if_neg (by simp),if_neg (by simp)];by_cases h1:a<b
 ·rw [if_pos (by simpa using h1),if_pos h1]
 ·rw [if_neg (by simpa using h1),if_neg h1];by_cases h2:a>b
  ·rw [if_pos (by simpa using h2),if_pos h2]
  ·rw [if_neg (by simpa using h2),if_neg h2]
def cmpG :List Int→List Int→Int
 | [],[]=>0
 | [],_::_=> -1
 | _::_,[]=>1
 | a::u,b::v=>if a<b then -1 else if a>b then 1 else cmpG u v
theorem ygl{u v:List Int}(hb:u.length≤4294967296)(hv:v.length≤4294967296):y2B u v=some (cmpG u v):=by
 obtain⟨o,h1,h2⟩:=yf (f:=y2O u v) (fun i s=>s=(i:Int)∧i≤v.length∧cmpG u v=cmpG (u.drop i) (v.drop i)) (fun o=>(match o with
   | .inl _=>(if decide ((u.length:Int)<(v.length:Int))=true then -1 else 0)
   | .inr r=>r)=cmpG u v) u.length 0 (by omega) (fun i s hi ⟨e1,g0,g1⟩=>by
   subst e1;rw [y2O,if_pos (ct_lt hi),yj hi,yOb];by_cases hi2:v.length≤i
   ·rw [if_pos (by simp;omega)];refine .inr ⟨_,rfl,?_⟩;rw [List.drop_eq_getElem_cons hi,List.drop_of_length_le hi2] at g1;exact g1.symm
   have hi2:i<v.length:=by omega
   rw [List.drop_eq_getElem_cons hi,List.drop_eq_getElem_cons hi2,cmpG] at g1;rw [if_neg (by simp;omega),yj hi2,yOb,y9R,yOb];by_cases h1:u[i]<v[i]
   ·rw [if_pos h1] at g1 ⊢;rw [if_pos (by rfl)];exact .inr ⟨_,rfl,g1.symm⟩
   ·rw [if_neg h1] at g1 ⊢;by_cases h2:u[i]>v[i]
    ·rw [if_pos h2] at g1 ⊢;rw [if_pos (by rfl)];exact .inr ⟨_,rfl,g1.symm⟩
    ·rw [if_neg h2] at g1 ⊢;rw [if_neg (by simp)];exact .inl ⟨_,rfl,nxt (by omega),by omega,g1⟩)
  (fun s ⟨e1,g0,g1⟩=>by
   subst e1;rw [y2O,if_neg ct_ge];refine⟨_,rfl,?_⟩;rw [g1,List.drop_length];by_cases hl:u.length<v.length
   ·rw [List.drop_eq_getElem_cons hl];simp [hl,cmpG]
   ·rw [List.drop_of_length_le (by omega)];simp [hl,cmpG]) (by omega) 0 ⟨rfl,by omega,rfl⟩
 rw [y2B,h1,yOb];cases o with
 | inl _=>
  dsimp only at h2 ⊢;rw [←h2];split <;> rfl
 | inr r=>exact congrArg some h2
def y5R(l:List Int):Int:=(l.find? fun x=>x != 0).getD 0
theorem or_eq{l:List Int}(hb:l.length≤4294967296):y4b l=some (y5R l):=by
 obtain⟨o,h1,h2⟩:=yf (f:=y4v l) (fun i s=>s=(i:Int)∧y5R l=y5R (l.drop i)) (fun o=>(match o with
   | .inl _=>0
   | .inr r=>r)=y5R l) l.length 0 (by omega) (fun i s hi ⟨e1,g1⟩=>by
   subst e1;rw [y4v,if_pos (ct_lt hi),yj hi,yOb];rw [List.drop_eq_getElem_cons hi] at g1;unfold y5R at g1 ⊢;rw [List.find?_cons] at g1;cases hx:l[i] != 0 with
   | true=>
    rw [hx] at g1;rw [if_pos rfl];exact .inr ⟨_,rfl,g1.symm⟩
   | false=>
    rw [hx] at g1;rw [if_neg (by simp)];exact .inl ⟨_,rfl,nxt (by omega),g1⟩)
  (fun s ⟨e1,g1⟩=>by
   subst e1;rw [y4v,if_neg ct_ge];refine⟨_,rfl,?_⟩;rw [g1,List.drop_length];rfl) (by omega) 0 ⟨rfl,rfl⟩
 rw [y4b,h1,yOb];cases o with
 | inl _=>exact congrArg some h2
 | inr r=>exact congrArg some h2
theorem ygm{α:Type}[DecidableEq α]{f:α→α→Option Int}{xs:List α}(lt:α→α→Prop)(hf:∀x∈xs,∀y∈xs,∃z,f x y=some z∧(z<0↔lt x y))(ha:∀x∈xs,∀y∈xs,lt x y→¬lt y x)(he:∀x∈xs,∀y∈xs,¬lt x y→¬lt y x→x=y)(ht:∀x∈xs,∀y∈xs,∀z∈xs,¬lt x y→¬lt y z→¬lt x z):cmpB f xs=true:=by
 have hl:∀x∈xs,∀y∈xs,(ltf f x y=true↔lt x y):=fun x hx y hy=>by
  obtain⟨z,h1,h2⟩:=hf x hx y hy;unfold ltf;rw [h1];simpa using h2
 unfold cmpB;rw [yAt];intro x hx;rw [yAt];intro y hy;obtain⟨z,h1,_⟩:=hf x hx y hy;have hn:∀x∈xs,∀y∈xs,(ltf f x y=false↔ ¬lt x y):=fun x hx y hy=>by rw [←hl x hx y hy];simp
 simp only [Bool.and_eq_true];refine⟨⟨⟨by rw [h1];rfl,?_⟩,?_⟩,?_⟩
 ·cases g1:ltf f x y with
  | false=>rfl
  | true=>
   have:=ha x hx y hy ((hl x hx y hy).1 g1);rw [(hn y hy x hx).2 this];rfl
 ·cases g1:ltf f x y with
  | true=>rfl
  | false=>
   cases g2:ltf f y x with
   | true=>rfl
   | false=>simp [he x hx y hy ((hn x hx y hy).1 g1) ((hn y hy x hx).1 g2)]
 ·rw [yAt];intro w hw;cases g1:ltf f x y with
  | true=>simp
  | false=>
   cases g2:ltf f y w with
   | true=>simp
   | false=>simp [(hn x hx w hw).2 (ht x hx y hy w hw ((hn x hx y hy).1 g1) ((hn y hy w hw).1 g2))]
/-! Pairs. -/
abbrev E3 :=Int×Int×Int
abbrev NdT :=List Int×Int×List Int×List Int×List E3
def ltE3(x y:E3):Prop:=x.1<y.1∨x.1=y.1∧(x.2.1<y.2.1∨x.2.1=y.2.1∧x.2.2<y.2.2)
instance (x y:E3):Decidable (ltE3 x y):=by unfold ltE3;infer_instance
theorem y9c(x y:E3):∃z,yd x y=some z∧(z<0↔ltE3 x y)∧(z≥0↔ ¬ltE3 x y):=by
 refine⟨y5R [if x.1<y.1 then -1 else if x.1>y.1 then 1 else 0,if x.2.1<y.2.1 then -1 else if x.2.1>y.2.1 then 1 else 0,if x.2.2<y.2.2 then -1 else if x.2.2>y.2.2 then 1 else 0],?_,?_⟩
 ·rw [yd,y9R,yOb,y9R,yOb,y9R,yOb,or_eq (by simp)];rfl
 ·have h:∀z:Int,(z<0↔ltE3 x y)→(z<0↔ltE3 x y)∧(z≥0↔ ¬ltE3 x y):=fun z hz=>⟨hz,by rw [←hz];omega⟩;apply h;unfold ltE3 y5R;by_cases h1:x.1<y.1
  ·simp [h1]
  by_cases h2:x.1>y.1
  ·simp [h1,h2];omega
  have e1:x.1=y.1:=by omega
  by_cases h3:x.2.1<y.2.1
  ·simp [e1,h3]
  by_cases h4:x.2.1>y.2.1
  ·simp [e1,h3,h4];omega
  have e2:x.2.1=y.2.1:=by omega
  by_cases h5:x.2.2<y.2.2
  ·simp [e1,e2,h5]
  by_cases h6:x.2.2>y.2.2
  ·simp [e1,e2,h5,h6]
  ·simp [e1,e2,h5,h6]
theorem absC :y3w=yd:=rfl
structure NdOk (a:NdT):Prop where
 al:a.1.Pairwise (· < ·)
 alr:∀x∈a.1,0≤x∧x<32
 n0:0≤a.2.1
 n1:a.2.1≤4096
 ini:a.2.2.1.Pairwise (· < ·)
 inr:∀x∈a.2.2.1,0≤x∧x<a.2.1
 mks:a.2.2.2.1.Pairwise (· < ·)
 mkr:∀x∈a.2.2.2.1,0≤x∧x<a.2.1
 es:a.2.2.2.2.Pairwise ltE3
 esr:∀x∈a.2.2.2.2,0≤x.1∧x.1<a.2.1∧0≤x.2.2∧x.2.2<a.2.1∧(x.2.1= -1∨x.2.1∈a.1)
 la:a.1.length≤1000000
 li:a.2.2.1.length≤1000000
 lm:a.2.2.2.1.length≤1000000
 le:a.2.2.2.2.length≤65536
def tgtL(es:List E3)(s e:Int):List Int:=(es.filter fun x=>x.1==s&&x.2.1==e).map (·.2.2)
theorem yaR{x y z:E3}(h1:ltE3 x y)(h2:ltE3 y z):ltE3 x z:=by unfold ltE3 at *;omega
theorem ygP{xs:List E3}{t:E3}(hl:xs.length<4294967296)(hs:xs.Pairwise ltE3):∀(f i j:Nat),j≤i+f→i≤j→j≤xs.length→(∀k (h:k<xs.length),k<i→ltE3 xs[k] t)→(∀k (h:k<xs.length),j≤k→¬ltE3 xs[k] t)→
  ∃p:Nat,iterF (ye xs t yd) (f+1) ((j:Int),(i:Int))=some (p:Int)∧p≤xs.length∧(∀k (h:k<xs.length),k<p→ltE3 xs[k] t)∧(∀k (h:k<xs.length),p≤k→¬ltE3 xs[k] t):=by
 intro f
 induction f with
 | zero=>
  intro i j h1 h2 h3 h4 h5;refine⟨i,?_,by omega,h4,fun k h hk=>h5 k h (by omega)⟩;rw [yE,ye,if_neg (by simp;omega)]
 | succ f ih=>
  intro i j h1 h2 h3 h4 h5;rw [yE,ye];dsimp only;by_cases hij:i<j
  ·have hm:(i+j)/2<xs.length:=by omega
   obtain⟨z,hz1,hz2,_⟩:=y9c xs[(i+j)/2] t;rw [if_pos (by simp;omega),ydx (by omega),yj hm,yOb,hz1,yOb];have mono:∀(a b:Nat) (ha:a<xs.length) (hb:b<xs.length),a≤b→xs[a]=xs[b]∨ltE3 xs[a] xs[b]:=fun a b ha hb hab=>by
    rcases Nat.lt_or_ge a b with h|h
    ·exact .inr (List.pairwise_iff_getElem.1 hs a b ha hb h)
    ·have:a=b:=by omega
     subst this;exact .inl rfl
   by_cases hc:z<0
   ·rw [if_pos (decide_eq_true hc),show(((i+j)/2:Nat):Int)+1=(((i+j)/2+1:Nat):Int) by omega,W_nat (by omega)];refine ih _ j (by omega) (by omega) h3 (fun k h hk=>?_) h5;rcases mono k _ h hm (by omega) with he|he
    ·rw [he];exact hz2.1 hc
    ·exact yaR he (hz2.1 hc)
   ·rw [if_neg (by simpa using hc)];refine ih i _ (by omega) (by omega) (by omega) h4 (fun k h hk hlt=>?_);rcases mono _ k hm h hk with he|he
    ·rw [←he] at hlt;exact hc (hz2.2 hlt)
    ·exact hc (hz2.2 (yaR he hlt))
  ·rw [if_neg (by simp;omega)];exact⟨i,rfl,by omega,h4,fun k h hk=>h5 k h (by omega)⟩
theorem ygQ{xs:List E3}{t:E3}(hl:xs.length<4294967296)(hs:xs.Pairwise ltE3):∃(p:Nat) (b:Bool),yg xs t yd=some ((p:Int),b)∧p≤xs.length∧(∀x∈xs.take p,ltE3 x t)∧(∀x∈xs.drop p,¬ltE3 x t):=by
 obtain⟨p,hp,hle,hlo,hhi⟩:=ygP (t:=t) hl hs xs.length 0 xs.length (by omega) (by omega) (by omega) (fun k h hk=>absurd hk (by omega)) (fun k h hk=>absurd hk (by omega));have hi:iter (ye xs t yd) ((xs.length:Int),0)=some (p:Int):=y5Q (by omega) hp;have h2:(∀x∈xs.take p,ltE3 x t)∧∀x∈xs.drop p,¬ltE3 x t:=by
  refine⟨fun x hx=>?_,fun x hx=>?_⟩
  ·obtain ⟨k,hk,rfl⟩:=List.mem_iff_getElem.1 hx;rw [List.length_take] at hk;rw [List.getElem_take];exact hlo k (by omega) (by omega)
  ·obtain ⟨k,hk,rfl⟩:=List.mem_iff_getElem.1 hx;rw [List.length_drop] at hk;rw [List.getElem_drop];exact hhi _ (by omega) (by omega)
 rw [yg,hi,yOb];by_cases hlt:p<xs.length
 ·obtain ⟨z,hz,_⟩:=y9c xs[p] t;rw [if_pos (by simpa using hlt),yj hlt,yOb,hz,yOb];exact⟨p,_,rfl,hle,h2⟩
 ·rw [if_neg (by simpa using hlt)];exact⟨p,_,rfl,hle,h2⟩
theorem ybP{s e:Int}:∀{l:List E3},l.Pairwise ltE3→(∀x∈l,¬ltE3 x (s,e,-1))→l.takeWhile (fun x=>x.1==s&&x.2.1==e)=l.filter fun x=>x.1==s&&x.2.1==e
 | [],_,_=>rfl
 | x::l,hs,hl=>by
  have hs':=List.pairwise_cons.1 hs;cases hx:x.1==s&&x.2.1==e with
  | true=>
   rw [List.takeWhile_cons,List.filter_cons];simp only [hx,if_true];rw [ybP hs'.2 fun y hy=>hl y (.tail _ hy)]
  | false=>
   rw [List.takeWhile_cons,List.filter_cons];simp only [hx,Bool.false_eq_true,if_false];symm;rw [List.filter_eq_nil_iff];intro y hy hm;have h1:=hs'.1 y hy;have h2:=hl x (.head _);simp only [Bool.and_eq_true,beq_iff_eq,Bool.and_eq_false_iff,beq_eq_false_iff_ne,ne_eq] at hx hm;unfold ltE3 at h1 h2;dsimp only at h2;omega
theorem yd7{s e:Int}{l:List E3}(h0:∀x∈l,0≤x.2.2)(hl:∀x∈l,ltE3 x (s,e,-1)):l.filter (fun x=>x.1==s&&x.2.1==e)= []:=by
 rw [List.filter_eq_nil_iff];intro y hy hm;have h1:=hl y hy;have h2:=h0 y hy;simp only [Bool.and_eq_true,beq_iff_eq] at hm;unfold ltE3 at h1;dsimp only at h1;omega
theorem yeQ{es:List E3}{s e:Int}{p:Nat}(hs:es.Pairwise ltE3)(h0:∀x∈es,0≤x.2.2)(h1:∀x∈es.take p,ltE3 x (s,e,-1))(h2:∀x∈es.drop p,¬ltE3 x (s,e,-1)):tgtL es s e=((es.drop p).takeWhile fun x=>x.1==s&&x.2.1==e).map (·.2.2):=by
 unfold tgtL;rw [ybP (hs.sublist (List.drop_sublist _ _)) h2]
 conv=>lhs;rw [←List.take_append_drop p es,List.filter_append,yd7 (fun x hx=>h0 x ((List.take_sublist _ _).subset hx)) h1,List.nil_append]
theorem ycF{α:Type}{l:List α}{f:α→Bool}{p:Nat}(h:p<l.length):(l.drop p).takeWhile f=if f l[p]=true then l[p]::(l.drop (p+1)).takeWhile f else []:=by
 rw [List.drop_eq_getElem_cons h,List.takeWhile_cons]
theorem y2G{α:Type}{xs ys:List α}(h:xs.length+ys.length≤4294967296):app xs ys=some (xs++ys):=by unfold app;rw [if_pos h]
theorem ycG(es:List E3)(s e:Int):(tgtL es s e).length≤es.length:=by
 unfold tgtL;rw [List.length_map];exact List.length_filter_le _ _
theorem yeR{a:NdT}(ha:NdOk a)(s e:Int):y2R a s e=some (if e≠ -1∧hasB a.1 e=false then [s] else tgtL a.2.2.2.2 s e):=by
 have hle:=ha.le;have hla:=ha.la;have hloop:iter (y1j a s e) (0,([]:List Int))=some (tgtL a.2.2.2.2 s e):=by
  obtain⟨o,ho,he⟩:=yf (f:=y1j a s e) (fun j (st:Int×List Int)=>st=((j:Int),tgtL (a.2.2.2.2.take j) s e)) (fun o=>o=tgtL a.2.2.2.2 s e) a.2.2.2.2.length 0 (by omega) (fun j st hj e1=>by
    subst e1;refine .inl ⟨_,?_,rfl⟩;have ht:tgtL (a.2.2.2.2.take (j+1)) s e=if(a.2.2.2.2[j].1==s&&a.2.2.2.2[j].2.1==e)=true then tgtL (a.2.2.2.2.take j) s e++[a.2.2.2.2[j].2.2] else tgtL (a.2.2.2.2.take j) s e:=by
     unfold tgtL;rw [yTs hj,List.filter_append,List.map_append];split
     ·rename_i h;rw [List.filter_cons];simp [h]
     ·rename_i h;rw [List.filter_cons];simp [h]
    have hlen:=ycG (a.2.2.2.2.take j) s e;rw [List.length_take] at hlen;unfold y1j;simp only [ct_lt hj,if_true,yj hj,yOb];rw [ht];split
    ·rename_i h;rw [y2G (by simp;omega),yOb,y1i];simp only [nxt (show j<4611686018427387904 by omega)]
    ·rw [y1i];simp only [nxt (show j<4611686018427387904 by omega)])
   (fun st e1=>by
    subst e1;refine⟨_,?_,rfl⟩;unfold y1j;simp) (by omega) (0,([]:List Int)) rfl
  rw [ho,he]
 rw [y2R];by_cases h1:e= -1
 ·subst h1;simp [hloop]
 ·rw [if_pos (by simpa using h1),y5V (by omega),yOb,yOb];cases h2:hasB a.1 e with
  | true=>simp [hloop]
  | false=>simp [h1]
theorem y9H{β γ:Type}{xs:List β}(f:Int×List γ→Option ((Int×List γ)⊕List γ))(h:β→γ)(out:List γ)(hl:xs.length+out.length≤4294967296)
  (step:∀j (hj:j<xs.length) (o:List γ),f ((j:Int),o)=(app o [h xs[j]]).bind fun x=>some (.inl (W ((j:Int)+1),x))) (last:∀o:List γ,f ((xs.length:Int),o)=some (.inr o)):iter f (0,out)=some (out++xs.map h):=by
 obtain⟨o,ho,he⟩:=yf (f:=f) (fun j (st:Int×List γ)=>st=((j:Int),out++(xs.take j).map h)) (fun o=>o=out++xs.map h) xs.length 0 (by omega) (fun j st hj e1=>by
   subst e1;refine .inl ⟨_,?_,rfl⟩;rw [step j hj,y2G (by simp;omega),yOb,nxt (by omega),yTs hj,List.map_append,List.append_assoc];rfl)
  (fun st e1=>by
   subst e1;exact⟨_,last _,by rw [List.take_length]⟩) (by omega) (0,out) (by simp)
 rw [ho,he]
theorem y9I{β γ:Type}{xs:List β}(f:Int×List γ→Option ((Int×List γ)⊕List γ))(h:β→List γ)(out:List γ)(hx:xs.length≤4294967296)(hl:(xs.flatMap h).length+out.length≤4294967296)
  (step:∀j (hj:j<xs.length) (o:List γ),(h xs[j]).length+o.length≤4294967296→f ((j:Int),o)=some (.inl (((j+1:Nat):Int),o++h xs[j]))) (last:∀o:List γ,f ((xs.length:Int),o)=some (.inr o)):iter f (0,out)=some (out++xs.flatMap h):=by
 obtain⟨o,ho,he⟩:=yf (f:=f) (fun j (st:Int×List γ)=>st=((j:Int),out++(xs.take j).flatMap h)) (fun o=>o=out++xs.flatMap h) xs.length 0 (by omega) (fun j st hj e1=>by
   subst e1;have h2:(xs.take (j+1)).flatMap h=(xs.take j).flatMap h++h xs[j]:=by rw [yTs hj,List.flatMap_append];simp
   have h3:((xs.take (j+1)).flatMap h).length≤(xs.flatMap h).length:=by
    conv=>rhs;rw [←List.take_append_drop (j+1) xs,List.flatMap_append,List.length_append]
    omega
   rw [h2,List.length_append] at h3;refine .inl ⟨_,step j hj _ (by simp only [List.length_append];omega),?_⟩;rw [h2,List.append_assoc])
  (fun st e1=>by
   subst e1;exact⟨_,last _,by rw [List.take_length]⟩) (by omega) (0,out) (by simp)
 rw [ho,he]
/-! The numbers of pairs. -/
theorem ycH{κ:Type}[BEq κ][LawfulBEq κ]{ks:List κ}{k:κ}(h:k∉ks):kidx ks k=ks.length:=by
 unfold kidx;rw [List.findIdx_eq_length];intro x hx;cases he:k==x with
 | false=>rfl
 | true=>exact absurd ((eq_of_beq he)▸hx) h
theorem yap{xs:List Int}(h:xs.length≤4294967296):yG xs=some (isL xs):=by
 unfold yG;rw [if_pos h]
theorem y9J{α:Type}[DecidableEq α]{lt:α→α→Prop}(he:∀x y,¬lt x y→¬lt y x→x=y):∀{l:List α},l.Pairwise (fun a b=>¬lt b a)→(dd l).Pairwise lt
 | [],_=> .nil
 | [_],_=>List.pairwise_singleton _ _
 | x::y::l,h=>by
  have h1:=List.pairwise_cons.1 h;have ih:=y9J he (l:=y::l) h1.2;unfold dd;split
  ·exact ih
  ·rename_i hxy;refine List.Pairwise.cons (fun z hz=>?_) ih;have hz:=yaQ.1 hz;refine Classical.byContradiction fun hn=>?_;have hxz:x=z:=he _ _ hn (h1.1 z hz);subst hxz;rcases List.mem_cons.1 hz with e|hz
   ·exact hxy e
   ·exact hxy (he _ _ ((List.pairwise_cons.1 h1.2).1 x hz) (h1.1 y (.head _)))
theorem y4o{es:List E3}{s e t:Int}:t∈tgtL es s e↔(s,e,t)∈es:=by
 unfold tgtL;simp only [List.mem_map,List.mem_filter,Bool.and_eq_true,beq_iff_eq];constructor
 ·rintro ⟨⟨f,v,t⟩,⟨h1,rfl,rfl⟩,rfl⟩;exact h1
 ·intro h;exact⟨_,⟨h,rfl,rfl⟩,rfl⟩
theorem ybQ{xs ys:List Int}(h:xs.length+ys.length≤1000000):y2t xs ys=some (dd (isL (xs++ys))):=by
 rw [y2t,yi,y2G (by simp;omega),yOb,yOb,List.nil_append,y2G (by omega),yOb,yap (by simp;omega),yOb,y8d (by rw [(y4j _).length_eq];simp;omega),yOb]
theorem y7O(xs:List Int):(dd (isL xs)).Pairwise (· < ·):=y9J (lt:=fun a b:Int=>a<b) (fun x y h1 h2=>by omega) ((ycr xs).imp fun h=>by omega)
theorem y7P{xs:List Int}{x:Int}:x∈dd (isL xs)↔x∈xs:=by rw [yaQ,(y4j xs).mem_iff]
def mg(kp:Bool→Bool→Bool):List Int→List Int→List Int
 | [],[]=> []
 | [],b::vs=>if kp false true=true then b::mg kp [] vs else mg kp [] vs
 | a::us,[]=>if kp true false=true then a::mg kp us [] else mg kp us []
 | a::us,b::vs=>if a<b then(if kp true false=true then a::mg kp us (b::vs) else mg kp us (b::vs)) else if b<a then(if kp false true=true then b::mg kp (a::us) vs else mg kp (a::us) vs) else(if kp true true=true then b::mg kp us vs else mg kp us vs)
termination_by us vs=>us.length+vs.length
theorem y8y{kp:Bool→Bool→Bool}{h:Int}{us vs us' vs' r:List Int}{bu bv:Bool}(hr:Inc r∧∀x,x∈r↔((x∈us'∨x∈vs')∧kp (hasB us' x) (hasB vs' x)=true))
  (hu:∀x,x∈us↔(x=h∧bu=true)∨x∈us') (hv:∀x,x∈vs↔(x=h∧bv=true)∨x∈vs') (gu:∀x∈us',h<x) (gv:∀x∈vs',h<x) (hb:bu=true∨bv=true):
  Inc (if kp bu bv=true then h::r else r)∧∀x,x∈(if kp bu bv=true then h::r else r)↔((x∈us∨x∈vs)∧kp (hasB us x) (hasB vs x)=true):=by
 have e1:hasB us h=bu:=by
  rw [Bool.eq_iff_iff,yK,hu];exact⟨fun e=>e.elim (fun e=>e.2) (fun e=>by have:=gu _ e;omega),fun e=> .inl ⟨rfl,e⟩⟩
 have e2:hasB vs h=bv:=by
  rw [Bool.eq_iff_iff,yK,hv];exact⟨fun e=>e.elim (fun e=>e.2) (fun e=>by have:=gv _ e;omega),fun e=> .inl ⟨rfl,e⟩⟩
 have e3:∀x,x≠h→hasB us x=hasB us' x:=fun x hx=>by
  rw [Bool.eq_iff_iff,yK,yK,hu];exact⟨fun e=>e.elim (fun e=>absurd e.1 hx) id,.inr⟩
 have e4:∀x,x≠h→hasB vs x=hasB vs' x:=fun x hx=>by
  rw [Bool.eq_iff_iff,yK,yK,hv];exact⟨fun e=>e.elim (fun e=>absurd e.1 hx) id,.inr⟩
 have hgt:∀x∈r,h<x:=fun x hx=>((hr.2 x).1 hx).1.elim (gu x) (gv x);have hne:∀x,x≠h→(x∈r↔((x∈us∨x∈vs)∧kp (hasB us x) (hasB vs x)=true)):=fun x hx=>by
  rw [hr.2 x,e3 x hx,e4 x hx,hu,hv];constructor
  ·rintro ⟨h1|h1,h2⟩
   ·exact ⟨.inl (.inr h1),h2⟩
   ·exact ⟨.inr (.inr h1),h2⟩
  ·rintro ⟨(h1|h1)|(h1|h1),h2⟩
   ·exact absurd h1.1 hx
   ·exact ⟨.inl h1,h2⟩
   ·exact absurd h1.1 hx
   ·exact ⟨.inr h1,h2⟩
 have hh:(h∈us∨h∈vs):=hb.elim (fun e=> .inl ((hu h).2 (.inl ⟨rfl,e⟩))) (fun e=> .inr ((hv h).2 (.inl ⟨rfl,e⟩)));cases hk:kp bu bv with
 | true=>
  rw [if_pos rfl];refine⟨List.pairwise_cons.2 ⟨hgt,hr.1⟩,fun x=>?_⟩;rw [List.mem_cons];by_cases hx:x=h
  ·subst hx;exact⟨fun _=>⟨hh,by rw [e1,e2,hk]⟩,fun _=> .inl rfl⟩
  ·rw [←hne x hx];exact⟨fun e=>e.resolve_left hx,.inr⟩
 | false=>
  rw [if_neg (by simp)];refine⟨hr.1,fun x=>?_⟩;by_cases hx:x=h
  ·subst hx;refine⟨fun e=>absurd (hgt x e) (by omega),fun e=>?_⟩;rw [e1,e2,hk] at e;cases e.2
  ·exact hne x hx
theorem y6O(kp:Bool→Bool→Bool):∀(us vs:List Int),Inc us→Inc vs→Inc (mg kp us vs)∧∀x,x∈mg kp us vs↔((x∈us∨x∈vs)∧kp (hasB us x) (hasB vs x)=true)
 | [],[],_,_=>by
  rw [mg];exact⟨List.Pairwise.nil,fun x=>⟨fun h=>(by cases h),fun h=>(by rcases h.1 with h|h <;> cases h)⟩⟩
 | [],b::vs,_,hv=>by
  obtain⟨v1,v2⟩:=List.pairwise_cons.1 hv;rw [mg];exact y8y (bu:=false) (bv:=true) (y6O kp [] vs List.Pairwise.nil v2) (fun x=>by simp) (fun x=>by simp) (fun x hx=>by cases hx) v1 (.inr rfl)
 | a::us,[],hu,_=>by
  obtain⟨u1,u2⟩:=List.pairwise_cons.1 hu;rw [mg];exact y8y (bu:=true) (bv:=false) (y6O kp us [] u2 List.Pairwise.nil) (fun x=>by simp) (fun x=>by simp) u1 (fun x hx=>by cases hx) (.inl rfl)
 | a::us,b::vs,hu,hv=>by
  obtain⟨u1,u2⟩:=List.pairwise_cons.1 hu;obtain⟨v1,v2⟩:=List.pairwise_cons.1 hv;rw [mg];by_cases h1:a<b
  ·rw [if_pos h1];refine y8y (bu:=true) (bv:=false) (y6O kp us (b::vs) u2 hv) (fun x=>by simp) (fun x=>by simp) u1 (fun x hx=>?_) (.inl rfl);rcases List.mem_cons.1 hx with rfl|hx
   ·exact h1
   ·have:=v1 x hx;omega
  ·rw [if_neg h1];by_cases h2:b<a
   ·rw [if_pos h2];refine y8y (bu:=false) (bv:=true) (y6O kp (a::us) vs hu v2) (fun x=>by simp) (fun x=>by simp) (fun x hx=>?_) v1 (.inr rfl);rcases List.mem_cons.1 hx with rfl|hx
    ·exact h2
    ·have:=u1 x hx;omega
   ·obtain rfl:a=b:=by omega
    rw [if_neg h2];exact y8y (bu:=true) (bv:=true) (y6O kp us vs u2 v2) (fun x=>by simp) (fun x=>by simp) u1 v1 (.inl rfl)
termination_by us vs=>us.length+vs.length
theorem ye3{kp:Bool→Bool→Bool}{f:Bool→Bool→Option Bool}(hf:∀a b,f a b=some (kp a b)){out us vs:List Int}(hl:out.length≤4000000)(hne:0<us.length+vs.length):
  ∃o u v,y1A f (out,us,vs)=some (.inl (o,u,v))∧o++mg kp u v=out++mg kp us vs∧o.length≤out.length+1∧u.length+v.length+1≤us.length+vs.length:=by
 have ho:∀a:Int,app out ([a]:List Int)=some (out++[a]):=fun a=>ye8 (by simp;omega);have fin:∀(bu bv:Bool) (h:Int) (u v:List Int),∃o,y2S f (out,us,vs) bu bv u v h=some (.inl (o,u,v))∧o++mg kp u v=out++(if kp bu bv=true then h::mg kp u v else mg kp u v)∧o.length≤out.length+1:=fun bu bv h u v=>by
  rw [y2S,hf,yOb];dsimp only;cases kp bu bv with
  | true=>rw [if_pos rfl,ho,yOb];exact⟨_,rfl,by simp,by simp⟩
  | false=>rw [if_neg (by simp)];exact⟨_,rfl,by simp,by omega⟩
 cases us with
 | nil=>
  cases vs with
  | nil=>simp at hne
  | cons b vs=>
   obtain⟨o,h1,h2,h3⟩:=fin false true b [] vs;refine⟨o,[],vs,?_,by rw [h2,mg],h3,by simp⟩;rw [y1A];dsimp only;rw [if_pos (by simp),if_neg (by simp),y1z];dsimp only;rw [if_pos (by simp),if_pos (by simp),yT,if_neg (by simp),yS,if_pos rfl];dsimp only;rw [y5d,yOb,y8x,yOb];exact h1
 | cons a us=>
  cases vs with
  | nil=>
   obtain⟨o,h1,h2,h3⟩:=fin true false a us [];refine⟨o,us,[],?_,by rw [h2,mg],h3,by simp⟩;rw [y1A];dsimp only;rw [if_pos (by simp),if_pos (by simp),if_pos (by simp),y1z];dsimp only;rw [if_neg (by simp),yT,if_pos rfl];dsimp only;rw [y5d,yOb,y8x,yOb,yS,if_neg (by simp)];exact h1
  | cons b vs=>
   have e0:y1A f (out,a::us,b::vs)=yT f (out,a::us,b::vs) (decide (a≤b)) (decide (b≤a)):=by
    rw [y1A];dsimp only;rw [if_pos (by simp),if_pos (by simp),if_neg (by simp;omega),y5d,yOb,y5d,yOb,y1z];dsimp only;rw [if_pos (by simp),if_neg (by simp;omega),y5d,yOb,y5d,yOb]
   rw [e0,yT];dsimp only;by_cases h1:a<b
   ·obtain ⟨o,g1,g2,g3⟩:=fin true false a us (b::vs);refine⟨o,us,b::vs,?_,by rw [g2,mg,if_pos h1],g3,by simp;omega⟩;rw [show decide (a≤b)=true by simp;omega,show decide (b≤a)=false by simp;omega,if_pos rfl,y5d,yOb,y8x,yOb,yS,if_neg (by simp)];exact g1
   ·by_cases h2:b<a
    ·obtain ⟨o,g1,g2,g3⟩:=fin false true b (a::us) vs;refine⟨o,a::us,vs,?_,by rw [g2,mg,if_neg h1,if_pos h2],g3,by simp;omega⟩;rw [show decide (a≤b)=false by simp;omega,show decide (b≤a)=true by simp;omega,if_neg (by simp),yS,if_pos rfl];dsimp only;rw [y5d,yOb,y8x,yOb];exact g1
    ·obtain ⟨o,g1,g2,g3⟩:=fin true true b us vs;refine⟨o,us,vs,?_,by rw [g2,mg,if_neg h1,if_neg h2],g3,by simp;omega⟩;rw [show decide (a≤b)=true by simp;omega,show decide (b≤a)=true by simp;omega,if_pos rfl,y5d,yOb,y8x,yOb,yS,if_pos rfl];dsimp only;rw [y5d,yOb,y8x,yOb];exact g1
theorem yfE{kp:Bool→Bool→Bool}{f:Bool→Bool→Option Bool}(hf:∀a b,f a b=some (kp a b)){us vs:List Int}(hu:us.length≤1000000)(hv:vs.length≤1000000):y2W us vs f=some (mg kp us vs):=by
 obtain⟨o,h1,h2⟩:=yf (f:=y1A f) (fun i s=>s.1++mg kp s.2.1 s.2.2=mg kp us vs∧s.1.length≤i∧s.2.1.length+s.2.2.length+i≤us.length+vs.length) (fun o=>o=mg kp us vs) (us.length+vs.length) 0 (by omega) (fun i s hi ⟨g1,g0,g2⟩=>by
   obtain⟨out,u,v⟩:=s;dsimp only at g1 g0 g2;by_cases hne:0<u.length+v.length
   ·obtain ⟨o,u',v',e,g3,g5,g4⟩:=ye3 hf (out:=out) (by omega) hne;exact .inl ⟨_,e,by rw [←g1];exact g3,by dsimp only;omega,by dsimp only;omega⟩
   ·have e1:u= []:=List.eq_nil_of_length_eq_zero (by omega);have e2:v= []:=List.eq_nil_of_length_eq_zero (by omega);subst e1;subst e2;rw [mg,List.append_nil] at g1;exact .inr ⟨out,rfl,g1⟩) (fun s ⟨g1,g0,g2⟩=>by
   obtain⟨out,u,v⟩:=s;dsimp only at g1 g2;have e1:u= []:=List.eq_nil_of_length_eq_zero (by omega);have e2:v= []:=List.eq_nil_of_length_eq_zero (by omega);subst e1;subst e2;rw [mg,List.append_nil] at g1;exact⟨out,rfl,g1⟩) (yZl _) ([],us,vs) ⟨rfl,by simp,by dsimp only;omega⟩
 rw [y2W,h1,h2];rfl
theorem y9S{xs:List Int}{n:Int}(hi:xs.Pairwise (· < ·))(hr:∀x∈xs,0≤x∧x<n)(hl:xs.length≤1000000):y1y xs n=some 0:=by
 obtain⟨o,ho,he⟩:=yf (f:=y2X xs n) (fun j st=>st=(j:Int)) (fun o=>o= .inl ()) xs.length 0 (by omega) (fun j st hj e1=>by
   subst e1;refine .inl ⟨_,?_,rfl⟩;have h1:=hr _ (yGm hj);unfold y2X;rw [if_pos (ct_lt hj),yj hj,yOb,if_neg (by simp;omega)];by_cases h0:j=0
   ·subst h0;rw [if_neg (by simp),yOb,if_neg (by simp)];rfl
   ·rw [if_pos (by simp;omega),show(j:Int)-1=((j-1:Nat):Int) by omega,W_nat (by omega),yj (show j-1<xs.length by omega),yOb,yOb];have h2:=List.pairwise_iff_getElem.1 hi (j-1) j (by omega) hj (by omega);rw [if_neg (by simpa using h2),nxt (by omega)])
  (fun st e1=>by
   subst e1;refine⟨.inl (),?_,rfl⟩;unfold y2X;rw [if_neg ct_ge]) (by omega) 0 rfl
 rw [y1y,ho,he];rfl
theorem yaS{a:NdT}(ha:NdOk a):yD a=some 0:=by
 have hn0:=ha.n0;have hn1:=ha.n1;have hle:=ha.le;have hla:=ha.la;have h1:iter (yv a) 0=some (.inl ()):=y5Q (n:=3) (by omega) (by
  have e0:yv a 0=some (.inl 1):=by
   unfold yv;rw [if_pos (by decide),show idx [a.2.2.1,a.2.2.2.1] 0=some a.2.2.1 from rfl,yOb,y9S ha.ini ha.inr ha.li];rfl
  have e1:yv a 1=some (.inl 2):=by
   unfold yv;rw [if_pos (by decide),show idx [a.2.2.1,a.2.2.2.1] 1=some a.2.2.2.1 from rfl,yOb,y9S ha.mks ha.mkr ha.lm];rfl
  have e2:yv a 2=some (.inr (.inl ())):=rfl;rw [yE,e0];dsimp only;rw [yE,e1];dsimp only;rw [yE,e2])
 obtain⟨o,ho,he⟩:=yf (f:=y2i a) (fun j st=>st=(j:Int)) (fun o=>o= .inl ()) a.2.2.2.2.length 0 (by omega) (fun j st hj e1=>by
   subst e1;refine .inl ⟨_,?_,rfl⟩;obtain⟨g1,g2,g3,g4,g5⟩:=ha.esr _ (yGm hj);unfold y2i;rw [if_pos (ct_lt hj),yj hj,yOb,if_neg (by simp;omega)];have hc:(if (a.2.2.2.2[j].2.1 != -1)=true then(yk a.1 a.2.2.2.2[j].2.1).bind fun r51=>some (!r51) else some false)=some false:=by
    rcases g5 with h|h
    ·rw [if_neg (by simp [h])]
    ·split
     ·rw [y9E (by omega) ha.al,yK.2 h];rfl
     ·rfl
   rw [hc,yOb,if_neg (by simp)];by_cases h0:j=0
   ·subst h0;rw [if_neg (by simp)];rfl
   ·rw [if_pos (by simp;omega),show(j:Int)-1=((j-1:Nat):Int) by omega,W_nat (by omega),yj (show j-1<a.2.2.2.2.length by omega),yOb];have h2:=List.pairwise_iff_getElem.1 ha.es (j-1) j (by omega) hj (by omega);obtain⟨z,z1,z2,z3⟩:=y9c a.2.2.2.2[j-1] a.2.2.2.2[j];rw [z1,yOb,y2h,if_neg (by
     have:=z2.2 h2;simp;omega),nxt (by omega)])
  (fun st e1=>by
   subst e1;refine⟨.inl (),?_,rfl⟩;unfold y2i;rw [if_neg ct_ge]) (by omega) 0 rfl
 rw [yD,if_neg (by simp;omega),if_neg (by simp;omega),y9S ha.al ha.alr ha.la,yOb,if_neg (by simp),h1,yOb,ho,he];rfl
theorem incE :∀{xs ys:List Int},Inc xs→Inc ys→(∀x,x∈xs↔x∈ys)→xs=ys
 | [],[],_,_,_=>rfl
 | [],y::ys,_,_,h=>by have:=(h y).2 (List.mem_cons_self ..);cases this
 | x::xs,[],_,_,h=>by have:=(h x).1 (List.mem_cons_self ..);cases this
 | x::xs,y::ys,hx,hy,h=>by
  obtain⟨x1,x2⟩:=List.pairwise_cons.1 hx;obtain⟨y1,y2⟩:=List.pairwise_cons.1 hy;have e:x=y:=by
   rcases List.mem_cons.1 ((h x).1 (List.mem_cons_self ..)) with h1|h1
   ·exact h1
   ·rcases List.mem_cons.1 ((h y).2 (List.mem_cons_self ..)) with h2|h2
    ·exact h2.symm
    ·have:=x1 y h2;have:=y1 x h1;omega
  subst e;rw [incE x2 y2 (fun z=>?_)];constructor
  ·intro hz;rcases List.mem_cons.1 ((h z).1 (List.mem_cons_of_mem _ hz)) with h1|h1
   ·have:=x1 z hz;omega
   ·exact h1
  ·intro hz;rcases List.mem_cons.1 ((h z).2 (List.mem_cons_of_mem _ hz)) with h1|h1
   ·have:=y1 z hz;omega
   ·exact h1
end
section
open Go.Proofs.Tryz
inductive Star {S:Type} (R:S→S→Prop):S→S→Prop
 | refl (s:S):Star R s s
 | tail {s t u:S}:Star R s t→R t u→Star R s u
namespace Star
variable{S T:Type}{R:S→S→Prop}{s t u:S}
theorem one(h:R s t):Star R s t:= .tail (.refl _) h
theorem trans(h:Star R s t)(h2:Star R t u):Star R s u:=by
 induction h2 with
 | refl=>exact h
 | tail _ g ih=>exact .tail ih g
theorem head(h:R s t)(h2:Star R t u):Star R s u:=(one h).trans h2
theorem map{Q:T→T→Prop}(f:S→T)(hf:∀a b,R a b→Q (f a) (f b))(h:Star R s t):Star Q (f s) (f t):=by
 induction h with
 | refl=>exact .refl _
 | tail _ g ih=>exact .tail ih (hf _ _ g)
theorem mono{Q:S→S→Prop}(hf:∀a b,R a b→Q a b)(h:Star R s t):Star Q s t:=h.map id hf
end Star
structure Lts (S:Type) where
 ini:S→Prop
 fin:S→Prop
 st:Int→S→S→Prop
 ev:Int→Prop
namespace Lts
variable{S S' T U:Type}
def nxt1(L:Lts S)(s t:S):Prop:=∃e,L.st e s t
def Wf(L:Lts S):Prop:=(∀e s t,L.st e s t→e= -1∨L.ev e)∧¬L.ev (-1)
def tau(L:Lts S):S→S→Prop:=Star (L.st (-1))
def wk(L:Lts S)(e:Int)(s t:S):Prop:=(e= -1∧L.tau s t)∨(e≠ -1∧∃a b,L.tau s a∧L.st e a b∧L.tau b t)
structure Same (A:Lts S) (B:Lts T) (R:S→T→Prop):Prop where
 i1:∀s,A.ini s→∃t,B.ini t∧R s t
 i2:∀t,B.ini t→∃s,A.ini s∧R s t
 s1:∀s t s',R s t→A.nxt1 s s'→∃t',B.nxt1 t t'∧R s' t'
 s2:∀s t t',R s t→B.nxt1 t t'→∃s',A.nxt1 s s'∧R s' t'
 m:∀s t,R s t→(A.fin s↔B.fin t)
theorem Same.symm{A:Lts S}{B:Lts T}{R:S→T→Prop}(h:Same A B R):Same B A fun x y=>R y x:=
 ⟨h.i2,h.i1,fun s t s' hr=>h.s2 t s s' hr,fun s t t' hr=>h.s1 t s t' hr,fun s t hr=>(h.m t s hr).symm⟩
def unit :Lts (List Int) where
 ini v:=v= []
 fin v:=v= []
 st _ _ _:=False
 ev _:=False
/-! Tuples. -/
end Lts
namespace Lts
def mks(L:Lts Int)(s:Int):Prop:=∃m,L.tau s m∧L.fin m
def lab(L:Lts Int)(e:Int):Prop:=e= -1∨L.ev e
structure In (L:Lts Int) (V:Int→Prop):Prop where
 i:∀s,L.ini s→V s
 m:∀s,L.fin s→V s
 s:∀e s t,L.st e s t→V s∧V t
 wf:L.Wf
theorem In.tau{L:Lts Int}{V:Int→Prop}(h:L.In V){s t:Int}(hs:V s)(hp:L.tau s t):V t:=by
 induction hp with
 | refl=>exact hs
 | tail _ g _=>exact(h.s _ _ _ g).2
theorem In.wk{L:Lts Int}{V:Int→Prop}(h:L.In V){e s t:Int}(hs:V s)(hp:L.wk e s t):V t:=by
 rcases hp with ⟨_,hp⟩|⟨_,a,b,h1,h2,h3⟩
 ·exact h.tau hs hp
 ·exact h.tau (h.s _ _ _ h2).2 h3
structure Stb (L:Lts Int) (V:Int→Prop) (P:Int→Int→Prop):Prop where
 sy:∀s t,V s→V t→P s t→P t s
 m:∀s t,V s→V t→P s t→L.mks s→L.mks t
 w:∀s t,V s→V t→P s t→∀e,L.lab e→∀s',L.wk e s s'→∃t',L.wk e t t'∧P s' t'
def Crs(L:Lts Int)(V:Int→Prop)(c:Int→Int):Prop:=∀P,Stb L V P→∀s t,V s→V t→P s t→c s=c t
structure Abs (L:Lts Int) (c:Int→Int) (B:Lts Int):Prop where
 i:∀x,B.ini x↔ ∃s,L.ini s∧c s=x
 m:∀x,B.fin x↔ ∃s,L.fin s∧c s=x
 ev:∀e,B.ev e↔L.ev e
 s:∀e x y,B.st e x y↔ ∃s t,L.st e s t∧c s=x∧c t=y∧(e≠ -1∨x≠y)
end Lts
def y1D(c:List Int):Prop:=∀(i:Nat) (x:Int),c[i]? =some x→0≤x∧(∀y:Int,0≤y→y<x→∃j,j<i∧c[j]? =some y)∧((∃j,j<i∧c[j]? =some x)∨∀j y,j<i→c[j]? =some y→y<x)
theorem y1D.unique{c d:List Int}(hc:y1D c)(hd:y1D d)(hl:c.length=d.length)(he:∀(i j:Nat) (x y:Int),c[i]? =some x→c[j]? =some y→∀u v,d[i]? =some u→d[j]? =some v→(x=y↔u=v)):c=d:=by
 have key:∀n i:Nat,i<n→c[i]? =d[i]? :=by
  intro n
  induction n with
  | zero=>intro i hi;omega
  | succ n ih=>
   intro i hi;by_cases hlt:i<n
   ·exact ih i hlt
   have hin:i=n:=by omega
   subst hin;by_cases hic:i<c.length
   ·have hid:i<d.length:=by omega
    have e1:=yGe hic;have e2:=yGe hid;rw [e1,e2];generalize c[i]=x at e1;generalize d[i]=u at e2;congr 1;obtain⟨hx0,hx1,hx2⟩:=hc i x e1;obtain⟨hu0,hu1,hu2⟩:=hd i u e2;by_cases hex:∃j,j<i∧c[j]? =some x
    ·obtain ⟨j,hj,g⟩:=hex;have g2:d[j]? =some x:=by rw [←ih j hj];exact g
     exact(he i j x x e1 g u x e2 g2).1 rfl |>.symm
    ·have hx3:=hx2.resolve_left hex;by_cases heu:∃j,j<i∧d[j]? =some u
     ·obtain ⟨j,hj,g⟩:=heu;have g2:c[j]? =some u:=by rw [ih j hj];exact g
      exact absurd ⟨j,hj,by rw [(he i j x u e1 g2 u u e2 g).2 rfl];exact g2⟩ hex
     ·have hu3:=hu2.resolve_left heu;rcases Int.lt_trichotomy x u with h|h|h
      ·obtain ⟨j,hj,g⟩:=hu1 x hx0 h;have:=hx3 j x hj (by rw [ih j hj];exact g);omega
      ·exact h
      ·obtain ⟨j,hj,g⟩:=hx1 u hu0 h;have:=hu3 j u hj (by rw [←ih j hj];exact g);omega
   ·rw [List.getElem?_eq_none (by omega),List.getElem?_eq_none (by omega)]
 exact List.ext_getElem? fun i=>key (i+1) i (by omega)
end
section
open Go.Proofs.Tryz Go Go.RowKit
def ltsN(a:NdT):Lts Int:=⟨fun s=>s∈a.2.2.1,fun s=>s∈a.2.2.2.1,fun e s t=>(s,e,t)∈a.2.2.2.2,fun e=>e∈a.1⟩
theorem NdOk.wf{a:NdT}(ha:NdOk a):(ltsN a).Wf:=⟨fun _ _ _ h=>(ha.esr _ h).2.2.2.2,fun h=>by have:=ha.alr _ h;omega⟩
theorem NdOk.inn{a:NdT}(ha:NdOk a):(ltsN a).In fun s=>0≤s∧s<a.2.1:=⟨fun s h=>ha.inr s h,fun s h=>ha.mkr s h,fun e s t h=>by have:=ha.esr _ h;dsimp only at this;omega,ha.wf⟩
def bits5(k:Nat):LI:=((List.range 5).filter fun i=>(k >>> i) % 2==1).map fun i:Nat=>(i:Int)
theorem ygR{k:Nat}(h:k<32):y1C (k:Int)=some (bits5 k):=by
 have e:(List.range 32).map (fun k:Nat=>y1C (k:Int))=(List.range 32).map fun k=>some (bits5 k):=by kernel_rfl
 have:=congrArg (fun l=>l[k]?) e;simp only [List.getElem?_map,List.getElem?_range h,Option.map_some,yIj] at this;exact this
theorem y7Q(k:Nat):(bits5 k).Pairwise (· < ·):=by
 unfold bits5;rw [List.pairwise_map];exact(List.pairwise_lt_range.filter _).imp fun h=>by omega
theorem ybR{k:Nat}{x:Int}(h:x∈bits5 k):∃i:Nat,x=i∧i<5∧(k >>> i) % 2=1:=by
 unfold bits5 at h;obtain⟨i,hi,rfl⟩:=yMp.1 h;obtain⟨h1,h2⟩:=List.mem_filter.1 hi;exact⟨i,rfl,List.mem_range.1 h1,by simpa using h2⟩
theorem ycI{k n:Nat}(hk:k<2 ^ n){x:Int}(h:x∈bits5 k):0≤x∧x<(n:Int):=by
 obtain⟨i,rfl,_,h2⟩:=ybR h;refine⟨by omega,?_⟩;refine Classical.byContradiction fun hn=>?_;have hi:n≤i:=by omega
 have:k >>> i=0:=by
  rw [Nat.shiftRight_eq_div_pow];exact Nat.div_eq_of_lt (Nat.lt_of_lt_of_le hk (Nat.pow_le_pow_right (by omega) hi))
 rw [this] at h2;omega
theorem y9K(k:Nat):(bits5 k).length≤5:=by
 unfold bits5;rw [yLm];exact Nat.le_trans (List.length_filter_le _ _) (by simp)
theorem yaq{γ:Type}{n:Nat}(f:Int×List γ→Option ((Int×List γ)⊕List γ))(h:Nat→List γ)(out:List γ)(hx:n≤4294967296)(hl:((List.range n).flatMap h).length+out.length≤4294967296)
  (step:∀j,j<n→∀(o:List γ),(h j).length+o.length≤4294967296→f ((j:Int),o)=some (.inl (((j+1:Nat):Int),o++h j))) (last:∀o:List γ,f ((n:Int),o)=some (.inr o)):iter f (0,out)=some (out++(List.range n).flatMap h):=
 y9I (xs:=List.range n) f h out (by simpa using hx) hl (fun j hj o ho=>by
  have hj':j<n:=by simpa using hj
  simp only [List.getElem_range] at ho ⊢;exact step j hj' o ho) (by simpa using last)
def mkE(kp:List Bool)(al:LI)(n:Nat):List E3:=(List.range n).flatMap fun i=>(List.range (al.length+1)).flatMap fun k=>(List.range n).flatMap fun j=>
 if kp.getD (0+i*30+k*6+j*1) false=true then [((i:Int),(-1::al).getD k 0,(j:Int))] else []
theorem ygn{kp:List Bool}{al:LI}{n:Nat}{x:E3}(h:x∈mkE kp al n):0≤x.1∧x.1<(n:Int)∧0≤x.2.2∧x.2.2<(n:Int)∧(x.2.1= -1∨x.2.1∈al):=by
 unfold mkE at h;simp only [List.mem_flatMap,List.mem_range] at h;obtain⟨i,hi,k,hk,j,hj,h⟩:=h;split at h
 ·rw [yMs.1 h];refine⟨by dsimp only;omega,by dsimp only;omega,by dsimp only;omega,by dsimp only;omega,?_⟩;have:(-1::al).getD k 0∈(-1::al):=by
   rw [yGd,yGe (by simp;omega)];exact yGm _
  exact yMo.1 this
 ·cases h
theorem ygS{kp:List Bool}{al:LI}{n:Nat}(ha:al.Pairwise (· < ·))(h0:∀x∈al,0≤x):(mkE kp al n).Pairwise ltE3:=by
 have hev:(-1::al).Pairwise (· < ·):=List.Pairwise.cons (fun x hx=>by have:=h0 x hx;omega) ha;have hm:∀i k j x,x∈(if kp.getD (0+i*30+k*6+j*1) false=true then [((i:Int),(-1::al).getD k 0,(j:Int))] else [])→x=((i:Int),(-1::al).getD k 0,(j:Int)):=fun i k j x hx=>by
  split at hx
  ·exact yMs.1 hx
  ·cases hx
 unfold mkE;rw [List.pairwise_flatMap];refine⟨fun i _=>?_,List.pairwise_lt_range.imp fun {i i'} hi x hx y hy=>?_⟩
 ·rw [List.pairwise_flatMap];refine⟨fun k _=>?_,List.Pairwise.imp_of_mem (fun {k k'} hk hk' hkk x hx y hy=>?_) List.pairwise_lt_range⟩
  ·rw [List.pairwise_flatMap];refine⟨fun j _=>?_,List.pairwise_lt_range.imp fun {j j'} hj x hx y hy=>?_⟩
   ·split
    ·exact List.pairwise_singleton _ _
    ·exact .nil
   ·rw [hm _ _ _ _ hx,hm _ _ _ _ hy];unfold ltE3;dsimp only;omega
  ·simp only [List.mem_flatMap] at hx hy;obtain⟨j,_,hx⟩:=hx;obtain⟨j',_,hy⟩:=hy;rw [hm _ _ _ _ hx,hm _ _ _ _ hy];rw [List.mem_range] at hk hk';have:=yPg.1 hev k k' (by simp;omega) (by simp;omega) hkk;unfold ltE3;dsimp only;rw [yGd,yGd,yGe (by simp;omega),yGe (by simp;omega)];exact .inr ⟨rfl,.inl this⟩
 ·simp only [List.mem_flatMap] at hx hy;obtain⟨k,_,j,_,hx⟩:=hx;obtain⟨k',_,j',_,hy⟩:=hy;rw [hm _ _ _ _ hx,hm _ _ _ _ hy];unfold ltE3;dsimp only;omega
theorem yaT{i n:Nat}(h:i<n):rng (i:Int) n=some ():=by
 unfold rng;rw [iP (by simp;omega)]
section
variable{p0:Int×Int×Int×Int×List E3}{n:Nat}(hn:W (p0.1.tmod 6)=(n:Int))(hn5:n≤5){kp:List Bool}(hk:kp.length=180){al:LI}(hal:al.length≤4)
include hn hn5 hk
theorem mk_l4{i k:Nat}(hi:i<n)(hkk:k<5)(e:Int)(s1 s2:EdgL)(out:List E3)(ho:((List.range n).flatMap fun j=>if kp.getD (0+i*30+k*6+j*1) false=true then [((i:Int),e,(j:Int))] else []).length+out.length≤4294967296):iter (y2P p0 kp ((i:Int),s1) ((k:Int),s2) e) (0,out)=some (out++((List.range n).flatMap fun j=>if kp.getD (0+i*30+k*6+j*1) false=true then [((i:Int),e,(j:Int))] else [])):=by
 refine yaq _ _ out (by omega) ho (fun j hj o ho2=>?_) (fun o=>?_)
 ·unfold y2P;have hx:0+i*30+k*6+j*1<kp.length:=by omega
  simp only [hn,ct_lt hj,if_true,yaT (show i<6 by omega),yaT hkk,yaT (show j<6 by omega),yOb,yTn,yGe hx,yGd,Option.getD_some] at ho2 ⊢;split
  ·rename_i hb;rw [iP hb] at ho2;rw [y2G (by simp at ho2 ⊢;omega),yOb,y2d];simp only [nxt (show j<4611686018427387904 by omega)]
  ·rw [y2d,List.append_nil];simp only [nxt (show j<4611686018427387904 by omega)]
 ·unfold y2P;simp only [hn];rw [iN (by simp)]
omit hn hn5 hk in
theorem ybr(i k:Nat)(e:Int):∀m:Nat,((List.range m).flatMap fun j=>if kp.getD (0+i*30+k*6+j*1) false=true then [((i:Int),e,(j:Int))] else []).length≤m:=by
 intro m
 induction m with
 | zero=>simp
 | succ m ih=>
  rw [List.range_succ,List.flatMap_append,yLa];simp only [List.flatMap_cons,List.flatMap_nil,List.append_nil];split
  ·rw [List.length_singleton];omega
  ·rw [List.length_nil];omega
omit hn hn5 hk in
theorem y6P{γ:Type}{h:Nat→List γ}{c:Nat}(hc:∀j,(h j).length≤c):∀m,((List.range m).flatMap h).length≤m*c
 | 0=>by simp
 | m+1=>by
  have:=y6P hc m;have:=hc m;rw [List.range_succ,List.flatMap_append,yLa,Nat.succ_mul];simp only [List.flatMap_cons,List.flatMap_nil,List.append_nil];omega
include hal in
theorem mk_l3 {i:Nat} (hi:i<n) (s1:EdgL) (out:List E3) (ho:((List.range (al.length+1)).flatMap fun k=>(List.range n).flatMap fun j=>
  if kp.getD (0+i*30+k*6+j*1) false=true then [((i:Int),(-1::al).getD k 0,(j:Int))] else []).length+out.length≤4294967296):iter (y2Q p0 al kp ((i:Int),s1)) (0,out)=some (out++(List.range (al.length+1)).flatMap fun k=>(List.range n).flatMap fun j=>
  if kp.getD (0+i*30+k*6+j*1) false=true then [((i:Int),(-1::al).getD k 0,(j:Int))] else []):=by
 have hs:∀k,((List.range n).flatMap fun j=>if kp.getD (0+i*30+k*6+j*1) false=true then [((i:Int),(-1::al).getD k 0,(j:Int))] else []).length≤n:=fun k=>ybr i k _ n;have hf:=y6P hs (al.length+1);have hm:(al.length+1)*n≤5*5:=Nat.mul_le_mul (by omega) hn5;refine yaq _ _ out (by omega) ho (fun k hkk o ho2=>?_) (fun o=>?_)
 ·unfold y2Q;rw [iP (by simp;omega)];by_cases h0:k=0
  ·subst h0;have hz:(-1::al).getD 0 0= -1:=rfl;rw [hz] at ho2 ⊢;rw [iN (by simp),y2e];simp only;rw [mk_l4 hn hn5 hk hi (by omega) _ _ _ _ ho2,yOb];simp only [nxt (show 0<4611686018427387904 by omega)]
  ·rw [iP (by simp;omega)];have he:(-1::al).getD k 0=al[k-1]:=by
    rw [yGd,yGe (by simp;omega),Option.getD_some,List.getElem_cons];rw [dif_neg h0]
   rw [he] at ho2 ⊢;simp only;rw [show (k:Int)-1=((k-1:Nat):Int) by omega,W_nat (by omega),yj (show k-1<al.length by omega),yOb,y2e,mk_l4 hn hn5 hk hi (by omega) _ _ _ _ ho2,yOb];simp only [nxt (show k<4611686018427387904 by omega)]
 ·unfold y2Q;rw [iN (by simp;omega)]
include hal in
theorem mk_l2 :iter (y2f p0 al kp) (0,([]:List E3))=some (mkE kp al n):=by
 have hs:∀i k,((List.range n).flatMap fun j=>if kp.getD (0+i*30+k*6+j*1) false=true then [((i:Int),(-1::al).getD k 0,(j:Int))] else []).length≤n:=fun i k=>ybr i k _ n;have hf:∀i,((List.range (al.length+1)).flatMap fun k=>(List.range n).flatMap fun j=>if kp.getD (0+i*30+k*6+j*1) false=true then [((i:Int),(-1::al).getD k 0,(j:Int))] else []).length≤25:=fun i=>Nat.le_trans (y6P (hs i) (al.length+1)) (Nat.mul_le_mul (show al.length+1≤5 by omega) hn5);have hg:=y6P hf n;have:=yaq (n:=n) (y2f p0 al kp) (fun i=>(List.range (al.length+1)).flatMap fun k=>(List.range n).flatMap fun j=>if kp.getD (0+i*30+k*6+j*1) false=true then [((i:Int),(-1::al).getD k 0,(j:Int))] else []) [] (by omega) (by simp only [List.length_nil];omega) (fun i hi o ho=>by
  unfold y2f;simp only [hn,ct_lt hi,if_true];rw [mk_l3 hn hn5 hk hal hi _ _ ho,yOb];simp only [nxt (show i<4611686018427387904 by omega)]) (fun o=>by
  unfold y2f;simp only [hn];rw [iN (by simp)])
 rw [this,List.nil_append];rfl
end
theorem y6Q{x n:Int}(h:0≤x)(hn:0<n):0≤x.tmod n∧x.tmod n<n:=⟨Int.tmod_nonneg _ h,Int.tmod_lt_of_pos _ hn⟩
theorem ycJ{x:Int}{n:Nat}(h:0≤x∧x<(n:Int)):rng x n=some ():=by
 unfold rng;rw [iP (by simp;omega)]
theorem mk_l1{p0:Int×Int×Int×Int×List E3}{n:Nat}(hn:W (p0.1.tmod 6)=(n:Int))(hn5:n≤5){al:LI}(hal:al.length≤4)(he:∀x∈p0.2.2.2.2,(0≤x.1∧x.1<256)∧(0≤x.2.1∧x.2.1<256)∧0≤x.2.2∧x.2.2<256):∃kp,iter (y2g p0 al) (0,List.replicate 180 false)=some kp∧kp.length=180:=by
 refine yf (f:=y2g p0 al) (fun j st=>st.1=(j:Int)∧st.2.length=180) (fun o=>o.length=180) 20 0 (by omega) (fun j st hj ⟨e1,e2⟩=>?_) (fun st ⟨e1,e2⟩=>?_) (by omega) (0,List.replicate 180 false) ⟨rfl,List.length_replicate ..⟩
 ·obtain ⟨s1,kp⟩:=st;dsimp only at e1 e2;subst e1;unfold y2g;simp only [hn];by_cases hc:j<p0.2.2.2.2.length∧0<n
  ·left;obtain⟨hc1,hc2⟩:=hc;rw [iP (by simp;omega)];obtain⟨g1,g2,g3⟩:=he _ (yGm hc1);have hw:W ((al.length:Int)+1)=((al.length+1:Nat):Int):=nxt (by omega);rw [yj hc1];simp only [yOb,hw];rw [W_of (x:=p0.2.2.2.2[j].1) (by omega) (by omega),W_of (x:=p0.2.2.2.2[j].2.1) (by omega) (by omega),W_of (x:=p0.2.2.2.2[j].2.2) (by omega) (by omega)];have t1:=y6Q g1.1 (show (0:Int)<(n:Int) by omega);have t2:=y6Q g2.1 (show (0:Int)<((al.length+1:Nat):Int) by omega);have t3:=y6Q g3.1 (show (0:Int)<(n:Int) by omega);have z1:nz (((al.length+1:Nat):Int))=some ():=by unfold nz;rw [iN (by omega)]
   have z2:nz ((n:Nat):Int)=some ():=by unfold nz;rw [iN (by omega)]
   rw [z1,z2];simp only [yOb];rw [ycJ (n:=6) (by omega),ycJ (n:=5) (by omega),ycJ (n:=6) (by omega)];simp only [yOb];unfold updN;rw [iP (by omega),yOb];exact⟨_,rfl,by dsimp only;rw [nxt (by omega)],by simpa using e2⟩
  ·right;rw [iN (by simp;omega)];exact⟨_,rfl,e2⟩
 ·obtain ⟨s1,kp⟩:=st;dsimp only at e1 e2;subst e1;unfold y2g;rw [iN (by simp)];exact⟨_,rfl,e2⟩
structure DrOk (d:Int×Int×Int×Int×List E3):Prop where
 st:0≤d.1∧d.1<256
 al:0≤d.2.1∧d.2.1<256
 ini:0≤d.2.2.1∧d.2.2.1<256
 mks:0≤d.2.2.2.1∧d.2.2.2.1<256
 es:∀x∈d.2.2.2.2,(0≤x.1∧x.1<256)∧(0≤x.2.1∧x.2.1<256)∧0≤x.2.2∧x.2.2<256
theorem pow_w{n:Nat}(h:n≤5):IntKind.u32.wrap (1*2 ^ (min ((n:Nat):Int).toNat 32))=((2 ^ n:Nat):Int)∧0<2 ^ n∧2 ^ n≤32:=by
 have:n=0∨n=1∨n=2∨n=3∨n=4∨n=5:=by omega
 rcases this with rfl|rfl|rfl|rfl|rfl|rfl <;> exact⟨by decide,by decide,by decide⟩
theorem ye4{k:Nat}(h:k<16):(bits5 k).length≤4:=by
 have e:((List.range 16).all fun k=>decide ((bits5 k).length≤4))=true:=by decide
 have:=yAt.1 e k (List.mem_range.2 h);simpa using this
theorem ybs{x n:Int}{m:Nat}(hx:0≤x∧x<256)(hm:n=(m:Int))(h0:0<m)(h1:m≤32):∃k:Nat,k<m∧y1C (x.tmod n)=some (bits5 k):=by
 have h:=y6Q hx.1 (show 0<n by omega);refine⟨(x.tmod n).toNat,by omega,?_⟩;have:=ygR (k:=(x.tmod n).toNat) (by omega);rwa [show (((x.tmod n).toNat:Nat):Int)=x.tmod n by omega] at this
theorem ygo{d:Int×Int×Int×Int×List E3}(h:DrOk d):∃a:NdT,y3o d=some a∧NdOk a∧a.2.1≤5∧a.1.length≤4:=by
 obtain⟨n,hn,hn5⟩:∃n:Nat,W (d.1.tmod 6)=(n:Int)∧n≤5:=by
  have h1:=y6Q h.st.1 (show (0:Int)<6 by decide);refine⟨(d.1.tmod 6).toNat,?_,by omega⟩;rw [W_of (by omega) (by omega)];omega
 obtain⟨hp,hp0,hp1⟩:=pow_w hn5;obtain⟨k1,hk1,e1⟩:=ybs h.al (n:=16) (m:=16) rfl (by decide) (by decide);obtain⟨k2,hk2,e2⟩:=ybs (x:=d.2.2.1) h.ini (n:=((2 ^ n:Nat):Int)) rfl hp0 hp1;obtain⟨k3,hk3,e3⟩:=ybs (x:=d.2.2.2.1) h.mks (n:=((2 ^ n:Nat):Int)) rfl hp0 hp1;have hw1:IntKind.u32.wrap (d.2.1.tmod 16)=d.2.1.tmod 16:=IntWalk.u32_in _ (by have:=y6Q h.al.1 (show (0:Int)<16 by decide);omega);have hw2:IntKind.u32.wrap d.2.2.1=d.2.2.1:=IntWalk.u32_in _ (by have:=h.ini;omega);have hw3:IntKind.u32.wrap d.2.2.2.1=d.2.2.2.1:=IntWalk.u32_in _ (by have:=h.mks;omega);have hal:=ye4 hk1;obtain⟨kp,hk,hkl⟩:=mk_l1 hn hn5 hal h.es;have ng1:ng ((n:Nat):Int)=some ():=by unfold ng;rw [iN (by omega)]
 have nz1:nz (((2 ^ n:Nat):Int))=some ():=by unfold nz;rw [iN (by omega)]
 refine⟨(bits5 k1,(n:Int),bits5 k2,bits5 k3,mkE kp (bits5 k1) n),?_,?_,by dsimp only;omega,hal⟩
 ·rw [y3o,hw1,e1,yOb,hn,ng1,yOb,hp,nz1,yOb,hw2,e2,yOb,yOb,yOb,hw3,e3,yOb,hk,yOb,mk_l2 hn hn5 hkl hal,yOb]
 ·have l1:=y9K k1;have l2:=y9K k2;have l3:=y9K k3;have r1:∀x∈bits5 k1,0≤x∧x<32:=fun x hx=>by
   obtain⟨i,rfl,h1,_⟩:=ybR hx;omega
  refine⟨y7Q _,r1,by dsimp only;omega,by dsimp only;omega,y7Q _,fun x hx=>ycI hk2 hx,y7Q _,fun x hx=>ycI hk3 hx,ygS (y7Q _) fun x hx=>(r1 x hx).1,fun x hx=>ygn hx,by dsimp only;omega,by dsimp only;omega,by dsimp only;omega,?_⟩;dsimp only;unfold mkE;have f1:=y6P (h:=fun i=>(List.range ((bits5 k1).length+1)).flatMap fun k=>(List.range n).flatMap fun j=>if kp.getD (0+i*30+k*6+j*1) false=true then [((i:Int),(-1::bits5 k1).getD k 0,(j:Int))] else []) (c:=25) (fun i=>Nat.le_trans (y6P (fun k=>ybr i k _ n) _) (Nat.mul_le_mul (show (bits5 k1).length+1≤5 by omega) hn5)) n;omega
theorem ybS{n:Nat}{f:Int→Option (Int⊕(Unit⊕Unit))}(hn:n≤4294967296)(step:∀j,j<n→f (j:Int)=some (.inl (((j+1:Nat):Int))))(last:f (n:Int)=some (.inr (.inl ()))):iter f 0=some (.inl ()):=by
 obtain⟨o,ho,he⟩:=yf (f:=f) (fun j st=>st=(j:Int)) (fun o=>o= .inl ()) n 0 (by omega) (fun j st hj e1=>by
   subst e1;exact .inl ⟨_,step j hj,rfl⟩)
  (fun st e1=>by
   subst e1;exact⟨_,last,rfl⟩) (by omega) 0 rfl
 rw [ho,he]
theorem y9d{xs:LI}(h:xs.length≤4294967296):ym xs xs=some true:=by
 rw [ym,iN (by simp),ybS h (fun j hj=>by
  unfold y1P;rw [iP (ct_lt hj),yj hj,yOb,yOb,iN (by simp),nxt (by omega)]) (by
  unfold y1P;rw [iN ct_ge])]
 rfl
theorem yfF{xs:List E3}(h:xs.length≤4294967296):y3I xs xs=some true:=by
 rw [y3I,iN (by simp),ybS h (fun j hj=>by
  unfold y3Y;rw [iP (ct_lt hj),yj hj,yOb,yOb,iN (by simp),nxt (by omega)]) (by
  unfold y3Y;rw [iN ct_ge])]
 rfl
theorem yeS{a:NdT}(ha:NdOk a):y2F a a=some true:=by
 have h1:=ha.la;have h2:=ha.li;have h3:=ha.lm;have h4:=ha.le;rw [y2F,iP (by simp),y9d (by omega),yOb,yOb,iP rfl,y9d (by omega),yOb,yOb,iP rfl,y9d (by omega),yOb,yOb,iP rfl,yfF (by omega)];rfl
theorem ygp :y4h=some true:=by kernel_rfl
inductive Rc3 (es:List E3) (S:LI):Int→Prop
 | ini {s:Int}:s∈S→Rc3 es S s
 | edge {x:E3}:x∈es→Rc3 es S x.1→Rc3 es S x.2.2
def flg(B:List Bool)(s:Int):Bool:=B.getD s.toNat false
def passF(es:List E3)(B:List Bool):List Bool:=es.foldl (fun B x=>if flg B x.1=true then B.set x.2.2.toNat true else B) B
theorem y7s{B:List Bool}{s t:Int}(hs:0≤s)(ht:0≤t)(h:t.toNat<B.length):flg (B.set t.toNat true) s=if s=t then true else flg B s:=by
 unfold flg;rw [yGd,yGd,List.getElem?_set];by_cases e:s=t
 ·subst e;rw [iP rfl,iP h,iP rfl];rfl
 ·rw [iN (by omega),iN e]
theorem y7R(es:List E3):∀B:List Bool,(passF es B).length=B.length:=by
 unfold passF
 induction es with
 | nil=>intro B;rfl
 | cons x es ih=>
  intro B;rw [List.foldl_cons,ih];split
  ·rw [List.length_set]
  ·rfl
section
variable{n:Nat}
theorem yaU{es0:List E3}{S:LI}(es:List E3)(hsub:∀x∈es,x∈es0)(hr:∀x∈es,0≤x.1∧x.1<(n:Int)∧0≤x.2.2∧x.2.2<(n:Int)):∀B:List Bool,B.length=n→(∀s,0≤s→flg B s=true→Rc3 es0 S s)→
  (∀s,0≤s→flg (passF es B) s=true→Rc3 es0 S s)∧(∀s,0≤s→flg B s=true→flg (passF es B) s=true)∧(passF es B=B→∀x∈es,flg B x.1=true→flg B x.2.2=true):=by
 induction es with
 | nil=>intro B _ h;exact⟨h,fun _ _ h=>h,fun _ x hx=>by cases hx⟩
 | cons x es ih=>
  intro B hB h;have hx:=hr x (.head _);have e:passF (x::es) B=passF es (if flg B x.1=true then B.set x.2.2.toNat true else B):=rfl;have hB2:(if flg B x.1=true then B.set x.2.2.toNat true else B).length=n:=by
   split
   ·rw [List.length_set];exact hB
   ·exact hB
  have hup:∀s,0≤s→flg B s=true→flg (if flg B x.1=true then B.set x.2.2.toNat true else B) s=true:=fun s hs h1=>by
   split
   ·rw [y7s hs hx.2.2.1 (by omega)];split
    ·rfl
    ·exact h1
   ·exact h1
  obtain⟨h1,h2,h3⟩:=ih (fun y hy=>hsub y (.tail _ hy)) (fun y hy=>hr y (.tail _ hy)) _ hB2 (fun s hs hf=>by
   split at hf
   ·rename_i hf1;rw [y7s hs hx.2.2.1 (by omega)] at hf;split at hf
    ·rename_i e;rw [e];exact .edge (hsub x (.head _)) (h _ hx.1 hf1)
    ·exact h s hs hf
   ·exact h s hs hf)
  refine⟨fun s hs hf=>h1 s hs (e▸hf),fun s hs hf=>by rw [e];exact h2 s hs (hup s hs hf),fun he y hy hf=>?_⟩;have hback:∀s,0≤s→flg (if flg B x.1=true then B.set x.2.2.toNat true else B) s=true→flg B s=true:=fun s hs h4=>by
   rw [←he,e];exact h2 s hs h4
  have hBB:(if flg B x.1=true then B.set x.2.2.toNat true else B)=B:=by
   split
   ·rename_i hf1;have h5:flg B x.2.2=true:=hback _ hx.2.2.1 (by rw [iP hf1,y7s hx.2.2.1 hx.2.2.1 (by omega),iP rfl]);unfold flg at h5;rw [yGd,yGe (by omega),Option.getD_some] at h5;exact List.ext_getElem (by simp) fun i i1 i2=>by
     rw [List.getElem_set];split
     ·rename_i e2;subst e2;exact h5.symm
     ·rfl
   ·rfl
  rcases yMo.1 hy with rfl|hy
  ·exact hback _ hx.2.2.1 (by rw [iP hf,y7s hx.2.2.1 hx.2.2.1 (by omega),iP rfl])
  ·rw [hBB] at h3;exact h3 (by rw [e,hBB] at he;exact he) y hy hf
end
theorem yaV :∀{B B':List Bool},B.length=B'.length→(∀i:Nat,B[i]? =some true→B'[i]? =some true)→B.count true≤B'.count true∧(B.count true=B'.count true→B=B')
 | [],[],_,_=>⟨yNr _,fun _=>rfl⟩
 | [],_::_,h,_=>by simp at h
 | _::_,[],h,_=>by simp at h
 | b::B,c::C,h,hi=>by
  obtain⟨h1,h2⟩:=yaV (B:=B) (B':=C) (by simpa using h) fun i hb=>by simpa using hi (i+1) (by simpa using hb)
  have h0:=hi 0;cases b <;> cases c <;> simp at h0 ⊢
  ·exact ⟨h1,h2⟩
  ·exact ⟨by omega,fun e=>by omega⟩
  ·exact ⟨h1,h2⟩
def passN(es:List E3)(B:List Bool):Nat→List Bool
 | 0=>B
 | k+1=>passF es (passN es B k)
theorem yaW{B:List Bool}{i:Nat}:B[i]? =some true↔flg B (i:Int)=true:=by
 unfold flg;rw [yTn,yGd];cases B[i]? with
 | none=>simp
 | some b=>cases b <;> simp
theorem yaX{es:List E3}{S:LI}{n:Nat}(hr:∀x∈es,0≤x.1∧x.1<(n:Int)∧0≤x.2.2∧x.2.2<(n:Int)){B:List Bool}(hB:B.length=n)(hs:∀s,0≤s→flg B s=true→Rc3 es S s):∀k,
  (passN es B k).length=n∧(∀s,0≤s→flg (passN es B k) s=true→Rc3 es S s)∧(∀s,0≤s→flg B s=true→flg (passN es B k) s=true)∧(passF es (passN es B k)=passN es B k∨k≤(passN es B k).count true)
 | 0=>⟨hB,hs,fun _ _ h=>h,.inr (yZl _)⟩
 | k+1=>by
  obtain⟨h1,h2,h3,h4⟩:=yaX hr hB hs k;obtain⟨g1,g2,g3⟩:=yaU (es0:=es) (S:=S) es (fun _ h=>h) hr _ h1 h2;have hl:=y7R es (passN es B k);refine⟨by rw [passN,hl,h1],g1,fun s h0 h=>g2 s h0 (h3 s h0 h),?_⟩;by_cases hf:passF es (passN es B k)=passN es B k
  ·left;show passF es (passF es (passN es B k))=passF es (passN es B k);rw [hf,hf]
  ·right;rcases h4 with h4|h4
   ·exact absurd h4 hf
   ·obtain ⟨c1,c2⟩:=yaV (B:=passN es B k) (B':=passF es (passN es B k)) hl.symm fun i hi=>yaW.2 (g2 _ (by omega) (yaW.1 hi));have:(passN es B k).count true≠(passF es (passN es B k)).count true:=fun e=>hf (c2 e).symm;show k+1≤(passF es (passN es B k)).count true;omega
theorem yfG{es:List E3}{S:LI}{n:Nat}(hr:∀x∈es,0≤x.1∧x.1<(n:Int)∧0≤x.2.2∧x.2.2<(n:Int)){B:List Bool}(hB:B.length=n)(hs:∀s,0≤s→(flg B s=true↔s∈S))(hS:∀s∈S,0≤s):(passN es B n).length=n∧∀s,0≤s→(flg (passN es B n) s=true↔Rc3 es S s):=by
 obtain⟨h1,h2,h3,h4⟩:=yaX (S:=S) hr hB (fun s h0 h=> .ini ((hs s h0).1 h)) n;obtain⟨g1,g2,g3⟩:=yaU (es0:=es) (S:=S) es (fun _ h=>h) hr _ h1 h2;have hfix:passF es (passN es B n)=passN es B n:=by
  rcases h4 with h4|h4
  ·exact h4
  ·obtain ⟨c1,c2⟩:=yaV (B:=passN es B n) (B':=passF es (passN es B n)) (y7R es _).symm fun i hi=>yaW.2 (g2 _ (by omega) (yaW.1 hi));have c3:(passF es (passN es B n)).count true≤(passF es (passN es B n)).length:=List.count_le_length;rw [y7R,h1] at c3;exact(c2 (by omega)).symm
 refine⟨h1,fun s h0=>⟨h2 s h0,fun h=>?_⟩⟩;clear h0
 induction h with
 | ini hm=>exact h3 _ (hS _ hm) ((hs _ (hS _ hm)).2 hm)
 | edge hx _ ih=>exact g3 hfix _ hx ih
theorem ybT{β γ:Type}{xs:List β}(f:Int×γ→Option ((Int×γ)⊕γ))(g:γ→β→γ)(I:γ→Prop)(hx:xs.length≤4294967296)(hI:∀o,I o→∀x∈xs,I (g o x))
  (step:∀j (hj:j<xs.length) (o:γ),I o→f ((j:Int),o)=some (.inl (((j+1:Nat):Int),g o xs[j]))) (last:∀o:γ,f ((xs.length:Int),o)=some (.inr o)) {out:γ} (h0:I out):iter f (0,out)=some (xs.foldl g out):=by
 obtain⟨o,ho,he⟩:=yf (f:=f) (fun j (st:Int×γ)=>st=((j:Int),(xs.take j).foldl g out)∧I ((xs.take j).foldl g out)) (fun o=>o=xs.foldl g out) xs.length 0 (by omega) (fun j st hj ⟨e1,e2⟩=>by
   subst e1;have hs:(xs.take (j+1)).foldl g out=g ((xs.take j).foldl g out) xs[j]:=by rw [yTs hj,List.foldl_append];rfl
   exact .inl ⟨_,step j hj _ e2,by rw [hs],by rw [hs];exact hI _ e2 _ (yGm hj)⟩)
  (fun st ⟨e1,_⟩=>by
   subst e1;exact⟨_,last _,by rw [List.take_length]⟩) (by omega) (0,out) ⟨rfl,h0⟩
 rw [ho,he]
def setF(S:LI)(B:List Bool):List Bool:=S.foldl (fun B s=>B.set s.toNat true) B
theorem yaY{α:Type}{xs:List α}{s:Int}{v:α}(h:0≤s∧s<(xs.length:Int)):upd xs s v=some (xs.set s.toNat v):=by unfold upd;rw [iP h]
theorem y7t{xs:List Bool}{s:Int}(h:0≤s∧s<(xs.length:Int)):idx xs s=some (flg xs s):=by
 unfold idx flg;rw [iP h.1,yGd,yGe (by omega)];rfl
theorem yeT{S:LI}{n:Nat}(hS:∀s∈S,0≤s∧s<(n:Int))(hl:S.length≤4294967296){B:List Bool}(hB:B.length=n):iter (y1O S) (0,B)=some (setF S B):=by
 unfold setF;refine ybT (y1O S) _ (fun B=>B.length=n) hl (fun o h x _=>by rw [List.length_set];exact h) (fun j hj o ho=>?_) (fun o=>?_) hB
 ·have:=hS _ (yGm hj);unfold y1O;simp only [ct_lt hj,if_true,yj hj,yOb];rw [y7t (by omega),yOb,yaY (by omega),yOb,nxt (by omega)]
 ·unfold y1O;simp
def selE(ev:LI)(es:List E3):List E3:=es.filter fun x=>ev.isEmpty||hasB ev x.2.1
theorem yeU{a:NdT}{n:Nat}{ev:LI}(hev:ev.length≤1000000)(hr:∀x∈a.2.2.2.2,0≤x.1∧x.1<(n:Int)∧0≤x.2.2∧x.2.2<(n:Int))(hl:a.2.2.2.2.length≤4294967296){B:List Bool}(hB:B.length=n):iter (y1M a ev) (0,B)=some (passF (selE ev a.2.2.2.2) B):=by
 unfold passF selE;rw [List.foldl_filter];refine ybT (y1M a ev) _ (fun B=>B.length=n) hl (fun o h x _=>by
  split
  ·split
   ·rw [List.length_set];exact h
   ·exact h
  ·exact h) (fun j hj o ho=>?_) (fun o=>?_) hB
 ·have hx:=hr _ (yGm hj);have hc:(if ((ev.length:Int)==0)=true then some true else(yz ev a.2.2.2.2[j].2.1).bind fun r=>some r)=some (ev.isEmpty||hasB ev a.2.2.2.2[j].2.1):=by
   rw [y5V (by omega),yOb];cases ev with
   | nil=>rfl
   | cons x l=>
    have:((x::l).length:Int)≠0:=by rw [yLc];omega
    rw [iN (by simpa using this)];rfl
  unfold y1M;simp only [ct_lt hj,if_true,yj hj,yOb];rw [y7t (by omega),yOb,hc,yOb];cases hf:flg o a.2.2.2.2[j].1 with
  | true=>
   simp only [if_true,yOb];split
   ·rw [y7t (by omega),yOb,yaY (by omega),yOb,yQ];simp only [nxt (show j<4611686018427387904 by omega)]
   ·rw [yQ];simp only [nxt (show j<4611686018427387904 by omega)]
  | false=>
   simp only [Bool.false_eq_true,if_false,yOb,ite_self];rw [yQ];simp only [nxt (show j<4611686018427387904 by omega)]
 ·unfold y1M;simp
theorem yeV{a:NdT}{n:Nat}{ev:LI}(hev:ev.length≤1000000)(hn:a.2.1=(n:Int))(hn1:n≤4096)(hr:∀x∈a.2.2.2.2,0≤x.1∧x.1<(n:Int)∧0≤x.2.2∧x.2.2<(n:Int))(hl:a.2.2.2.2.length≤4294967296){B:List Bool}(hB:B.length=n):iter (y1N a ev) (0,B)=some (passN (selE ev a.2.2.2.2) B n):=by
 have hlen:∀k,(passN (selE ev a.2.2.2.2) B k).length=n:=fun k=>by
  induction k with
  | zero=>exact hB
  | succ k ih=>unfold passN;rw [y7R,ih]
 obtain⟨o,ho,he⟩:=yf (f:=y1N a ev) (fun j st=>st=((j:Int),passN (selE ev a.2.2.2.2) B j)) (fun o=>o=passN (selE ev a.2.2.2.2) B n) n 0 (by omega) (fun j st hj e1=>by
   subst e1;refine .inl ⟨_,?_,rfl⟩;unfold y1N;simp only [hn,ct_lt hj,if_true];rw [yeU hev hr hl (hlen j),yOb,nxt (by omega)];rfl)
  (fun st e1=>by
   subst e1;refine⟨_,?_,rfl⟩;unfold y1N;simp [hn]) (by omega) (0,B) rfl
 rw [ho,he]
def staL(n:Nat)(q:Nat→Bool):LI:=((List.range n).filter q).map fun i:Nat=>(i:Int)
theorem ybU(n:Nat)(q:Nat→Bool):staL (n+1) q=staL n q++if q n=true then [(n:Int)] else []:=by
 unfold staL;rw [List.range_succ,List.filter_append,List.map_append];congr 1;rw [List.filter_cons];split <;> rfl
theorem yar(n:Nat)(q:Nat→Bool):(staL n q).length≤n:=by
 unfold staL;rw [yLm];exact Nat.le_trans (List.length_filter_le _ _) (by simp)
theorem yeW{B:List Bool}(hB:B.length≤4096):iter (y1L B) (0,([]:LI))=some (staL B.length fun i=>flg B (i:Int)):=by
 obtain⟨o,ho,he⟩:=yf (f:=y1L B) (fun j st=>st=((j:Int),staL j fun i=>flg B (i:Int))) (fun o=>o=staL B.length fun i=>flg B (i:Int)) B.length 0 (by omega) (fun j st hj e1=>by
   subst e1;refine .inl ⟨_,?_,rfl⟩;have hl:=yar j fun i=>flg B (i:Int);unfold y1L;simp only [ct_lt hj,if_true];rw [y7t (by omega),yOb,ybU];split
   ·rw [y2G (by simp;omega),yOb,y1K];simp only [nxt (show j<4611686018427387904 by omega)]
   ·rw [y1K,List.append_nil];simp only [nxt (show j<4611686018427387904 by omega)])
  (fun st e1=>by
   subst e1;refine⟨_,?_,rfl⟩;unfold y1L;simp) (by omega) (0,[]) rfl
 rw [ho,he]
theorem ybV{n:Nat}:∀(S:LI),(∀s∈S,0≤s∧s<(n:Int))→∀B:List Bool,B.length=n→(setF S B).length=n∧∀s,0≤s→(flg (setF S B) s=true↔s∈S∨flg B s=true)
 | [],_,B,hB=>⟨hB,fun s _=>by simp [setF]⟩
 | x::S,hS,B,hB=>by
  have hx:=hS x (.head _);obtain⟨h1,h2⟩:=ybV S (fun s hs=>hS s (.tail _ hs)) (B.set x.toNat true) (by rw [List.length_set];exact hB);refine⟨h1,fun s h0=>?_⟩;show flg (setF S (B.set x.toNat true)) s=true↔_;rw [h2 s h0,y7s h0 hx.1 (by omega),yMo];by_cases e:s=x
  ·subst e;simp
  ·rw [iN e];constructor
   ·rintro (h|h)
    ·exact .inl (.inr h)
    ·exact .inr h
   ·rintro ((h|h)|h)
    ·exact absurd h e
    ·exact .inl h
    ·exact .inr h
theorem yeX{a:NdT}(ha:NdOk a){S ev:LI}(hev:ev.length≤1000000)(hS:∀s∈S,0≤s∧s<a.2.1)(hl:S.length≤4294967296):∃q:Nat→Bool,yL a S ev=some (staL a.2.1.toNat q)∧∀i:Nat,i<a.2.1.toNat→(q i=true↔Rc3 (selE ev a.2.2.2.2) S (i:Int)):=by
 obtain⟨n,hn⟩:∃n:Nat,a.2.1=(n:Int):=⟨a.2.1.toNat,by have:=ha.n0;omega⟩;have hn1:=ha.n1;have hle:=ha.le;rw [hn] at hS;have hr:∀x∈a.2.2.2.2,0≤x.1∧x.1<(n:Int)∧0≤x.2.2∧x.2.2<(n:Int):=fun x hx=>by
  have:=ha.esr x hx;omega
 have h0:(List.replicate n false).length=n:=List.length_replicate ..;obtain⟨h1,h2⟩:=ybV S hS _ h0;obtain⟨g1,g2⟩:=yfG (es:=selE ev a.2.2.2.2) (S:=S) (fun x hx=>hr x (List.mem_filter.1 hx).1) h1 (fun s hs=>by
  rw [h2 s hs];have:flg (List.replicate n false) s=false:=by
   unfold flg;rw [yGd,List.getElem?_replicate];split <;> rfl
  simp [this]) fun s hs=>(hS s hs).1
 refine⟨fun i=>flg (passN (selE ev a.2.2.2.2) (setF S (List.replicate n false)) n) (i:Int),?_,fun i _=>g2 _ (by omega)⟩;have hm:mkL a.2.1 false=some (List.replicate n false):=by unfold mkL;rw [hn,iP (by omega)];rfl
 have h3:=yeW (B:=passN (selE ev a.2.2.2.2) (setF S (List.replicate n false)) n) (by omega);rw [g1] at h3;rw [yL,hm,yOb,yeT hS hl h0,yOb,yeV hev hn (by omega) hr (by omega) h1,yOb,h3,yOb,hn,yTn]
theorem ybt{xs:LI}{p:Int→Option Bool}{g:Int→Bool}(hl:xs.length≤1000000)(hp:∀x∈xs,p x=some (g x)):yR xs p=some (xs.any g):=by
 obtain⟨o,h1,h2⟩:=yf (f:=y2v xs p) (fun i s=>s=(i:Int)∧xs.any g=(xs.drop i).any g) (fun o=>(o= .inl ()∧xs.any g=false)∨∃i:Nat,o= .inr (i:Int)∧xs.any g=true) xs.length 0 (by omega) (fun i s hi ⟨e1,e2⟩=>by
  subst e1;rw [yDc hi,List.any_cons] at e2;rw [y2v,iP (ct_lt hi),yj hi,yOb,hp _ (yGm hi),yOb];cases hg:g xs[i] with
  | true=>
   rw [hg] at e2;exact .inr ⟨_,by rw [iP rfl],.inr ⟨i,rfl,e2⟩⟩
  | false=>
   rw [hg] at e2;exact .inl ⟨_,by rw [iN (by simp),nxt (by omega)],rfl,e2⟩) (fun s ⟨e1,e2⟩=>by
  subst e1;rw [List.drop_length] at e2;exact⟨_,by rw [y2v,iN ct_ge],.inl ⟨rfl,e2⟩⟩) (yZl _) 0 ⟨rfl,rfl⟩
 rw [yR,y3X,h1,yOb];rcases h2 with ⟨rfl,e⟩|⟨i,rfl,e⟩
 ·rw [e];rfl
 ·rw [e];show some (decide ((i:Int)≥0))=some true;simp
theorem yfH{n:Nat}{q:Nat→Bool}{x:Int}:x∈staL n q↔ ∃i:Nat,x=i∧i<n∧q i=true:=by
 unfold staL;simp only [yMp,List.mem_filter,List.mem_range];constructor
 ·rintro ⟨i,⟨h1,h2⟩,rfl⟩;exact⟨i,rfl,h1,h2⟩
 ·rintro ⟨i,rfl,h1,h2⟩;exact⟨i,⟨h1,h2⟩,rfl⟩
inductive RcL (lead:Int→LI) (S:LI):Int→Prop
 | ini {s:Int}:s∈S→RcL lead S s
 | step {s t:Int}:RcL lead S s→t∈lead s→RcL lead S t
def potS(lead:Int→LI)(B:List Bool):Nat→Nat
 | 0=>0
 | k+1=>potS lead B k+if flg B (k:Int)=true then 0 else(lead (k:Int)).length
theorem ycK{lead:Int→LI}{B:List Bool}{x:Nat}(hx:x<B.length)(hf:flg B (x:Int)=false):∀k:Nat,potS lead (B.set x true) k+(if x<k then(lead (x:Int)).length else 0)=potS lead B k
 | 0=>rfl
 | k+1=>by
  have ih:=ycK (lead:=lead) hx hf k;have e:=y7s (B:=B) (s:=(k:Int)) (t:=(x:Int)) (by omega) (by omega) (by omega);rw [yTn] at e;show potS lead (B.set x true) k+(if flg (B.set x true) (k:Int)=true then 0 else(lead (k:Int)).length)+(if x<k+1 then(lead (x:Int)).length else 0)=potS lead B k+if flg B (k:Int)=true then 0 else(lead (k:Int)).length
  by_cases h1:k=x
  ·subst h1;rw [iN (Nat.lt_irrefl _)] at ih;rw [e,iP rfl,iP rfl,iP (Nat.lt_succ_self _),hf,iN (by simp)];omega
  ·rw [iN (by omega)] at e;rw [e];by_cases h2:x<k
   ·rw [iP h2] at ih;rw [iP (show x<k+1 by omega)];omega
   ·rw [iN h2] at ih;rw [iN (show ¬x<k+1 by omega)];omega
theorem ydA{lead:Int→LI}{B:List Bool}{M:Nat}:∀k:Nat,(∀i:Nat,i<k→(lead (i:Int)).length≤M)→potS lead B k≤k*M
 | 0,_=>by simp [potS]
 | k+1,h=>by
  have ih:=ydA (B:=B) k fun i hi=>h i (by omega);have:=h k (by omega);rw [Nat.add_mul,Nat.one_mul];unfold potS;split <;> omega
structure SrI (lead:Int→LI) (S:LI) (n:Nat) (B:List Bool) (todo:LI):Prop where
 len:B.length=n
 rng:∀x∈todo,0≤x∧x<(n:Int)
 rc:∀x∈todo,RcL lead S x
 fl:∀s,0≤s→flg B s=true→RcL lead S s
 nx:∀s,0≤s→flg B s=true→∀t∈lead s,flg B t=true∨t∈todo
 st:∀s∈S,flg B s=true∨s∈todo
theorem yd8{σ ο:Type}{f:σ→Option (σ⊕ο)}(mk:List Bool→LI→σ)(out:List Bool→ο){lead:Int→LI}{S:LI}{n M:Nat}(hn:n≤4096)(hM:M≤65536)(hSl:S.length≤300000000)(hS:∀s∈S,0≤s∧s<(n:Int))
  (hl:∀s,0≤s→s<(n:Int)→(lead s).length≤M∧∀t∈lead s,0≤t∧t<(n:Int))
  (s1:∀B todo x,B.length=n→0≤x→x<(n:Int)→todo.length≤600000000→flg B x=true→f (mk B (todo++[x]))=some (.inl (mk B todo)))
  (s2:∀B todo x,B.length=n→0≤x→x<(n:Int)→todo.length+(lead x).length≤600000000→flg B x=false→f (mk B (todo++[x]))=some (.inl (mk (B.set x.toNat true) (todo++lead x))))
  (s3:∀B,f (mk B [])=some (.inr (out B))):
  ∃B,iter f (mk (List.replicate n false) S)=some (out B)∧B.length=n∧∀s,0≤s→(flg B s=true↔RcL lead S s):=by
 have hf0:∀s,flg (List.replicate n false) s=false:=fun s=>by
  unfold flg;rw [yGd,List.getElem?_replicate];split <;> rfl
 have hp0:potS lead (List.replicate n false) n≤4096*65536:=Nat.le_trans (ydA (M:=M) n fun i hi=>(hl _ (by omega) (by omega)).1) (Nat.mul_le_mul hn hM);obtain⟨o,h1,B,rfl,h2,h3⟩:=yf (f:=f) (fun i s=>∃B todo,s=mk B todo∧SrI lead S n B todo∧i+todo.length+potS lead B n≤600000000) (fun o=>∃B,o=out B∧B.length=n∧∀s,0≤s→(flg B s=true↔RcL lead S s)) 600000001 0 (by omega) (fun i s _ ⟨B,todo,e1,hI,hm⟩=>by
   subst e1;rcases List.eq_nil_or_concat todo with rfl|⟨td,x,rfl⟩
   ·refine .inr ⟨_,s3 B,B,rfl,hI.len,fun s hs=>⟨hI.fl s hs,fun h=>?_⟩⟩;clear hs
    induction h with
    | ini h=>exact(hI.st _ h).resolve_right (by simp)
    | step hr h ih=>
     have h0:∀{s:Int},RcL lead S s→0≤s∧s<(n:Int):=fun h=>by
      clear ih
      induction h with
      | ini h=>exact hS _ h
      | step _ h ih=>exact(hl _ ih.1 ih.2).2 _ h
     exact(hI.nx _ (h0 hr).1 ih _ h).resolve_right (by simp)
   ·rw [List.concat_eq_append] at hI hm ⊢;have hx:=hI.rng x (by simp);rw [yLa,List.length_singleton] at hm;left;cases hf:flg B x with
    | true=>
     refine⟨_,s1 B td x hI.len hx.1 hx.2 (by omega) hf,B,td,rfl,⟨hI.len,fun y hy=>hI.rng y (by simp [hy]),fun y hy=>hI.rc y (by simp [hy]),hI.fl,fun s hs hb t ht=>?_,fun s hs=>?_⟩,by omega⟩
     ·rcases hI.nx s hs hb t ht with h|h
      ·exact .inl h
      ·rcases yMa.1 h with h|h
       ·exact .inr h
       ·rw [yMs.1 h];exact .inl hf
     ·rcases hI.st s hs with h|h
      ·exact .inl h
      ·rcases yMa.1 h with h|h
       ·exact .inr h
       ·rw [yMs.1 h];exact .inl hf
    | false=>
     obtain⟨k,rfl⟩:∃k:Nat,x=(k:Int):=⟨x.toNat,by omega⟩;have hk:k<B.length:=by have:=hI.len;omega
     have hp:=ycK (lead:=lead) hk hf n;rw [iP (by omega)] at hp;have hrx:=hI.rc _ (yMr td (yMs.2 rfl));have hfs:∀s,0≤s→flg (B.set k true) s=if s=(k:Int) then true else flg B s:=fun s hs=>by
      have e:=y7s (B:=B) (t:=(k:Int)) hs (by omega) (by omega);rwa [yTn] at e
     have hms:i+1+(td++lead k).length+potS lead (B.set k true) n≤600000000:=by rw [yLa];omega
     refine⟨_,s2 B td k hI.len hx.1 hx.2 (by rw [yLa] at hms;omega) hf,B.set k true,td++lead k,rfl,⟨by rw [List.length_set];exact hI.len,fun y hy=>?_,fun y hy=>?_,fun s hs h=>?_,fun s hs hb t ht=>?_,fun s hs=>?_⟩,hms⟩
     ·rcases yMa.1 hy with hy|hy
      ·exact hI.rng y (by simp [hy])
      ·exact (hl _ hx.1 hx.2).2 y hy
     ·rcases yMa.1 hy with hy|hy
      ·exact hI.rc y (by simp [hy])
      ·exact .step hrx hy
     ·rw [hfs s hs] at h;split at h
      ·rename_i e;rw [e];exact hrx
      ·exact hI.fl s hs h
     ·rw [hfs s hs] at hb;have key:∀{t:Int},0≤t→flg B t=true∨t∈td++[(k:Int)]→flg (B.set k true) t=true∨t∈td++lead k:=fun {t} h0 h=>by
       rw [hfs t h0];rcases h with h|h
       ·left;split
        ·rfl
        ·exact h
       ·rcases yMa.1 h with h|h
        ·exact .inr (yMl _ h)
        ·rw [yMs.1 h,iP rfl];exact .inl rfl
      split at hb
      ·rename_i e;rw [e] at ht;exact .inr (yMr _ ht)
      ·rcases hI.nx s hs hb t ht with h|h
       ·by_cases h0:0≤t
        ·exact key h0 (.inl h)
        ·exfalso;have hs2:s<(n:Int):=by
          rcases Int.lt_or_le s n with h|h
          ·exact h
          ·exfalso;unfold flg at hb;rw [yGd,yGn (by have:=hI.len;omega)] at hb;simp at hb
         have:=(hl s hs hs2).2 t ht;omega
       ·exact key (hI.rng t h).1 (.inr h)
     ·have h0:=hS s hs;rw [hfs s h0.1];rcases hI.st s hs with h|h
      ·left;split
       ·rfl
       ·exact h
      ·rcases yMa.1 h with h|h
       ·exact .inr (yMl _ h)
       ·rw [yMs.1 h,iP rfl];exact .inl rfl)
  (fun s ⟨B,todo,_,_,hm⟩=>by omega) (by omega) _ ⟨_,S,rfl,⟨List.length_replicate ..,hS,fun x hx=> .ini hx,fun s _ h=>by rw [hf0 s] at h;simp at h,fun s _ h=>by rw [hf0 s] at h;simp at h,fun s hs=> .inr hs⟩,by omega⟩
 exact⟨B,h1,h2,h3⟩
theorem ydB{α:Type}{td:List α}{x:α}(h:td.length≤4294967296):idx (td++[x]) (W (((td++[x]).length:Int)-1))=some x:=by
 have e:(((td++[x]).length:Int)-1)=(td.length:Int):=by rw [yLa,List.length_singleton];omega
 rw [e,W_nat (by omega),yj (by simp)];simp
theorem ydC{α:Type}{td:List α}{x:α}(h:td.length≤4294967296):slc (td++[x]) 0 (W (((td++[x]).length:Int)-1))=some td:=by
 have e:(((td++[x]).length:Int)-1)=(td.length:Int):=by rw [yLa,List.length_singleton];omega
 have:=y9G (xs:=td++[x]) (i:=0) (j:=td.length) (by omega) (by simp);rw [e,W_nat (by omega)];rw [show (0:Int)=((0:Nat):Int) from rfl,this];simp
theorem ydD{α:Type}{td:List α}{x:α}:decide (((td++[x]).length:Int)>0)=true:=by simp
end
section
open Go.Proofs.Tryz
section
variable{κ:Type}[BEq κ][LawfulBEq κ]
def numS(st:List κ×LI)(k:κ):List κ×LI:=if k∈st.1 then(st.1,st.2++[(st.1.idxOf k:Int)]) else(st.1++[k],st.2++[(st.1.length:Int)])
def numF(keys:List κ):List κ×LI:=keys.foldl numS ([],[])
theorem ybW(keys:List κ)(k:κ):numF (keys++[k])=numS (numF keys) k:=by unfold numF;rw [List.foldl_append];rfl
structure NumI (keys D:List κ) (out:LI):Prop where
 len:out.length=keys.length
 nd:D.Nodup
 dl:D.length≤keys.length
 at':∀(i:Nat) (k:κ),keys[i]? =some k→k∈D∧out[i]? =some (D.idxOf k:Int)
 all:∀y:Int,0≤y→y<(D.length:Int)→∃j:Nat,out[j]? =some y
 fst:y1D out
 lt:∀(i:Nat) (x:Int),out[i]? =some x→0≤x∧x<(D.length:Int)
theorem y5e{out:LI}{x:Int}(h:y1D out)(h0:0≤x)(h1:∀y:Int,0≤y→y<x→∃j:Nat,out[j]? =some y)(h2:(∃j:Nat,out[j]? =some x)∨∀(j:Nat) y,out[j]? =some y→y<x):y1D (out++[x]):=by
 have hb:∀{j:Nat} {y:Int},out[j]? =some y→j<out.length:=fun h=>(yGs.1 h).1;intro i z hz;by_cases hi:i<out.length
 ·have e:∀j:Nat,j≤i→(out++[x])[j]? =out[j]? :=fun j hj=>yAl (by omega);rw [e i (yNr _)] at hz;obtain⟨k1,k2,k3⟩:=h i z hz;refine⟨k1,fun y hy hlt=>?_,?_⟩
  ·obtain ⟨j,hj,g⟩:=k2 y hy hlt;exact⟨j,hj,by rw [e j (by omega)];exact g⟩
  ·rcases k3 with ⟨j,hj,g⟩|k3
   ·exact .inl ⟨j,hj,by rw [e j (by omega)];exact g⟩
   ·exact .inr fun j y hj g=>k3 j y hj (by rw [←e j (by omega)];exact g)
 ·have hi2:i=out.length:=by
   have:=(yGs.1 hz).1;rw [yLa,List.length_singleton] at this;omega
  subst hi2;rw [yAr (yNr _),Nat.sub_self] at hz;have hz:x=z:=by simpa using hz
  subst hz;have e:∀j:Nat,j<out.length→(out++[x])[j]? =out[j]? :=fun j hj=>yAl hj;refine⟨h0,fun y hy hlt=>?_,?_⟩
  ·obtain ⟨j,g⟩:=h1 y hy hlt;exact⟨j,hb g,by rw [e j (hb g)];exact g⟩
  ·rcases h2 with ⟨j,g⟩|h2
   ·exact .inl ⟨j,hb g,by rw [e j (hb g)];exact g⟩
   ·exact .inr fun j y hj g=>h2 j y (by rw [←e j hj];exact g)
theorem ygq{keys:List κ}{st:List κ×LI}(h:NumI keys st.1 st.2)(k:κ):NumI (keys++[k]) (numS st k).1 (numS st k).2:=by
 obtain⟨D,out⟩:=st;dsimp only at h;have hl:=h.len;have snoc:∀{α:Type} {l:List α} {x y:α} {i:Nat},(l++[x])[i]? =some y→(i<l.length∧l[i]? =some y)∨(i=l.length∧x=y):=fun {α l x y i} g=>by
  by_cases hi:i<l.length
  ·rw [yAl hi] at g;exact .inl ⟨hi,g⟩
  ·have:=(yGs.1 g).1;rw [yLa,List.length_singleton] at this;have hi:i=l.length:=by omega
   subst hi;rw [yAr (yNr _),Nat.sub_self] at g;exact .inr ⟨rfl,by simpa using g⟩
 unfold numS;dsimp only;split
 ·rename_i hk;have hkl:=List.idxOf_lt_length_of_mem hk;refine⟨by simp [hl],h.nd,by simp;have:=h.dl;omega,fun i k' hi=>?_,fun y h0 h1=>?_,?_,fun i x hx=>?_⟩
  ·rcases snoc hi with ⟨hlt,g⟩|⟨rfl,rfl⟩
   ·obtain ⟨g1,g2⟩:=h.at' i k' g;exact⟨g1,by rw [yAl (by omega)];exact g2⟩
   ·exact ⟨hk,by rw [yAr (by omega),hl,Nat.sub_self];rfl⟩
  ·obtain ⟨j,g⟩:=h.all y h0 h1;exact⟨j,by rw [yAl (yGs.1 g).1];exact g⟩
  ·exact y5e h.fst (by omega) (fun y h0 h1=>h.all y h0 (by omega)) (.inl (h.all _ (by omega) (by omega)))
  ·rcases snoc hx with ⟨_,g⟩|⟨_,rfl⟩
   ·exact h.lt i x g
   ·dsimp only;omega
 ·rename_i hk;refine⟨by simp [hl],?_,by simp;have:=h.dl;omega,fun i k' hi=>?_,fun y h0 h1=>?_,?_,fun i x hx=>?_⟩
  ·unfold List.Nodup;rw [List.pairwise_append];exact⟨h.nd,List.pairwise_singleton _ _,fun x hx y hy e=>hk (by rw [←yMs.1 hy,←e];exact hx)⟩
  ·rcases snoc hi with ⟨hlt,g⟩|⟨rfl,rfl⟩
   ·obtain ⟨g1,g2⟩:=h.at' i k' g;exact⟨yMl _ g1,by rw [yAl (by omega),List.idxOf_append,iP g1];exact g2⟩
   ·exact ⟨yMr _ (yMs.2 rfl),by rw [yAr (by omega),hl,Nat.sub_self,List.idxOf_append,iN hk];simp⟩
  ·rw [yLa,List.length_singleton] at h1;by_cases hy:y<(D.length:Int)
   ·obtain ⟨j,g⟩:=h.all y h0 hy;exact⟨j,by rw [yAl (yGs.1 g).1];exact g⟩
   ·refine ⟨out.length,?_⟩;rw [yAr (yNr _),Nat.sub_self];have:y=(D.length:Int):=by omega
    rw [this];rfl
  ·exact y5e h.fst (by omega) h.all (.inr fun j y g=>(h.lt j y g).2)
  ·rw [yLa,List.length_singleton];rcases snoc hx with ⟨_,g⟩|⟨_,rfl⟩
   ·have:=h.lt i x g;omega
   ·omega
theorem y8z(keys:List κ):NumI keys (numF keys).1 (numF keys).2:=by
 have key:∀n,n≤keys.length→NumI (keys.take n) (numF (keys.take n)).1 (numF (keys.take n)).2:=by
  intro n
  induction n with
  | zero=>intro _;exact⟨rfl,.nil,yNr _,fun i k h=>by simp at h,fun y h0 h1=>by simp [numF] at h1;omega,fun i x h=>by simp [numF] at h,fun i x h=>by simp [numF] at h⟩
  | succ n ih=>
   intro hn;rw [yTs (by omega),ybW];exact ygq (ih (by omega)) _
 have:=key keys.length (yNr _);rwa [List.take_length] at this
def numK(keys:List κ):LI:=(numF keys).2
theorem yas(keys:List κ):(numK keys).length=keys.length:=(y8z keys).len
theorem yaZ(keys:List κ):y1D (numK keys):=(y8z keys).fst
theorem ydE(keys:List κ){i j:Nat}{k k':κ}(hi:keys[i]? =some k)(hj:keys[j]? =some k'):(numK keys)[i]? =(numK keys)[j]? ↔k=k':=by
 obtain⟨h1,h2⟩:=(y8z keys).at' i k hi;obtain⟨h3,h4⟩:=(y8z keys).at' j k' hj;unfold numK;rw [h2,h4];constructor
 ·intro e;have e:((numF keys).1.idxOf k:Int)=((numF keys).1.idxOf k':Int):=by simpa using e
  have e:(numF keys).1.idxOf k=(numF keys).1.idxOf k':=by omega
  have g1:=List.getElem_idxOf (List.idxOf_lt_length_of_mem h1);have g2:=List.getElem_idxOf (List.idxOf_lt_length_of_mem h3);rw [←g1,←g2];congr 1
 ·rintro rfl;rfl
end
theorem y1D.lt{c:LI}(h:y1D c):∀(i:Nat) (x:Int),c[i]? =some x→0≤x∧x≤(i:Int):=by
 have key:∀n i:Nat,i<n→∀x,c[i]? =some x→x≤(i:Int):=by
  intro n
  induction n with
  | zero=>intro i hi;omega
  | succ n ih=>
   intro i hi x hx;obtain⟨h0,h1,_⟩:=h i x hx;rcases Int.lt_or_le (i:Int) x with hlt|hle
   ·obtain ⟨j,hj,g⟩:=h1 (x-1) (by omega) (by omega);have:=ih j (by omega) (x-1) g;omega
   ·exact hle
 exact fun i x hx=>⟨(h i x hx).1,key (i+1) i (by omega) x hx⟩
def cF(c:LI)(s:Int):Int:=c.getD s.toNat 0
def Vn(n:Nat)(s:Int):Prop:=0≤s∧s<(n:Int)
theorem cF_at{c:LI}{i:Nat}(h:i<c.length):c[i]? =some (cF c (i:Int)):=by
 unfold cF;rw [yTn,yGd,yGe h];rfl
def refR(L:Lts Int)(f:Int→Int)(s t:Int):Prop:=f s=f t∧∀e,L.lab e→∀x,(∃u,L.wk e s u∧f u=x)↔ ∃u,L.wk e t u∧f u=x
structure RfI (L:Lts Int) (n:Nat) (c:LI):Prop where
 len:c.length=n
 fst:y1D c
 mks:∀s t,Vn n s→Vn n t→cF c s=cF c t→L.mks s→L.mks t
 cr:Lts.Crs L (Vn n) (cF c)
structure RfN (L:Lts Int) (n:Nat) (c d:LI):Prop where
 len:d.length=n
 fst:y1D d
 eq:∀s t,Vn n s→Vn n t→(cF d s=cF d t↔refR L (cF c) s t)
section
variable{L:Lts Int}{n:Nat}{c d:LI}
theorem RfI.next(h:RfI L n c)(hn:RfN L n c d)(hV:L.In (Vn n)):RfI L n d where
 len:=hn.len
 fst:=hn.fst
 mks s t hs ht e hm:=h.mks s t hs ht ((hn.eq s t hs ht).1 e).1 hm
 cr:=fun P hP s t hs ht hst=>by
  rw [hn.eq s t hs ht];refine⟨h.cr P hP s t hs ht hst,fun e he x=>⟨?_,?_⟩⟩
  ·rintro ⟨u,hu,rfl⟩;obtain⟨v,hv,huv⟩:=hP.w s t hs ht hst e he u hu;exact⟨v,hv,(h.cr P hP u v (hV.wk hs hu) (hV.wk ht hv) huv).symm⟩
  ·rintro ⟨u,hu,rfl⟩;obtain⟨v,hv,huv⟩:=hP.w t s ht hs (hP.sy s t hs ht hst) e he u hu;exact⟨v,hv,(h.cr P hP u v (hV.wk ht hu) (hV.wk hs hv) huv).symm⟩
theorem RfI.stb(h:RfI L n c)(hn:RfN L n c c):Lts.Stb L (Vn n) fun s t=>cF c s=cF c t where
 sy s t _ _ e:=e.symm
 m:=h.mks
 w s t hs ht e0 e he s' hw:=by
  obtain⟨u,h1,h2⟩:=(((hn.eq s t hs ht).1 e0).2 e he (cF c s')).1 ⟨s',hw,rfl⟩;exact⟨u,h1,h2.symm⟩
def eqs(n:Nat)(c:LI):Nat:=((List.range (n*n)).filter fun k=>cF c ((k/n:Nat):Int)==cF c ((k % n:Nat):Int)).length
theorem ybX{α:Type}{p q:α→Bool}:∀{l:List α},(∀x∈l,p x=true→q x=true)→(∃x∈l,q x=true∧p x=false)→(l.filter p).length<(l.filter q).length
 | [],_,h=>by obtain⟨x,hx,_⟩:=h;cases hx
 | y::l,h,hx=>by
  have hle:(l.filter p).length≤(l.filter q).length:=by
   have:=List.countP_mono_left (l:=l) (p:=p) (q:=q) fun x hx=>h x (.tail _ hx);rwa [List.countP_eq_length_filter,List.countP_eq_length_filter] at this
  rw [List.filter_cons,List.filter_cons];obtain⟨x,hx,hq,hp⟩:=hx;rcases yMo.1 hx with rfl|hx
  ·rw [hq,hp];simp;omega
  ·have ih:=ybX (l:=l) (fun x hx=>h x (.tail _ hx)) ⟨x,hx,hq,hp⟩;have hy:=h y (.head _);cases h1:p y with
   | true=>rw [hy h1];simp;exact ih
   | false=>
    cases q y with
    | true=>simp;omega
    | false=>simp;exact ih
theorem ygT(n:Nat)(c:LI):eqs n c≤n*n:=by
 unfold eqs;exact Nat.le_trans (List.length_filter_le _ _) (by simp)
theorem RfN.lt(hc:c.length=n)(hf:y1D c)(h:RfN L n c d)(hne:d≠c):eqs n d<eqs n c:=by
 have hdiv:∀k,k<n*n→k/n<n∧k % n<n:=fun k hk=>by
  have h0:0<n:=by
   rcases Nat.eq_zero_or_pos n with e|e
   ·subst e;simp at hk
   ·exact e
  exact⟨Nat.div_lt_of_lt_mul hk,Nat.mod_lt _ h0⟩
 have hex:∃i j:Nat,i<n∧j<n∧cF c (i:Int)=cF c (j:Int)∧cF d (i:Int)≠cF d (j:Int):=by
  refine Classical.byContradiction fun hno=>hne ?_;refine y1D.unique h.fst hf (by rw [h.len,hc]) fun i j x y hi hj u v hu hv=>?_;have hi2:=(yGs.1 hi).1;have hj2:=(yGs.1 hj).1;have hl:=h.len;rw [cF_at hi2] at hi;rw [cF_at hj2] at hj;rw [cF_at (by omega)] at hu hv;cases hi;cases hj;cases hu;cases hv;constructor
  ·intro e;exact((h.eq _ _ ⟨by omega,by omega⟩ ⟨by omega,by omega⟩).1 e).1
  ·intro e;exact Classical.byContradiction fun hd=>hno ⟨i,j,by omega,by omega,e,hd⟩
 unfold eqs;refine ybX (fun k hk hd=>?_) ?_
 ·obtain ⟨h1,h2⟩:=hdiv k (List.mem_range.1 hk);simp only [beq_iff_eq] at hd ⊢;exact((h.eq _ _ ⟨Int.natCast_nonneg _,by omega⟩ ⟨Int.natCast_nonneg _,by omega⟩).1 hd).1
 ·obtain ⟨i,j,hi,hj,h1,h2⟩:=hex;have e1:(i*n+j)/n=i:=by rw [Nat.mul_comm,Nat.mul_add_div (by omega),Nat.div_eq_of_lt hj];rfl
  have e2:(i*n+j) % n=j:=by rw [Nat.mul_comm,Nat.mul_add_mod,Nat.mod_eq_of_lt hj]
  have hlt:i*n+j<n*n:=Nat.lt_of_lt_of_le (show i*n+j<i*n+n by omega) (by rw [←Nat.succ_mul];exact Nat.mul_le_mul_right n hi);refine⟨i*n+j,List.mem_range.2 hlt,?_,?_⟩
  ·rw [e1,e2];simpa using h1
  ·rw [e1,e2];simpa using h2
structure RfOk (L:Lts Int) (n:Nat) (c:LI):Prop extends RfI L n c where
 st:Lts.Stb L (Vn n) fun s t=>cF c s=cF c t
theorem RfOk.unique(h:RfOk L n c)(h2:RfOk L n d):c=d:=by
 refine y1D.unique h.fst h2.fst (by rw [h.len,h2.len]) fun i j x y hi hj u v hu hv=>?_;have hi2:=(yGs.1 hi).1;have hj2:=(yGs.1 hj).1;have hl:=h.len;have hl2:=h2.len;rw [cF_at hi2] at hi;rw [cF_at hj2] at hj;rw [cF_at (by omega)] at hu hv;cases hi;cases hj;cases hu;cases hv;exact⟨fun e=>h2.cr _ h.st _ _ ⟨by omega,by omega⟩ ⟨by omega,by omega⟩ e,fun e=>h.cr _ h2.st _ _ ⟨by omega,by omega⟩ ⟨by omega,by omega⟩ e⟩
end
def topL(c:LI):Int:=c.foldl (fun m x=>max m (x+1)) 0
theorem y9T :∀(c:LI) (m:Int),m≤c.foldl (fun m x=>max m (x+1)) m∧(∀x∈c,x<c.foldl (fun m x=>max m (x+1)) m)∧(c.foldl (fun m x=>max m (x+1)) m=m∨∃x∈c,c.foldl (fun m x=>max m (x+1)) m=x+1)
 | [],m=>⟨Int.le_refl _,fun x hx=>(by cases hx),.inl rfl⟩
 | y::c,m=>by
  obtain⟨h1,h2,h3⟩:=y9T c (max m (y+1));rw [List.foldl_cons];refine⟨by omega,fun x hx=>?_,?_⟩
  ·rcases yMo.1 hx with rfl|hx
   ·omega
   ·exact h2 x hx
  ·rcases h3 with h3|⟨x,hx,h3⟩
   ·by_cases h:m≤y+1
    ·exact .inr ⟨y,.head _,by rw [h3];omega⟩
    ·left;rw [h3];omega
   ·exact .inr ⟨x,.tail _ hx,h3⟩
theorem ygr{c:LI}{x:Int}(h:x∈c):x<topL c:=(y9T c 0).2.1 x h
theorem ygs(c:LI):0≤topL c:=(y9T c 0).1
theorem yeY{c:LI}(h:0<topL c):topL c-1∈c:=by
 rcases(y9T c 0).2.2 with h1|⟨x,hx,h1⟩
 ·unfold topL at h;omega
 ·have:topL c-1=x:=by unfold topL;omega
  rw [this];exact hx
theorem y1D.top_le{c:LI}(h:y1D c):topL c≤(c.length:Int):=by
 by_cases h0:0<topL c
 ·obtain ⟨i,hi,e1⟩:=List.mem_iff_getElem.1 (yeY h0);have:=h.lt i (topL c-1) (by rw [yGe hi,e1]);omega
 ·omega
theorem y8A{c:LI}{s:Int}(h0:0≤s)(h1:s<(c.length:Int)):cF c s∈c:=by
 have:=cF_at (c:=c) (i:=s.toNat) (by omega);rw [show ((s.toNat:Nat):Int)=s by omega] at this;exact List.mem_of_getElem? this
def ObsE(L:Lts Int)(n:Nat)(s t:Int):Prop:=∃P,Lts.Stb L (Vn n) P∧P s t
section
variable{L:Lts Int}{n:Nat}
theorem y9U(L:Lts Int)(n:Nat):Lts.Stb L (Vn n) (ObsE L n) where
 sy s t hs ht:=fun⟨P,hP,h⟩=>⟨P,hP,hP.sy s t hs ht h⟩
 m s t hs ht:=fun⟨_,hP,h⟩=>hP.m s t hs ht h
 w s t hs ht:=fun⟨P,hP,h⟩ e he s' hw=>by
  obtain⟨t',h1,h2⟩:=hP.w s t hs ht h e he s' hw;exact⟨t',h1,P,hP,h2⟩
theorem yfI(s:Int):ObsE L n s s:=⟨fun s t=>s=t,⟨fun _ _ _ _ e=>e.symm,fun _ _ _ _ e h=>e▸h,fun _ _ _ _ e _ _ s' h=>⟨s',e▸h,rfl⟩⟩,rfl⟩
theorem y5S{s t:Int}(hs:Vn n s)(ht:Vn n t)(h:ObsE L n s t):ObsE L n t s:=(y9U L n).sy s t hs ht h
theorem ybY(hV:L.In (Vn n)){s t u:Int}(ht:Vn n t)(h1:ObsE L n s t)(h2:ObsE L n t u):ObsE L n s u:=by
 have hE:=y9U L n;refine⟨fun s u=>∃t,Vn n t∧ObsE L n s t∧ObsE L n t u,⟨fun s u hs hu=>fun⟨t,ht,g1,g2⟩=>⟨t,ht,hE.sy _ _ ht hu g2,hE.sy _ _ hs ht g1⟩,fun s u hs hu=>fun⟨t,ht,g1,g2⟩ hm=>hE.m t u ht hu g2 (hE.m s t hs ht g1 hm),fun s u hs hu=>fun⟨t,ht,g1,g2⟩ e he s' hw=>?_⟩,t,ht,h1,h2⟩;obtain⟨t',k1,k2⟩:=hE.w s t hs ht g1 e he s' hw;obtain⟨u',k3,k4⟩:=hE.w t u ht hu g2 e he t' k1;exact⟨u',k3,t',hV.wk ht k1,k2,k4⟩
structure LcI (L:Lts Int) (n j:Nat) (o:LI) (k:Int):Prop where
 len:o.length=j
 fst:y1D o
 rng:∀(i:Nat) (x:Int),o[i]? =some x→0≤x∧x<k
 all:∀y:Int,0≤y→y<k→∃i:Nat,o[i]? =some y
 eq:∀(i i':Nat) (x x':Int),o[i]? =some x→o[i']? =some x'→(x=x'↔ObsE L n (i:Int) (i':Int))
 kn:0≤k
theorem y9e{α:Type}{l:List α}{x y:α}{i:Nat}(g:(l++[x])[i]? =some y):(i<l.length∧l[i]? =some y)∨(i=l.length∧x=y):=by
 by_cases hi:i<l.length
 ·rw [yAl hi] at g;exact .inl ⟨hi,g⟩
 ·have:=(yGs.1 g).1;rw [yLa,List.length_singleton] at this;have hi:i=l.length:=by omega
  subst hi;rw [yAr (yNr _),Nat.sub_self] at g;exact .inr ⟨rfl,by simpa using g⟩
theorem LcI.snoc{j:Nat}{o:LI}{k k' x:Int}(h:LcI L n j o k)(hj:j<n)(hk:k≤k')(hx:0≤x∧x<k')(hf:y1D (o++[x]))(ha:∀y:Int,k≤y→y<k'→y=x)(he:∀(i:Nat) (z:Int),o[i]? =some z→(z=x↔ObsE L n (i:Int) (j:Int))):LcI L n (j+1) (o++[x]) k' where
 len:=by rw [yLa,h.len];rfl
 fst:=hf
 rng i z hz:=by
  rcases y9e hz with ⟨_,g⟩|⟨_,rfl⟩
  ·have:=h.rng i z g;omega
  ·exact hx
 all y h0 h1:=by
  by_cases hy:y<k
  ·obtain ⟨i,g⟩:=h.all y h0 hy;exact⟨i,by rw [yAl (yGs.1 g).1];exact g⟩
  ·refine ⟨o.length,?_⟩;rw [yAr (yNr _),Nat.sub_self,ha y (by omega) h1];rfl
 eq i i' y y' hy hy':=by
  have hl:=h.len;rcases y9e hy with ⟨h1,g1⟩|⟨h1,g1⟩ <;> rcases y9e hy' with ⟨h2,g2⟩|⟨h2,g2⟩
  ·exact h.eq i i' y y' g1 g2
  ·subst g2;rw [he i y g1,h2,hl]
  ·subst g1;rw [h1,hl,eq_comm,he i' y' g2];exact⟨y5S ⟨by omega,by omega⟩ ⟨by omega,by omega⟩,y5S ⟨by omega,by omega⟩ ⟨by omega,by omega⟩⟩
  ·subst g1;subst g2;rw [h1,h2];exact⟨fun _=>yfI _,fun _=>rfl⟩
 kn:=Int.le_trans h.kn hk
theorem LcI.old(hV:L.In (Vn n)){j:Nat}{o:LI}{k x:Int}(h:LcI L n j o k)(hj:j<n){i:Nat}(hi:o[i]? =some x)(he:ObsE L n (i:Int) (j:Int)):LcI L n (j+1) (o++[x]) k:=by
 have hl:=h.len;have hil:=(yGs.1 hi).1;have hx:=h.rng i x hi;refine h.snoc hj (Int.le_refl _) hx (y5e h.fst hx.1 (fun y h0 h1=>h.all y h0 (by omega)) (.inl ⟨i,hi⟩)) (fun y h0 h1=>by omega) fun i' z hz=>?_;have hil':=(yGs.1 hz).1;rw [h.eq i' i z x hz hi];exact⟨fun g=>ybY hV ⟨by omega,by omega⟩ g he,fun g=>ybY hV (t:=(j:Int)) ⟨by omega,by omega⟩ g (y5S ⟨by omega,by omega⟩ ⟨by omega,by omega⟩ he)⟩
theorem LcI.new{j:Nat}{o:LI}{k:Int}(h:LcI L n j o k)(hj:j<n)(he:∀i:Nat,i<j→¬ObsE L n (i:Int) (j:Int)):LcI L n (j+1) (o++[k]) (k+1):=by
 have hl:=h.len;have hk:=h.kn;refine h.snoc hj (by omega) ⟨hk,by omega⟩ (y5e h.fst hk h.all (.inr fun i y g=>(h.rng i y g).2)) (fun y h0 h1=>by omega) fun i z hz=>?_;have hil:=(yGs.1 hz).1;have:=h.rng i z hz;exact⟨fun e=>by omega,fun g=>absurd g (he i (by omega))⟩
theorem LcI.ok(hV:L.In (Vn n)){o:LI}{k:Int}(h:LcI L n n o k):RfOk L n o:=by
 have hl:=h.len;have hE:=y9U L n;have heq:∀s t,Vn n s→Vn n t→(cF o s=cF o t↔ObsE L n s t):=fun s t hs ht=>by
  have g1:=cF_at (c:=o) (i:=s.toNat) (by have:=hs.1;have:=hs.2;omega);have g2:=cF_at (c:=o) (i:=t.toNat) (by have:=ht.1;have:=ht.2;omega);have:=h.eq _ _ _ _ g1 g2;rwa [show ((s.toNat:Nat):Int)=s by have:=hs.1;omega,show((t.toNat:Nat):Int)=t by have:=ht.1;omega] at this
 exact
  {
   len:=hl,
   fst:=h.fst,
   mks:=fun s t hs ht e=>hE.m s t hs ht ((heq s t hs ht).1 e),
   cr:=fun P hP s t hs ht g=>(heq s t hs ht).2 ⟨P,hP,g⟩,
   st:=⟨fun s t _ _ e=>e.symm,fun s t hs ht e=>hE.m s t hs ht ((heq s t hs ht).1 e),fun s t hs ht e0 e he s' hw=>by
    obtain⟨t',h1,h2⟩:=hE.w s t hs ht ((heq s t hs ht).1 e0) e he s' hw;exact⟨t',h1,(heq s' t' (hV.wk hs hw) (hV.wk ht h1)).2 h2⟩⟩ }
end
end
section
open Go.Proofs.Tryz Go Go.RowKit
structure AbsOk (a x:NdT) (c:LI):Prop where
 cl:RfOk (ltsN a) a.2.1.toNat c
 st:x.2.1=topL c
 ab:Lts.Abs (ltsN a) (cF c) (ltsN x)
theorem NdOk.vn{a:NdT}(ha:NdOk a):(ltsN a).In (Vn a.2.1.toNat):=by
 have h:=ha.inn;have h0:=ha.n0;have e:(fun s=>0≤s∧s<a.2.1)=Vn a.2.1.toNat:=by
  funext s;unfold Vn;rw [show ((a.2.1.toNat:Nat):Int)=a.2.1 by omega]
 rwa [e] at h
theorem ydF{a:NdT}(ha:NdOk a)(s e:Int):y1X a s e=some (tgtL a.2.2.2.2 s e):=by
 obtain⟨p,b,h1,h2,h3,h4⟩:=ygQ (t:=(s,e,-1)) (by have:=ha.le;omega) ha.es;have hle:=ha.le;rw [y1X,h1,yOb,y9G h2 (yNr _),yOb,List.take_length,yeQ ha.es (fun x hx=>(ha.esr x hx).2.2.1) h3 h4];have hdl:(a.2.2.2.2.drop p).length≤65536:=by rw [List.length_drop];omega
 generalize a.2.2.2.2.drop p=l at hdl;obtain⟨o,ho,he⟩:=yf (f:=y2o s e l) (fun j (st:Int×LI)=>∃out,st=((j:Int),out)∧out.length≤j∧out++((l.drop j).takeWhile fun x=>x.1==s&&x.2.1==e).map (·.2.2)=(l.takeWhile fun x=>x.1==s&&x.2.1==e).map (·.2.2))
  (fun o=>o=(l.takeWhile fun x=>x.1==s&&x.2.1==e).map (·.2.2)) l.length 0 (by omega) (fun j st hj ⟨out,e1,g1,g2⟩=>by
   subst e1;rw [ycF hj] at g2;unfold y2o;simp only [ct_lt hj,if_true,yj hj,yOb];cases hx:(l[j].1==s&&l[j].2.1==e) with
   | false=>
    refine .inr ⟨out,?_,?_⟩
    ·rw [iP];simp only [bne,Bool.or_eq_true,Bool.not_eq_true'];rw [Bool.and_eq_false_iff] at hx;exact hx
    ·rw [iN (by simp [hx]),List.map_nil,List.append_nil] at g2;exact g2
   | true=>
    rw [yAe] at hx;refine .inl ⟨(((j+1:Nat):Int),out++[l[j].2.2]),?_,_,rfl,by simp;omega,?_⟩
    ·rw [iN (by simp [bne,hx.1,hx.2]),y2G (by simp;omega),yOb,nxt (by omega)]
    ·rw [iP (by simp [hx.1,hx.2])] at g2;rw [←g2];simp)
  (fun st ⟨out,e1,g1,g2⟩=>by
   subst e1;rw [List.drop_length] at g2;refine⟨out,?_,by simpa using g2⟩;unfold y2o;simp) (by omega) (0,[]) ⟨[],rfl,yZl _,rfl⟩
 rw [ho,he];rfl
noncomputable def setL(n:Nat)(p:Int→Prop):LI:=staL n fun i=>@decide (p (i:Int)) (Classical.propDecidable _)
theorem y1E{n:Nat}{p:Int→Prop}{x:Int}:x∈setL n p↔Vn n x∧p x:=by
 unfold setL Vn;rw [yfH];constructor
 ·rintro ⟨i,rfl,h1,h2⟩;exact⟨⟨by omega,by omega⟩,(@decide_eq_true_iff _ (Classical.propDecidable _)).1 h2⟩
 ·rintro ⟨⟨h1,h2⟩,h3⟩;refine⟨x.toNat,by omega,by omega,(@decide_eq_true_iff _ (Classical.propDecidable _)).2 ?_⟩;rwa [show ((x.toNat:Nat):Int)=x by omega]
theorem y5j(n:Nat)(p:Int→Prop):(setL n p).length≤n:=yar _ _
theorem yfJ(n:Nat)(q:Nat→Bool):(staL n q).Pairwise (· < ·):=by
 unfold staL;rw [List.pairwise_map];refine List.Pairwise.filter _ ?_;exact List.Pairwise.imp (fun {a b} h=>by omega) List.pairwise_lt_range
theorem yat(n:Nat)(p:Int→Prop):(setL n p).Pairwise (· < ·):=yfJ _ _
theorem yau{n:Nat}{q:Nat→Bool}{p:Int→Prop}(h:∀i:Nat,i<n→(q i=true↔p (i:Int))):staL n q=setL n p:=by
 unfold setL staL;congr 1;refine List.filter_congr fun i hi=>?_;rw [Bool.eq_iff_iff,h i (List.mem_range.1 hi),@decide_eq_true_iff _ (Classical.propDecidable _)]
theorem y7u{n:Nat}{p p':Int→Prop}(h:∀s,Vn n s→(p s↔p' s)):setL n p=setL n p':=by
 unfold setL;refine yau fun i hi=>?_;rw [@decide_eq_true_iff _ (Classical.propDecidable _)];exact h _ ⟨by omega,by omega⟩
theorem yeZ{B:List Bool}(hB:B.length≤4096):iter (yX B) (0,([]:LI))=some (staL B.length fun i=>flg B (i:Int)):=by
 obtain⟨o,ho,he⟩:=yf (f:=yX B) (fun j st=>st=((j:Int),staL j fun i=>flg B (i:Int))) (fun o=>o=staL B.length fun i=>flg B (i:Int)) B.length 0 (by omega) (fun j st hj e1=>by
   subst e1;refine .inl ⟨_,?_,rfl⟩;have hl:=yar j fun i=>flg B (i:Int);unfold yX;simp only [ct_lt hj,if_true];rw [y7t (by omega),yOb,ybU];split
   ·rw [y2G (by simp;omega),yOb,yW];simp only [nxt (show j<4611686018427387904 by omega)]
   ·rw [yW,List.append_nil];simp only [nxt (show j<4611686018427387904 by omega)])
  (fun st e1=>by
   subst e1;refine⟨_,?_,rfl⟩;unfold yX;simp) (by omega) (0,[]) rfl
 rw [ho,he]
theorem y9f{a:NdT}(ha:NdOk a){S:LI}(hS:∀s∈S,0≤s∧s<a.2.1)(hl:S.length≤300000000):yI a S=some (setL a.2.1.toNat fun t=>∃s∈S,(ltsN a).tau s t):=by
 have h0:=ha.n0;have h1:=ha.n1;have hle:=ha.le;obtain⟨n,hn⟩:∃n:Nat,a.2.1=(n:Int):=⟨a.2.1.toNat,by omega⟩;have hnn:a.2.1.toNat=n:=by omega
 have hc:∀x,yr a x=some (tgtL a.2.2.2.2 x (-1)):=fun x=>by
  rw [yr,ydF ha];rfl
 obtain⟨B,k1,k2,k3⟩:=yd8 (f:=yB (yr a)) (fun B todo=>(todo,B)) (fun B=>B) (lead:=fun s=>tgtL a.2.2.2.2 s (-1)) (S:=S) (n:=n) (M:=65536) (by omega) (yNr _) hl (fun s hs=>by have:=hS s hs;omega) (fun s hs hs2=>⟨Nat.le_trans (ycG _ _ _) hle,fun t ht=>by
   have:=ha.esr _ (y4o.1 ht);dsimp only at this;omega⟩)
  (fun B td x hB hx0 hx1 htd hf=>by
   unfold yB;simp only [ydD,if_true];rw [ydB (by omega),yOb,ydC (by omega),yOb,y7t (by omega),yOb,hf];simp)
  (fun B td x hB hx0 hx1 htd hf=>by
   unfold yB;simp only [ydD,if_true];rw [ydB (by omega),yOb,ydC (by omega),yOb,y7t (by omega),yOb,hf];simp only [Bool.not_false,if_true,yOb];rw [yaY (by omega),yOb,hc,yOb,y2G (by omega),yOb])
  (fun B=>by
   unfold yB;simp)
 have hm2:mkL a.2.1 false=some (List.replicate n false):=by unfold mkL;rw [hn,iP (by omega)];rfl
 have hr:∀t,RcL (fun s=>tgtL a.2.2.2.2 s (-1)) S t↔ ∃s∈S,(ltsN a).tau s t:=fun t=>by
  constructor
  ·intro h
   induction h with
   | ini h=>exact⟨_,h,.refl _⟩
   | step _ h ih=>
    obtain⟨s,hs,g⟩:=ih;exact⟨s,hs,g.tail (y4o.1 h)⟩
  ·rintro ⟨s,hs,h⟩
   induction h with
   | refl=>exact .ini hs
   | tail _ g ih=>exact .step ih (y4o.2 g)
 have hl2:=yeZ (B:=B) (by omega);rw [k2] at hl2;rw [yI,y3k,hm2,yOb,ycC (by omega),yOb];show((iter (yB (yr a)) (S,List.replicate n false)).bind _).bind _=_;rw [k1,yOb,hl2,hnn];show some _=some _;rw [yau (p:=fun t=>∃s∈S,(ltsN a).tau s t) fun i hi=>(k3 _ (by omega)).trans (hr _)]
noncomputable def wkL(a:NdT)(e s:Int):LI:=setL a.2.1.toNat fun t=>(ltsN a).wk e s t
theorem ycL{es:List E3}{e:Int}:∀{l:LI},l.Pairwise (· < ·)→(l.flatMap fun s=>tgtL es s e).length≤es.length:=by
 intro l hl;have key:∀(l:LI),l.Pairwise (· < ·)→(l.flatMap fun s=>tgtL es s e).length≤(es.filter fun x=>l.contains x.1).length:=by
  intro l
  induction l with
  | nil=>intro _;simp
  | cons x l ih=>
   intro h;have hp:=yPc.1 h;have h1:=ih hp.2;rw [List.flatMap_cons,yLa];have h2:(tgtL es x e).length≤(es.filter fun y=>y.1==x).length:=by
    unfold tgtL;rw [yLm];have:=List.countP_mono_left (l:=es) (p:=fun y=>y.1==x&&y.2.1==e) (q:=fun y=>y.1==x) fun y _ hy=>by
     rw [yAe] at hy;exact hy.1
    rwa [List.countP_eq_length_filter,List.countP_eq_length_filter] at this
   have h3:(es.filter fun y=>y.1==x).length+(es.filter fun y=>l.contains y.1).length=(es.filter fun y=>(x::l).contains y.1).length:=by
    clear ih h1 h2
    induction es with
    | nil=>rfl
    | cons y es ih2=>
     rw [List.filter_cons,List.filter_cons,List.filter_cons];by_cases e1:y.1=x
     ·have:y.1∉l:=fun hm=>by have:=hp.1 _ hm;omega
      simp [e1,e1▸this];simp at ih2;omega
     ·simp [e1];simp at ih2;split <;> (try simp) <;> omega
   omega
 exact Nat.le_trans (key l hl) (List.length_filter_le _ _)
theorem ygt{a:NdT}(ha:NdOk a){S:LI}(hS:∀s∈S,0≤s∧s<a.2.1)(hl:S.length≤300000000){e:Int}(he:e≠ -1):y2J a S e=some (setL a.2.1.toNat fun t=>∃s∈S,(ltsN a).wk e s t):=by
 have h0:=ha.n0;have h1:=ha.n1;have hle:=ha.le;have hsl:=y5j a.2.1.toNat fun t=>∃s∈S,(ltsN a).tau s t;have hfs:=ycL (es:=a.2.2.2.2) (e:=e) (yat a.2.1.toNat fun t=>∃s∈S,(ltsN a).tau s t);have hloop:iter (y2p a e (setL a.2.1.toNat fun t=>∃s∈S,(ltsN a).tau s t)) (0,([]:LI))=some ([]++(setL a.2.1.toNat fun t=>∃s∈S,(ltsN a).tau s t).flatMap fun s=>tgtL a.2.2.2.2 s e):=
  y9I _ _ _ (by omega) (by have:([]:LI).length=0:=rfl;omega) (fun j hj o ho=>by
   unfold y2p;simp only [ct_lt hj,if_true,yj hj,yOb];rw [ydF ha,yOb,y2G (by omega),yOb,nxt (by omega)]) (fun o=>by
   unfold y2p;simp)
 rw [y2J,y9f ha hS hl,yOb,hloop,yOb,List.nil_append,y9f ha (fun s hs=>by
  obtain⟨u,_,h⟩:=List.mem_flatMap.1 hs;have:=ha.esr _ (y4o.1 h);dsimp only at this;omega) (by omega),yOb]
 congr 1;refine y7u fun t ht=>?_;constructor
 ·rintro ⟨u,hu,hp⟩;obtain⟨v,hv,hm⟩:=List.mem_flatMap.1 hu;obtain⟨_,s,hs,hq⟩:=y1E.1 hv;exact⟨s,hs,.inr ⟨he,v,u,hq,y4o.1 hm,hp⟩⟩
 ·rintro ⟨s,hs,⟨h,_⟩|⟨_,v,u,hq,hm,hp⟩⟩
  ·exact absurd h he
  ·have hv:=ha.esr _ hm;dsimp only at hv;exact⟨u,List.mem_flatMap.2 ⟨v,y1E.2 ⟨⟨hv.1,by omega⟩,s,hs,hq⟩,y4o.2 hm⟩,hp⟩
theorem ya6{a:NdT}(ha:NdOk a){s:Int}(hs:0≤s∧s<a.2.1):y1h a [s]=some (wkL a (-1) s,0):=by
 rw [y1h,yaS ha,yOb,iN (by simp),y9S (by simp) (fun x hx=>by rw [yMs.1 hx];exact hs) (by simp),yOb,iN (by simp),y9f ha (fun x hx=>by rw [yMs.1 hx];exact hs) (by simp),yOb];congr 2;refine y7u fun t _=>?_;unfold Lts.wk;simp
theorem yfK{a:NdT}(ha:NdOk a){s e:Int}(hs:0≤s∧s<a.2.1)(he:e∈a.1):y2K a [s] e=some (wkL a e s,0):=by
 have h0:=ha.alr e he;have hla:=ha.la;rw [y2K,ya6 ha hs,yOb,iN (by simp),y9E (by omega) ha.al,yOb,iN (by rw [yK.2 he];simp),ygt ha (fun x hx=>by rw [yMs.1 hx];exact hs) (by simp) (by omega),yOb];congr 2;refine y7u fun t _=>?_;simp
end
section
open Go.Proofs.Tryz
structure Num (es:List Ed) (n:Nat):Prop where
 so:es.Pairwise fun x y=>x.f<y.f∨(x.f=y.f∧x.e<y.e)
 rng:∀x∈es,0≤x.f∧x.f<(n:Int)∧0≤x.t∧x.t<(n:Int)∧0≤x.e∧x.e<32
 cov:∀k:Nat,0<k→k<n→∃x∈es,x.t=(k:Int)
 ear:∀i (hi:i<es.length) (k:Int),0<k→k<es[i].t→∃j,∃hj:j<es.length,j<i∧es[j].t=k
 fst:∀i (hi:i<es.length),(∀j (hj:j<es.length),j<i→es[j].t≠es[i].t)→es[i].t=0∨es[i].f<es[i].t
theorem yav{es:List Ed}{k:Int}{x:Ed}(h:es.find? (fun y=>y.t==k)=some x):∃i,∃hi:i<es.length,es[i]=x∧x.t=k∧∀j (hj:j<es.length),j<i→es[j].t≠k:=by
 rw [List.find?_eq_some_iff_getElem] at h;obtain⟨h1,i,hi,h2,h3⟩:=h;refine⟨i,hi,h2,by simpa using h1,fun j hj hji e=>?_⟩;have:=h3 j hji;simp [e] at this
def wordN(es:List Ed):Nat→Int→LI
 | 0,_=> []
 | f+1,k=>if k≤0 then [] else match es.find? (fun y=>y.t==k) with
  | none=> []
  | some x=>wordN es f x.f++[x.e]
def wN(es:List Ed)(k:Int):LI:=wordN es k.toNat k
namespace Num
variable{es:List Ed}{n:Nat}
theorem find(h:Num es n){k:Nat}(h0:0<k)(h1:k<n):∃x,es.find? (fun y=>y.t==(k:Int))=some x∧x∈es∧x.t=(k:Int)∧0≤x.f∧x.f<(k:Int):=by
 obtain⟨y,hy,ht⟩:=h.cov k h0 h1;cases hf:es.find? (fun y=>y.t==(k:Int)) with
 | none=>exact absurd (by simpa using ht) (by simpa using List.find?_eq_none.1 hf y hy)
 | some x=>
  obtain⟨i,hi,e1,e2,e3⟩:=yav hf;have hm:x∈es:=e1▸yGm hi;refine⟨x,rfl,hm,e2,(h.rng x hm).1,?_⟩;have:=h.fst i hi (fun j hj hji=>by rw [e1,e2];exact e3 j hj hji);rw [e1,e2] at this;omega
theorem fuel(h:Num es n):∀(f:Nat) (k:Int),k<(n:Int)→k.toNat≤f→wordN es f k=wN es k:=by
 have key:∀(m:Nat) (k:Int),k.toNat=m→k<(n:Int)→∀f g,m≤f→m≤g→wordN es f k=wordN es g k:=by
  intro m
  induction m using Nat.strongRecOn with
  | ind m ih=>
   intro k hk hn f g hf hg;by_cases h0:k≤0
   ·have e:∀f,wordN es f k= []:=fun f=>by
     cases f with
     | zero=>rfl
     | succ f=>rw [wordN,if_pos h0]
    rw [e,e]
   ·obtain ⟨f,rfl⟩:∃f',f=f'+1:=⟨f-1,by omega⟩;obtain⟨g,rfl⟩:∃g',g=g'+1:=⟨g-1,by omega⟩;obtain⟨k',rfl⟩:∃k':Nat,k=(k':Int):=⟨k.toNat,by omega⟩;obtain⟨x,hx,_,ht,hf0,hfk⟩:=h.find (k:=k') (by omega) (by omega);rw [wordN,wordN,if_neg h0,if_neg h0,hx];dsimp only;rw [ih x.f.toNat (by omega) x.f rfl (by omega) f g (by omega) (by omega)]
 intro f k hn hf;exact key k.toNat k rfl hn f k.toNat hf (Nat.le_refl _)
theorem step(h:Num es n){k:Nat}(h0:0<k)(h1:k<n):∃x∈es,es.find? (fun y=>y.t==(k:Int))=some x∧x.t=(k:Int)∧0≤x.f∧x.f<(k:Int)∧wN es (k:Int)=wN es x.f++[x.e]:=by
 obtain⟨x,hx,hm,ht,hf0,hfk⟩:=h.find h0 h1;refine⟨x,hm,hx,ht,hf0,hfk,?_⟩;obtain⟨k,rfl⟩:∃k',k=k'+1:=⟨k-1,by omega⟩;unfold wN;rw [Int.toNat_natCast,wordN,if_neg (by omega),hx];dsimp only;rw [h.fuel k x.f (by omega) (by omega)];rfl
theorem zero :wN es 0= []:=rfl
theorem evs(h:Num es n):∀(k:Nat),k<n→Evs (wN es (k:Int)):=by
 intro k
 induction k using Nat.strongRecOn with
 | ind k ih=>
  intro hk;by_cases h0:k=0
  ·subst h0;exact Evs.nil
  ·obtain ⟨x,hm,_,_,hf0,hfk,e⟩:=h.step (k:=k) (by omega) hk;rw [e];have hx:=h.rng x hm;have:=ih x.f.toNat (by omega) (by omega);rw [Int.toNat_of_nonneg hf0] at this;exact this.snoc hx.2.2.2.2.1 hx.2.2.2.2.2
theorem mono(h:Num es n):∀(k' k:Nat),k<k'→k'<n→wval (wN es (k:Int))<wval (wN es (k':Int)):=by
 intro k'
 induction k' using Nat.strongRecOn with
 | ind k' ih=>
  intro k hkk hk';obtain⟨x',hm',hf',ht',hf0',hfk',e'⟩:=h.step (k:=k') (by omega) hk';have hx':=h.rng x' hm';have hw':0≤wval (wN es x'.f):=by
   have:=h.evs x'.f.toNat (by omega);rw [Int.toNat_of_nonneg hf0'] at this;exact yd4 _ this
  rw [e',y9D];by_cases h0:k=0
  ·subst h0;show wval []<_;show(0:Int)<_;omega
  ·obtain ⟨x,hm,hf,ht,hf0,hfk,e⟩:=h.step (k:=k) (by omega) (by omega);have hx:=h.rng x hm;rw [e,y9D];obtain⟨i,hi,a1,a2,a3⟩:=yav hf;obtain⟨i',hi',b1,b2,b3⟩:=yav hf';obtain⟨j,hj,hji,hjt⟩:=h.ear i' hi' (k:Int) (by omega) (by rw [b1,b2];omega);have hij:i≤j:=Nat.le_of_not_lt fun hlt=>a3 j hj hlt hjt;have hlt:=List.pairwise_iff_getElem.1 h.so i i' hi hi' (by omega);rw [a1,b1] at hlt;rcases hlt with hlt|⟨hlt,hle⟩
   ·have:=ih x'.f.toNat (by omega) x.f.toNat (by omega) (by omega);rw [Int.toNat_of_nonneg hf0,Int.toNat_of_nonneg hf0'] at this;omega
   ·rw [hlt];omega
end Num
end
section
open Go.Proofs.Tryz Go Go.RowKit
theorem ydG{u:Nat}(hu:u<100):(32:UInt8)∉dig2 u:=by
 have h:∀v:_root_.Fin 100,(32:UInt8)∉dig2 v.val:=by decide +kernel
 exact h ⟨u,hu⟩
theorem ycM{u v:Nat}(hu:u<100)(hv:v<100)(e:dig2 u=dig2 v):u=v:=by
 have h:∀v:_root_.Fin 100,((dig2 v.val).foldl (fun acc d=>10*acc+(d.toNat-48)) 0)=v.val:=by decide +kernel
 have h1:=h ⟨u,hu⟩;have h2:=h ⟨v,hv⟩;dsimp only at h1 h2;rw [e] at h1;omega
theorem yaw{α:Type}{c:α}:∀{l1 l2 r1 r2:List α},c∉l1→c∉l2→l1++c::r1=l2++c::r2→l1=l2∧r1=r2
 | [],[],_,_,_,_,h=>⟨rfl,(List.cons.inj h).2⟩
 | [],b::l2,_,_,_,h2,h=>absurd (List.cons.inj h).1 (fun e=>h2 (e▸yMc ..))
 | a::l1,[],_,_,h1,_,h=>absurd (List.cons.inj h).1 (fun e=>h1 (e▸yMc ..))
 | a::l1,b::l2,_,_,h1,h2,h=>by
  obtain⟨e1,e2⟩:=List.cons.inj h;obtain⟨e3,e4⟩:=yaw (fun hm=>h1 (yMm _ hm)) (fun hm=>h2 (yMm _ hm)) e2;exact⟨by rw [e1,e3],e4⟩
end
section
open Go.Proofs.Tryz
def sigB(l:LI):List UInt8:=(l.flatMap fun x=>dig2 x.toNat++[32])++[59,32]
theorem ybZ{u:Nat}(hu:u<100):∃d r,dig2 u=d::r∧d≠59:=by
 have h:∀v:_root_.Fin 100,(match dig2 v.val with | []=>false|d::_=>d != 59)=true:=by decide +kernel
 have h1:=h ⟨u,hu⟩;dsimp only at h1;cases hd:dig2 u with
 | nil=>rw [hd] at h1;simp at h1
 | cons d r=>rw [hd] at h1;exact⟨d,r,rfl,by simpa using h1⟩
theorem yc0{u:Nat}(hu:u<100):(58:UInt8)∉dig2 u:=by
 have h:∀v:_root_.Fin 100,(58:UInt8)∉dig2 v.val:=by decide +kernel
 exact h ⟨u,hu⟩
def Hund(l:LI):Prop:=∀x∈l,0≤x∧x<100
theorem ycN :∀{l l':LI} {r r':List UInt8},Hund l→Hund l'→sigB l++r=sigB l'++r'→l=l'∧r=r'
 | [],[],r,r',_,_,h=>⟨rfl,by simpa [sigB] using h⟩
 | [],y::l',r,r',_,h2,h=>by
  obtain⟨d,u,e,hd⟩:=ybZ (u:=y.toNat) (by have:=h2 y (.head _);omega);simp only [sigB,List.flatMap_nil,List.nil_append,List.flatMap_cons,e,List.cons_append] at h;exact absurd (List.cons.inj h).1.symm hd
 | x::l,[],r,r',h1,_,h=>by
  obtain⟨d,u,e,hd⟩:=ybZ (u:=x.toNat) (by have:=h1 x (.head _);omega);simp only [sigB,List.flatMap_nil,List.nil_append,List.flatMap_cons,e,List.cons_append] at h;exact absurd (List.cons.inj h).1 hd
 | x::l,y::l',r,r',h1,h2,h=>by
  have hx:=h1 x (.head _);have hy:=h2 y (.head _);have e:∀(z:Int) (l:LI) (r:List UInt8),sigB (z::l)++r=dig2 z.toNat++32::(sigB l++r):=fun z l r=>by simp [sigB]
  rw [e,e] at h;obtain⟨e1,e2⟩:=yaw (ydG (by omega)) (ydG (by omega)) h;have e3:=ycM (u:=x.toNat) (v:=y.toNat) (by omega) (by omega) e1;obtain⟨e4,e5⟩:=ycN (fun z hz=>h1 z (.tail _ hz)) (fun z hz=>h2 z (.tail _ hz)) e2;exact⟨by rw [show x=y by omega,e4],e5⟩
theorem ycO :∀{s s':List LI},(∀l∈s,Hund l)→(∀l∈s',Hund l)→s.length=s'.length→s.flatMap sigB=s'.flatMap sigB→s=s'
 | [],[],_,_,_,_=>rfl
 | [],_::_,_,_,h,_=>by simp at h
 | _::_,[],_,_,h,_=>by simp at h
 | l::s,l'::s',h1,h2,hl,h=>by
  rw [List.flatMap_cons,List.flatMap_cons] at h;obtain⟨e1,e2⟩:=ycN (h1 l (.head _)) (h2 l' (.head _)) h;rw [e1,ycO (fun z hz=>h1 z (.tail _ hz)) (fun z hz=>h2 z (.tail _ hz)) (by simpa using hl) e2]
def keyS(c:Int)(s:List LI):List UInt8:=dig2 c.toNat++58::32::s.flatMap sigB
theorem yfL{c c':Int}{s s':List LI}(hc:0≤c∧c<100)(hc':0≤c'∧c'<100)(h1:∀l∈s,Hund l)(h2:∀l∈s',Hund l)(hl:s.length=s'.length)(h:keyS c s=keyS c' s'):c=c'∧s=s':=by
 obtain⟨e1,e2⟩:=yaw (yc0 (by omega)) (yc0 (by omega)) h;have e3:=ycM (u:=c.toNat) (v:=c'.toNat) (by omega) (by omega) e1;exact⟨by omega,ycO h1 h2 hl (List.cons.inj e2).2⟩
end
section
open Go.Proofs.Tryz Go Go.RowKit
noncomputable section
theorem bbeq(a b:ByteArray):(a==b)=decide (a=b):=by
 have:(a==b)=(a.data==b.data):=rfl;rw [this];cases a;cases b;simp [Bool.beq_eq_decide_eq]
instance :LawfulBEq ByteArray where
 eq_of_beq {a b} h:=by
  rw [bbeq] at h;exact of_decide_eq_true h
 rfl {a}:=by rw [bbeq];simp
section
variable{κ:Type}[BEq κ][LawfulBEq κ]
def numG :Nat→List κ→List (κ×Int)
 | _,[]=> []
 | k,p::l=>(p,(k:Int))::numG (k+1) l
omit [BEq κ] [LawfulBEq κ] in
theorem yax :∀(k:Nat) (l:List κ),(numG k l).length=l.length
 | _,[]=>rfl
 | k,p::l=>by rw [numG,yLc,yax,yLc]
omit [BEq κ] [LawfulBEq κ] in
theorem ycP :∀(k:Nat) (l:List κ),(numG k l).map (·.1)=l
 | _,[]=>rfl
 | k,p::l=>by rw [numG,List.map_cons,ycP]
theorem ycQ :∀(k:Nat) (l:List κ) (p:κ),kget (numG k l) p=if p∈l then some (((k+l.idxOf p:Nat):Int)) else none
 | _,[],p=>by simp [numG,kget]
 | k,q::l,p=>by
  have ih:=ycQ (k+1) l p;unfold kget at ih ⊢;rw [numG,List.find?_cons];by_cases h:p=q
  ·subst h;simp
  ·have h':(p==q)=false:=by simpa using h
   simp only [h'];rw [ih];have h2:¬q=p:=fun e=>h e.symm;by_cases hm:p∈l
   ·rw [iP hm,iP (by simp [hm]),List.idxOf_cons];have h3:(q==p)=false:=by simpa using h2
    rw [h3];simp;omega
   ·rw [iN hm,iN (by simp [hm,h])]
omit [BEq κ] [LawfulBEq κ] in
theorem yc1 :∀(k:Nat) (l:List κ) (p:κ),numG k (l++[p])=numG k l++[(p,((k+l.length:Nat):Int))]
 | k,[],p=>by simp [numG]
 | k,q::l,p=>by
  rw [List.cons_append,numG,yc1 (k+1) l p,numG,List.cons_append,yLc];congr 4;omega
theorem yfM{l:List κ}{p:κ}(h:p∉l):kput (numG 0 l) p (l.length:Int)=numG 0 (l++[p]):=by
 unfold kput;rw [iN (by rw [ycP,ycH h,yax];omega),yc1];simp
end
theorem ya7{keys:List ByteArray}(hl:keys.length≤1000000):y2l keys=some (numK keys):=by
 obtain⟨o,ho,he⟩:=yf (f:=y2u keys) (fun j st=>st=((j:Int),(numF (keys.take j)).2,numG 0 (numF (keys.take j)).1)) (fun o=>o=numK keys) keys.length 0 (by omega) (fun j st hj e1=>by
   subst e1;refine .inl ⟨_,?_,rfl⟩;have hI:=y8z (keys.take j);have h1:=hI.len;rw [yLt,Nat.min_eq_left (by omega)] at h1;rw [yTs hj,ybW];generalize numF (keys.take j)=S at h1 hI ⊢;unfold y2u numS;simp only [ct_lt hj,if_true,yj hj,yOb];rw [ycQ];by_cases hm:keys[j]∈S.1
   ·rw [iP hm,iP hm];simp only [Option.isSome_some,Bool.not_true,Bool.false_eq_true,if_false,Option.getD_some];rw [y1G,y2G (by simp;omega),yOb,nxt (by omega)];simp
   ·rw [iN hm,iN hm];simp only [Option.isSome_none,Bool.not_false,if_true];rw [y1G,y2G (by simp;omega),yOb,nxt (by omega)];simp only [yax];rw [yfM hm])
  (fun st e1=>by
   subst e1;refine⟨_,?_,rfl⟩;unfold y2u;simp only [ct_ge,List.take_length];rfl) (by omega) (0,[],[]) rfl
 rw [y2l,ho,he];rfl
def by8(l:List UInt8):ByteArray:=⟨l.toArray⟩
theorem ydH(a b:List UInt8):by8 a++by8 b=by8 (a++b):=by
 unfold by8;apply ByteArray.ext;simp
theorem y7v(a:List UInt8):(by8 a).size=a.length:=by simp [by8,ByteArray.size]
theorem ydI{a b:List UInt8}(h:by8 a=by8 b):a=b:=by
 have:=congrArg (fun x:ByteArray=>x.data.toList) h;simpa [by8] using this
theorem ycR{a b:List UInt8}(h:a.length+b.length≤1000000):yq (by8 a) (by8 b)=some (by8 (a++b)):=by
 rw [yq,iP (by rw [y7v,y7v];exact h),ydH]
theorem saddS{a b:List UInt8}(h:a.length+b.length≤1000000):sadd (by8 a) (by8 b)=some (by8 (a++b)):=by
 rw [sadd,iP (by rw [y7v,y7v];exact h),ydH]
theorem itoaS{x:Int}(h:0≤x∧x<100):y3s x=some (by8 (dig2 x.toNat)):=by
 rw [y3s,iP h];rfl
def clsS(c set:LI):LI:=dd (isL (set.map (cF c)))
theorem y5k{c set:LI}{x:Int}:x∈clsS c set↔ ∃s∈set,cF c s=x:=by
 unfold clsS;rw [y7P,yMp]
theorem y9g(c set:LI):(clsS c set).length≤set.length:=by
 unfold clsS;have:=ycE (isL (set.map (cF c)));rw [(y4j _).length_eq,yLm] at this;exact this
theorem idxF{c:LI}{s:Int}(h:0≤s∧s<(c.length:Int)):idx c s=some (cF c s):=by
 unfold idx;rw [iP h.1];have:=cF_at (c:=c) (i:=s.toNat) (by omega);rw [this,show((s.toNat:Nat):Int)=s by omega]
theorem y9V :∀l:LI,(l.flatMap fun x=>dig2 x.toNat++[32]).length≤l.length*3
 | []=>by simp
 | x::l=>by
  have:=y9V l;have:=y6Z x.toNat;simp only [List.flatMap_cons,yLa,yLc,List.length_nil];omega
theorem yfN(l:LI):(sigB l).length≤l.length*3+2:=by
 have:=y9V l;unfold sigB;rw [yLa];simp only [yLc,List.length_nil];omega
theorem ycS{b:List UInt8}{c set:LI}(hs:∀s∈set,0≤s∧s<(c.length:Int))(hc:Hund c)(hl:b.length+set.length*3+2≤1000000):y2M (by8 b) c set=some (by8 (b++sigB (clsS c set))):=by
 have h1:iter (y2q c set) (0,([]:LI))=some ([]++set.map (cF c)):=y9H _ _ _ (by rw [List.length_nil];omega) (fun j hj o=>by
   unfold y2q;simp only [ct_lt hj,if_true,yj hj,yOb];rw [idxF (hs _ (yGm hj)),yOb]) (fun o=>by
   unfold y2q;simp)
 have hcl:=y9g c set;have hcm:∀x∈clsS c set,0≤x∧x<100:=fun x hx=>by
  obtain⟨s,h2,rfl⟩:=y5k.1 hx;have:=hs s h2;exact hc _ (y8A this.1 this.2)
 have h2:iter (yJ (clsS c set)) (by8 b,0)=some (by8 (b++(clsS c set).flatMap fun x=>dig2 x.toNat++[32])):=by
  generalize clsS c set=l at hcl hcm ⊢;obtain⟨o,ho,he⟩:=yf (f:=yJ l) (fun j st=>st=(by8 (b++(l.take j).flatMap fun x=>dig2 x.toNat++[32]),(j:Int))) (fun o=>o=by8 (b++l.flatMap fun x=>dig2 x.toNat++[32])) l.length 0 (by omega) (fun j st hj e1=>by
    subst e1;refine .inl ⟨_,?_,rfl⟩;have h3:=y9V (l.take j);rw [yLt,Nat.min_eq_left (by omega)] at h3;have h4:=y6Z l[j].toNat;unfold yJ;simp only [ct_lt hj,if_true,yj hj,yOb];rw [itoaS (hcm _ (yGm hj)),yOb,show(⟨#[32]⟩:ByteArray)=by8 [32] from rfl,saddS (by simp;omega),yOb,ycR (by simp at h3 ⊢;omega),yOb,nxt (by omega),yTs hj,List.flatMap_append,yAa];simp)
   (fun st e1=>by
    subst e1;refine⟨_,?_,rfl⟩;rw [List.take_length];unfold yJ;simp) (by omega) (by8 b,0) (by simp)
  rw [ho,he]
 have h3:=y9V (clsS c set);rw [y2M,h1,yOb,List.nil_append,yap (by rw [yLm];omega),yOb,y8d (by rw [(y4j _).length_eq,yLm];omega),yOb];show(iter (yJ (clsS c set)) (by8 b,0)).bind _=_;rw [h2,yOb,show(⟨#[59,32]⟩:ByteArray)=by8 [59,32] from rfl,ycR (by simp at h3 ⊢;omega),yOb,yAa];rfl
section
variable{α:Type}
def mixL(n:Nat)(F G:Nat→α)(i:Nat):List α:=(List.range n).map fun k=>if k<i then F k else G k
theorem y8B(n:Nat)(F G:Nat→α)(i:Nat):(mixL n F G i).length=n:=by simp [mixL]
theorem yb0{n:Nat}{F G:Nat→α}{i k:Nat}(h:k<n):(mixL n F G i)[k]? =some (if k<i then F k else G k):=by
 unfold mixL;rw [List.getElem?_map,List.getElem?_range h];rfl
theorem ydJ{n:Nat}{F G:Nat→α}{i:Nat}:(mixL n F G i).set i (F i)=mixL n F G (i+1):=by
 apply List.ext_getElem?;intro k;rw [List.getElem?_set,y8B];by_cases hk:k<n
 ·rw [yb0 hk,yb0 hk];by_cases e:i=k
  ·subst e;simp [hk]
  ·rw [iN e];by_cases h:k<i
   ·rw [iP h,iP (by omega)]
   ·rw [iN h,iN (by omega)]
 ·rw [yGn (by rw [y8B];omega),yGn (by rw [y8B];omega)];split
  ·rename_i e;subst e;simp [hk]
  ·rfl
theorem ycT(n:Nat)(F G:Nat→α):mixL n F G 0=(List.range n).map G:=by simp [mixL]
theorem ydK(n:Nat)(F G:Nat→α):mixL n F G n=(List.range n).map F:=by
 unfold mixL;refine List.map_congr_left fun k hk=>?_;rw [iP (List.mem_range.1 hk)]
theorem idx_get?{xs:List α}{i:Nat}{x:α}(h:xs[i]? =some x):idx xs (i:Int)=some x:=by
 unfold idx;rw [iP (by omega),yTn,h]
theorem y8C{xs:List α}{i:Nat}{v:α}(h:i<xs.length):upd xs (i:Int) v=some (xs.set i v):=by
 have:=yaY (xs:=xs) (s:=(i:Int)) (v:=v) (by omega);rwa [yTn] at this
theorem yfO{T:List α}{i:Nat}{x:α}(h:i<T.length):idx (T.set i x) (i:Int)=some x:=idx_get? (by rw [List.getElem?_set,iP rfl,iP h])
end
def rowA(a:NdT)(i:Nat):List LI:=((-1:Int)::a.1).map fun e=>wkL a e (i:Int)
def tru8(b:Bool):List UInt8:=if b then [116,114,117,101] else [102,97,108,115,101]
theorem fmtB(b:Bool):y4k b=some (by8 (tru8 b)):=by
 cases b <;> rfl
def mksB(a:NdT)(s:Int):Bool:=@decide ((ltsN a).mks s) (Classical.propDecidable _)
section
variable{a:NdT}(ha:NdOk a){n:Nat}(hn:a.2.1=(n:Int))(hal:a.1.length≤32)
include ha hn hal
theorem yf0{i:Nat}(hi:i<n)(s2:List ByteArray×List (List LI)){T:List (List LI)}(hT:T.length=n):iter (y2a a ((i:Int),s2)) (0,T.set i [wkL a (-1) i])=some (T.set i (rowA a i)):=by
 obtain⟨o,ho,he⟩:=yf (f:=y2a a ((i:Int),s2)) (fun j st=>st=((j:Int),T.set i (((-1:Int)::a.1.take j).map fun e=>wkL a e (i:Int)))) (fun o=>o=T.set i (rowA a i)) a.1.length 0 (by omega) (fun j st hj e1=>by
   subst e1;refine .inl ⟨_,?_,rfl⟩;unfold y2a;simp only [ct_lt hj,if_true,yj hj,yOb];rw [yfK ha (by omega) (yGm hj),yOb,yfO (by omega),yOb,y2G (by simp;omega),yOb,yOb,y8C (by rw [List.length_set];omega),yOb,nxt (by omega),List.set_set,yTs hj];rw [List.map_cons,List.map_cons,List.map_append];rfl)
  (fun st e1=>by
   subst e1;refine⟨_,?_,rfl⟩;rw [List.take_length];unfold y2a;simp;rfl) (by omega) (0,T.set i [wkL a (-1) i]) (by simp)
 rw [ho,he]
theorem yf1(h99:n≤99):iter (y2b a) (0,([]:List ByteArray),List.replicate n ([]:List LI))=some ((List.range n).map (fun i:Nat=>by8 (tru8 (mksB a (i:Int)))),(List.range n).map (rowA a)):=by
 have hlm:a.2.2.2.1.length≤1000000:=ha.lm;obtain⟨o,ho,he⟩:=yf (f:=y2b a) (fun j st=>st=((j:Int),(List.range j).map (fun i:Nat=>by8 (tru8 (mksB a (i:Int)))),mixL n (rowA a) (fun _=> []) j)) (fun o=>o=((List.range n).map (fun i:Nat=>by8 (tru8 (mksB a (i:Int)))),(List.range n).map (rowA a))) n 0 (by omega) (fun j st hj e1=>by
   subst e1;refine .inl ⟨_,?_,rfl⟩;have hml:=y8B n (rowA a) (fun _=> []) j;have hwl:=y5j a.2.1.toNat fun t=>(ltsN a).wk (-1) (j:Int) t;have hwl:(wkL a (-1) (j:Int)).length≤n:=by unfold wkL;omega
   have hmg:=y6O (fun a b=>a&&b) (wkL a (-1) (j:Int)) a.2.2.2.1 (yat _ _) ha.mks;have hmk:decide (((mg (fun a b=>a&&b) (wkL a (-1) (j:Int)) a.2.2.2.1).length:Int)>0)=mksB a (j:Int):=by
    rw [Bool.eq_iff_iff];unfold mksB;rw [@decide_eq_true_iff _ (Classical.propDecidable _),decide_eq_true_iff];constructor
    ·intro h;obtain⟨x,hx⟩:=List.exists_mem_of_length_pos (l:=mg (fun a b=>a&&b) (wkL a (-1) (j:Int)) a.2.2.2.1) (by omega);have hx:=(hmg.2 x).1 hx;rw [yAe,yK,yK] at hx;rcases(y1E.1 hx.2.1).2 with ⟨_,h⟩|⟨h,_⟩
     ·exact ⟨x,h,hx.2.2⟩
     ·exact absurd rfl h
    ·rintro ⟨m,h1,h2⟩;have h3:=ha.mkr m h2;have:m∈mg (fun a b=>a&&b) (wkL a (-1) (j:Int)) a.2.2.2.1:=(hmg.2 m).2 ⟨.inr h2,by
      rw [yAe,yK,yK];exact⟨y1E.2 ⟨⟨h3.1,by omega⟩,.inl ⟨rfl,h1⟩⟩,h2⟩⟩
     have:=List.length_pos_of_mem this;omega
   have hint:y3l (wkL a (-1) (j:Int)) a.2.2.2.1=some (mg (fun a b=>a&&b) (wkL a (-1) (j:Int)) a.2.2.2.1):=by
    rw [y3l,yfE (kp:=fun a b=>a&&b) (f:=y3U) (fun _ _=>rfl) (by omega) hlm];rfl
   unfold y2b;simp only [hn,ct_lt hj,if_true];rw [ya6 ha (by omega),yOb,idx_get? (yb0 hj),iN (Nat.lt_irrefl _),yOb,y2G (by simp),yOb,yOb,y8C (by omega),yOb,List.nil_append,yf0 ha hn hal hj _ hml,yOb,hint,yOb,hmk,fmtB,yOb,y2G (by simp;omega),yOb,nxt (by omega),ydJ,List.range_succ,List.map_append];rfl)
  (fun st e1=>by
   subst e1;refine⟨_,?_,rfl⟩;rw [ydK];unfold y2b;simp [hn]) (by omega) (0,[],List.replicate n []) (by rw [ycT];simp [List.map_const'])
 rw [ho,he]
def keyA(a:NdT)(c:LI)(i:Nat):List UInt8:=keyS (cF c (i:Int)) ((rowA a i).map (clsS c))
omit ha hn hal in
theorem yfP{c:LI}(hc:Hund c){set:LI}(hs:∀s∈set,0≤s∧s<(c.length:Int)):Hund (clsS c set):=fun x hx=>by
 obtain⟨s,h2,rfl⟩:=y5k.1 hx;have:=hs s h2;exact hc _ (y8A this.1 this.2)
omit ha hal in
theorem yf2{c:LI}(hcl:c.length=n){i:Nat}:∀set∈rowA a i,(∀s∈set,0≤s∧s<(c.length:Int))∧set.length≤n:=fun set hset=>by
 obtain⟨e,_,rfl⟩:=yMp.1 hset;refine⟨fun s hs=>?_,?_⟩
 ·have:=(y1E.1 hs).1;unfold Vn at this;omega
 ·have:=y5j a.2.1.toNat fun t=>(ltsN a).wk e (i:Int) t;unfold wkL;omega
omit ha hn in
theorem ygu(i:Nat):(rowA a i).length≤33:=by
 unfold rowA;rw [yLm,yLc];omega
omit ha hn hal in
theorem ycU{k:Nat}:∀(l:List LI),(∀x∈l,x.length≤k)→(l.flatMap sigB).length≤l.length*(k*3+2)
 | [],_=>by simp
 | x::l,h=>by
  have h1:=ycU l fun y hy=>h y (.tail _ hy);have h2:=yfN x;have h3:=h x (.head _);rw [List.flatMap_cons,yLa,yLc,Nat.add_mul,Nat.one_mul];omega
omit ha in
theorem yf3(h99:n≤99){c:LI}(hc:Hund c)(hcl:c.length=n)(keys:List ByteArray){i:Nat}{b:List UInt8}(hb:b.length≤4):iter (y1Y (c,keys) (rowA a i)) (0,by8 b)=some (by8 (b++((rowA a i).map (clsS c)).flatMap sigB)):=by
 have hr:=yf2 hn hcl (i:=i);have hl:=ygu hal i;generalize rowA a i=l at hr hl ⊢;obtain⟨o,ho,he⟩:=yf (f:=y1Y (c,keys) l) (fun j st=>st=((j:Int),by8 (b++((l.take j).map (clsS c)).flatMap sigB))) (fun o=>o=by8 (b++(l.map (clsS c)).flatMap sigB)) l.length 0 (by omega) (fun j st hj e1=>by
   subst e1;refine .inl ⟨_,?_,rfl⟩;have hh:=hr _ (yGm hj);have h3:=ycU (k:=99) ((l.take j).map (clsS c)) fun x hx=>by
    obtain⟨s,hs,rfl⟩:=yMp.1 hx;have:=(hr s (List.mem_of_mem_take hs)).2;have:=y9g c s;omega
   rw [yLm,yLt,Nat.min_eq_left (by omega)] at h3;unfold y1Y;simp only [ct_lt hj,if_true,yj hj,yOb];rw [ycS hh.1 hc (by rw [yLa];omega),yOb,nxt (by omega),yTs hj,List.map_append,List.flatMap_append,yAa];simp)
  (fun st e1=>by
   subst e1;refine⟨_,?_,rfl⟩;rw [List.take_length];unfold y1Y;simp) (by omega) (0,by8 b) (by simp)
 rw [ho,he]
omit ha in
theorem yf4(h99:n≤99){c:LI}(hc:Hund c)(hcl:c.length=n)(k0:List ByteArray){keys:List ByteArray}(hk:keys.length=n):iter (y1Z a (k0,(List.range n).map (rowA a)) (c,keys)) (0,keys)=some ((List.range n).map fun i=>by8 (keyA a c i)):=by
 have hG:keys=(List.range n).map fun i=>keys.getD i ⟨#[]⟩:=by
  apply List.ext_getElem?;intro k;by_cases h:k<n
  ·rw [List.getElem?_map,List.getElem?_range h,yGe (by omega)];simp [yGd,yGe (show k<keys.length by omega)]
  ·rw [yGn (by omega),yGn (by simp;omega)]
 obtain⟨o,ho,he⟩:=yf (f:=y1Z a (k0,(List.range n).map (rowA a)) (c,keys)) (fun j st=>st=((j:Int),mixL n (fun i=>by8 (keyA a c i)) (fun i=>keys.getD i ⟨#[]⟩) j)) (fun o=>o=(List.range n).map fun i=>by8 (keyA a c i)) n 0 (by omega) (fun j st hj e1=>by
   subst e1;refine .inl ⟨_,?_,rfl⟩;have hx:=hc _ (y8A (c:=c) (s:=(j:Int)) (by omega) (by omega));have hd:=y6Z (cF c (j:Int)).toNat;have hne:(by8 (keyA a c j)).size≠0:=by
    rw [y7v];unfold keyA keyS;rw [yLa,yLc,yLc];omega
   unfold y1Z;simp only [hn,ct_lt hj,if_true];rw [idxF (by omega),yOb,itoaS hx,yOb,show(⟨#[58,32]⟩:ByteArray)=by8 [58,32] from rfl,saddS (by simp;omega),yOb,show(⟨#[]⟩:ByteArray)=by8 [] from rfl,ycR (by simp;omega),yOb,idx_get? (show ((List.range n).map (rowA a))[j]? =some (rowA a j) by rw [List.getElem?_map,List.getElem?_range hj];rfl),yOb,List.nil_append,yf3 hn hal h99 hc hcl keys (by simp;omega),yOb];have e2:dig2 (cF c (j:Int)).toNat++[58,32]++((rowA a j).map (clsS c)).flatMap sigB=keyA a c j:=by
    unfold keyA keyS;rw [yAa];rfl
   rw [e2,y2A,iP hne,yOb,idx_get? (yb0 hj),yOb,y8C (by rw [y8B];exact hj),yOb,nxt (by omega),ydJ (F:=fun i=>by8 (keyA a c i))])
  (fun st e1=>by
   subst e1;refine⟨_,?_,rfl⟩;rw [ydK];unfold y1Z;simp [hn]) (by omega) (0,keys) (by rw [ycT,←hG];rfl)
 rw [ho,he]
def nextC(a:NdT)(n:Nat)(c:LI):LI:=numK ((List.range n).map fun i=>by8 (keyA a c i))
omit hal in
theorem yfQ(h99:n≤99){c:LI}(hc:Hund c)(hcl:c.length=n):RfN (ltsN a) n c (nextC a n c) where
 len:=by unfold nextC;rw [yas];simp
 fst:=yaZ _
 eq:=by
  have hlen:(nextC a n c).length=n:=by unfold nextC;rw [yas];simp
  have key:∀i j:Nat,i<n→j<n→(cF (nextC a n c) (i:Int)=cF (nextC a n c) (j:Int)↔refR (ltsN a) (cF c) (i:Int) (j:Int)):=fun i j hi hj=>by
   have h1:=cF_at (c:=nextC a n c) (i:=i) (by omega);have h2:=cF_at (c:=nextC a n c) (i:=j) (by omega);have hk:∀k:Nat,k<n→((List.range n).map fun i=>by8 (keyA a c i))[k]? =some (by8 (keyA a c k)):=fun k hk=>by rw [List.getElem?_map,List.getElem?_range hk];rfl
   have h3:=ydE _ (hk i hi) (hk j hj);have e1:cF (nextC a n c) (i:Int)=cF (nextC a n c) (j:Int)↔by8 (keyA a c i)=by8 (keyA a c j):=by
    rw [←h3];unfold nextC at h1 h2 ⊢;rw [h1,h2];simp
   have hci:=hc _ (y8A (c:=c) (s:=(i:Int)) (by omega) (by omega));have hcj:=hc _ (y8A (c:=c) (s:=(j:Int)) (by omega) (by omega));have hin:=fun k=>yf2 hn hcl (i:=k);have hH:∀k,∀l∈(rowA a k).map (clsS c),Hund l:=fun k l hl=>by
    obtain⟨s,hs,rfl⟩:=yMp.1 hl;exact yfP hc (hin k s hs).1
   have e2:by8 (keyA a c i)=by8 (keyA a c j)↔cF c (i:Int)=cF c (j:Int)∧(rowA a i).map (clsS c)=(rowA a j).map (clsS c):=by
    constructor
    ·intro h;exact yfL hci hcj (hH i) (hH j) (by simp [rowA]) (ydI h)
    ·rintro ⟨h1,h2⟩;unfold keyA;rw [h1,h2]
   rw [e1,e2];unfold refR;refine and_congr Iff.rfl ?_;have hV:∀k:Nat,k<n→Vn n (k:Int):=fun k hk=>⟨by omega,by omega⟩;have hVn:=ha.vn;rw [show a.2.1.toNat=n by omega] at hVn;have hm:∀(k:Nat),k<n→∀e x,x∈clsS c (wkL a e (k:Int))↔ ∃u,(ltsN a).wk e (k:Int) u∧cF c u=x:=fun k hk e x=>by
    rw [y5k];constructor
    ·rintro ⟨s,hs,h⟩;exact⟨s,(y1E.1 hs).2,h⟩
    ·rintro ⟨u,hu,h⟩;refine⟨u,y1E.2 ⟨?_,hu⟩,h⟩;rw [show a.2.1.toNat=n by omega];exact hVn.wk (hV k hk) hu
   unfold rowA;rw [List.map_map,List.map_map];constructor
   ·intro h e he x;have hmem:e∈(-1:Int)::a.1:=by
     rcases he with he|he
     ·rw [he];exact .head _
     ·exact .tail _ he
    have:=List.map_inj_left.1 h e hmem;simp only [Function.comp_apply] at this;rw [←hm i hi,←hm j hj,this]
   ·intro h;refine List.map_congr_left fun e he=>?_;simp only [Function.comp_apply];refine incE (y7O _) (y7O _) fun x=>?_;have hlab:(ltsN a).lab e:=by
     rcases yMo.1 he with he|he
     ·exact .inl he
     ·exact .inr he
    have:=h e hlab x;rw [←hm i hi,←hm j hj] at this;exact this
  intro s t hs ht;have:=key s.toNat t.toNat (by have:=hs.1;have:=hs.2;omega) (by have:=ht.1;have:=ht.2;omega);rwa [show ((s.toNat:Nat):Int)=s by have:=hs.1;omega,show((t.toNat:Nat):Int)=t by have:=ht.1;omega] at this
omit ha hn hal in
theorem yfR :RfI (ltsN a) n (numK ((List.range n).map fun i:Nat=>by8 (tru8 (mksB a (i:Int))))):=by
 have hlen:(numK ((List.range n).map fun i:Nat=>by8 (tru8 (mksB a (i:Int))))).length=n:=by rw [yas];simp
 have key:∀s t,Vn n s→Vn n t→(cF (numK ((List.range n).map fun i:Nat=>by8 (tru8 (mksB a (i:Int))))) s=cF (numK ((List.range n).map fun i:Nat=>by8 (tru8 (mksB a (i:Int))))) t↔((ltsN a).mks s↔(ltsN a).mks t)):=fun s t hs ht=>by
  obtain⟨i,rfl⟩:∃i:Nat,s=(i:Int):=⟨s.toNat,by have:=hs.1;omega⟩;obtain⟨j,rfl⟩:∃j:Nat,t=(j:Int):=⟨t.toNat,by have:=ht.1;omega⟩;have hi:i<n:=by have:=hs.2;omega
  have hj:j<n:=by have:=ht.2;omega
  have hk:∀k:Nat,k<n→((List.range n).map fun i:Nat=>by8 (tru8 (mksB a (i:Int))))[k]? =some (by8 (tru8 (mksB a (k:Int)))):=fun k hk=>by rw [List.getElem?_map,List.getElem?_range hk];rfl
  have h3:=ydE _ (hk i hi) (hk j hj);rw [cF_at (by omega),cF_at (by omega)] at h3;have e1:by8 (tru8 (mksB a (i:Int)))=by8 (tru8 (mksB a (j:Int)))↔mksB a (i:Int)=mksB a (j:Int):=by
   constructor
   ·intro h;have:=ydI h;revert this;cases mksB a (i:Int) <;> cases mksB a (j:Int) <;> simp [tru8]
   ·intro h;rw [h]
  rw [e1] at h3;have e2:∀s,mksB a s=true↔(ltsN a).mks s:=fun s=>by unfold mksB;rw [@decide_eq_true_iff _ (Classical.propDecidable _)]
  rw [←e2,←e2,←Bool.eq_iff_iff,←h3];simp
 exact⟨hlen,yaZ _,fun s t hs ht e hm=>((key s t hs ht).1 e).1 hm,fun P hP s t hs ht h=>(key s t hs ht).2 ⟨hP.m s t hs ht h,hP.m t s ht hs (hP.sy s t hs ht h)⟩⟩
end
theorem ygU{xs ys:LI}(hx:xs.length≤4294967296):ym xs ys=some (decide (xs=ys)):=by
 rw [ym];by_cases hl:xs.length=ys.length
 ·rw [iN (by simp [hl])];obtain⟨o,ho,he⟩:=yf (f:=y1P xs ys) (fun j st=>st=(j:Int)∧xs.take j=ys.take j) (fun o=>(o= .inl ()∧xs=ys)∨(o= .inr ()∧xs≠ys)) xs.length 0 (by omega) (fun j st hj ⟨e1,e2⟩=>by
    subst e1;unfold y1P;rw [iP (ct_lt hj),yj hj,yOb,yj (show j<ys.length by omega),yOb];by_cases h:xs[j]=ys[j]
    ·left;refine⟨_,by rw [iN (by simp [h]),nxt (by omega)],rfl,?_⟩;rw [yTs hj,yTs (show j<ys.length by omega),e2,h]
    ·right;exact⟨_,by rw [iP (by simp [h])],.inr ⟨rfl,fun e=>h (by subst e;rfl)⟩⟩)
   (fun st ⟨e1,e2⟩=>by
    subst e1;refine⟨_,by unfold y1P;rw [iN ct_ge],.inl ⟨rfl,?_⟩⟩;rw [List.take_length,hl,List.take_length] at e2;exact e2) (by omega) 0 ⟨rfl,rfl⟩
  rw [ho,yOb];rcases he with ⟨rfl,e⟩|⟨rfl,e⟩
  ·simp [e]
  ·simp [e]
 ·rw [iP (by simp;omega)];have:xs≠ys:=fun e=>hl (by rw [e]);simp [this]
theorem yf5{a:NdT}(ha:NdOk a)(h99:a.2.1≤99)(hal:a.1.length≤32):∃c,y3m a=some c∧RfOk (ltsN a) a.2.1.toNat c:=by
 have h0:=ha.n0;obtain⟨n,hn⟩:∃n:Nat,a.2.1=(n:Int):=⟨a.2.1.toNat,by omega⟩;have hnn:a.2.1.toNat=n:=by omega
 rw [hnn];have hV:=ha.vn;rw [hnn] at hV;have hHund:∀{c:LI},RfI (ltsN a) n c→Hund c:=fun {c} h x hx=>by
  obtain⟨i,hi,e⟩:=List.mem_iff_getElem.1 hx;have:=h.fst.lt i x (by rw [yGe hi,e]);have:=h.len;omega
 have hm:mkL a.2.1 ([]:List LI)=some (List.replicate n []):=by unfold mkL;rw [hn,iP (by omega)];rfl
 have hf:=yfR (a:=a) (n:=n);rw [y3m,hm,yOb,yf1 ha hn hal (by omega),yOb];dsimp only;rw [ya7 (by simp;omega),yOb];obtain⟨o,ho,he⟩:=yf (f:=y3L a ((List.range n).map (fun i:Nat=>by8 (tru8 (mksB a (i:Int)))),(List.range n).map (rowA a))) (fun j st=>RfI (ltsN a) n st.1∧st.2.length=n∧j+eqs n st.1≤n*n) (fun o=>RfOk (ltsN a) n o) (n*n+1) 0 (by
   have:n*n≤99*99:=Nat.mul_le_mul (by omega) (by omega);omega) (fun j st hj ⟨g1,g2,g3⟩=>by
   obtain⟨c,keys⟩:=st;dsimp only at g1 g2 g3;have hcl:=g1.len;have hR:=yfQ ha hn (by omega) (hHund g1) hcl;unfold y3L;dsimp only;rw [yf4 hn hal (by omega) (hHund g1) hcl _ g2,yOb,ya7 (by simp;omega),yOb];show(∃s',(ym (nextC a n c) c).bind _=_∧_)∨∃o,(ym (nextC a n c) c).bind _=_∧_;rw [ygU (by have:=hR.len;omega),yOb];by_cases e:nextC a n c=c
   ·right;refine⟨c,by rw [decide_eq_true e];rfl,{ g1 with st:=g1.stb (by rw [e] at hR;exact hR) }⟩
   ·left;refine⟨(nextC a n c,(List.range n).map fun i=>by8 (keyA a c i)),by rw [decide_eq_false e];rfl,g1.next hR hV,by simp,?_⟩;have:=RfN.lt hcl g1.fst hR e;dsimp only;omega)
  (fun st ⟨_,_,g3⟩=>by omega) (by omega) (numK ((List.range n).map fun i:Nat=>by8 (tru8 (mksB a (i:Int)))),(List.range n).map fun i:Nat=>by8 (tru8 (mksB a (i:Int)))) ⟨hf,by simp,by have:=ygT n (numK ((List.range n).map fun i:Nat=>by8 (tru8 (mksB a (i:Int)))));dsimp only;omega⟩
 exact⟨o,by rw [ho];rfl,he⟩
theorem yay{x y:E3}(h1:¬ltE3 x y)(h2:¬ltE3 y x):x=y:=by
 unfold ltE3 at *;exact Prod.ext (by omega) (Prod.ext (by omega) (by omega))
theorem ltfC{f:E3→E3→Option Int}(hf:∀x y,∃z,f x y=some z∧(z<0↔ltE3 x y)){x y:E3}:ltf f x y=true↔ltE3 x y:=by
 obtain⟨z,h1,h2⟩:=hf x y;unfold ltf;rw [h1];simpa using h2
theorem yf6{f:E3→E3→Option Int}(hf:∀x y,∃z,f x y=some z∧(z<0↔ltE3 x y))(xs:List E3):cmpB f xs=true:=ygm ltE3 (fun x _ y _=>hf x y) (fun x _ y _ h=>by unfold ltE3 at *;omega) (fun x _ y _ h1 h2=>yay h1 h2) (fun x _ y _ z _ h1 h2=>by unfold ltE3 at *;omega)
theorem ydL{f:E3→E3→Option Int}(hf:∀x y,∃z,f x y=some z∧(z<0↔ltE3 x y))(xs:List E3):(srtL (ltf f) xs).Pairwise fun a b=>¬ltE3 b a:=
 (ybm (ycu (yf6 hf xs)) xs fun _ h=>h).imp fun h=>by rw [←ltfC hf];simp [h]
theorem ycV{f:E3→E3→Option Int}(hf:∀x y,∃z,f x y=some z∧(z<0↔ltE3 x y)){xs:List E3}(hl:xs.length≤4294967296):y1b f xs=some (srtL (ltf f) xs):=by
 unfold y1b srtF;rw [iP ⟨hl,yf6 hf xs⟩]
theorem cmpN(x y:E3):∃z,yd x y=some z∧(z<0↔ltE3 x y):=by
 obtain⟨z,h1,h2,_⟩:=y9c x y;exact⟨z,h1,h2⟩
theorem yc2{α:Type}{lt:α→α→Prop}(ha:∀x y,lt x y→¬lt y x):∀{xs ys:List α},xs.Pairwise lt→ys.Pairwise lt→(∀x,x∈xs↔x∈ys)→xs=ys
 | [],[],_,_,_=>rfl
 | [],y::ys,_,_,h=>absurd ((h y).2 (.head _)) (by simp)
 | x::xs,[],_,_,h=>absurd ((h x).1 (.head _)) (by simp)
 | x::xs,y::ys,h1,h2,h=>by
  have hx:=yPc.1 h1;have hy:=yPc.1 h2;have hirr:∀z,¬lt z z:=fun z h=>ha z z h h;have e:x=y:=by
   rcases yMo.1 ((h x).1 (.head _)) with e|hxm
   ·exact e
   ·rcases yMo.1 ((h y).2 (.head _)) with e|hym
    ·exact e.symm
    ·exact absurd (hy.1 x hxm) (ha _ _ (hx.1 y hym))
  subst e;rw [yc2 ha hx.2 hy.2 fun z=>?_];constructor
  ·intro hz;rcases yMo.1 ((h z).1 (.tail _ hz)) with e|g
   ·subst e;exact absurd (hx.1 _ hz) (hirr _)
   ·exact g
  ·intro hz;rcases yMo.1 ((h z).2 (.tail _ hz)) with e|g
   ·subst e;exact absurd (hy.1 _ hz) (hirr _)
   ·exact g
theorem of_l1{c set:LI}(hs:∀s∈set,0≤s∧s<(c.length:Int))(hl:set.length≤1000000):iter (y1a set c) (0,([]:LI))=some (set.map (cF c)):=by
 have:=y9H (xs:=set) (y1a set c) (cF c) [] (by rw [List.length_nil];omega) (fun j hj o=>by
  unfold y1a;simp only [ct_lt hj,if_true,yj hj,yOb];rw [idxF (hs _ (yGm hj)),yOb]) (fun o=>by
  unfold y1a;simp)
 rwa [List.nil_append] at this
theorem of_eq{c set:LI}(hs:∀s∈set,0≤s∧s<(c.length:Int))(hl:set.length≤1000000):yn c set=some (clsS c set):=by
 rw [yn,of_l1 hs hl,yOb,yap (by rw [yLm];omega),yOb,y8d (by rw [(y4j _).length_eq,yLm];omega)];rfl
theorem yc3(c:LI)(x:Int):topL (c++[x])=max (topL c) (x+1):=by unfold topL;rw [List.foldl_append];rfl
def clsE(c:LI)(y:E3):E3:=(cF c y.1,y.2.1,cF c y.2.2)
def qualE(y:E3):Bool:=(y.2.1 != (-1))||(y.1 != y.2.2)
def oneS(out:List E3)(z:E3):List E3:=if qualE z=true∧z∉out then out++[z] else out
def oneF(l:List E3):List E3:=l.foldl oneS []
theorem yc4(l:List E3)(z:E3):oneF (l++[z])=oneS (oneF l) z:=by unfold oneF;rw [List.foldl_append];rfl
theorem y8D(l:List E3):(oneF l).Nodup∧(∀z,z∈oneF l↔z∈l∧qualE z=true)∧(oneF l).length≤l.length:=by
 have key:∀n,n≤l.length→(oneF (l.take n)).Nodup∧(∀z,z∈oneF (l.take n)↔z∈l.take n∧qualE z=true)∧(oneF (l.take n)).length≤n:=by
  intro n
  induction n with
  | zero=>intro _;exact⟨.nil,fun z=>by simp [oneF],yNr _⟩
  | succ n ih=>
   intro hn;obtain⟨h1,h2,h3⟩:=ih (by omega);rw [yTs (by omega),yc4];unfold oneS;split
   ·rename_i h;refine⟨?_,fun z=>?_,by simp;omega⟩
    ·unfold List.Nodup;rw [List.pairwise_append];exact⟨h1,List.pairwise_singleton _ _,fun x hx y hy e=>h.2 (by rw [←yMs.1 hy,←e];exact hx)⟩
    ·rw [yMa,yMa,h2,yMs];constructor
     ·rintro (⟨g1,g2⟩|rfl)
      ·exact ⟨.inl g1,g2⟩
      ·exact ⟨.inr rfl,h.1⟩
     ·rintro ⟨g1|g1,g2⟩
      ·exact .inl ⟨g1,g2⟩
      ·exact .inr g1
   ·rename_i h;refine⟨h1,fun z=>?_,by omega⟩;rw [yMa,h2,yMs];constructor
    ·rintro ⟨g1,g2⟩;exact⟨.inl g1,g2⟩
    ·rintro ⟨g1|rfl,g2⟩
     ·exact ⟨g1,g2⟩
     ·exact Classical.byContradiction fun hne=>h ⟨g2,fun hm=>hne ((h2 _).1 hm)⟩
 have:=key l.length (yNr _);rwa [List.take_length] at this
theorem ycW :∀(l:List E3) (z:E3),kget (l.map fun z=>(z,true)) z=if z∈l then some true else none
 | [],z=>by simp [kget]
 | x::l,z=>by
  have ih:=ycW l z;unfold kget at ih ⊢;rw [List.map_cons,List.find?_cons];by_cases h:z=x
  ·subst h;simp
  ·have h':(z==x)=false:=by simpa using h
   simp only [h'];rw [ih];simp [h]
theorem yfS{l:List E3}{z:E3}(h:z∉l):kput (l.map fun z=>(z,true)) z true=(l++[z]).map fun z=>(z,true):=by
 unfold kput;rw [iN (by rw [List.map_map,show((fun p:E3×Bool=>p.1)∘fun z=>(z,true))=id from rfl,List.map_id,ycH h,yLm];omega),List.map_append];rfl
section
variable{a:NdT}{n:Nat}{c:LI}(ha:NdOk a)(hn:a.2.1=(n:Int))(hcl:c.length=n)(hHu:Hund c)
include ha hn hcl
include hHu in
theorem ygV :iter (y1H (c,0)) (0,0)=some (topL c):=by
 have hn1:=ha.n1;obtain⟨o,ho,he⟩:=yf (f:=y1H (c,0)) (fun j st=>st=((j:Int),topL (c.take j))) (fun o=>o=topL c) c.length 0 (by omega) (fun j st hj e1=>by
   subst e1;refine .inl ⟨_,?_,rfl⟩;have hx:=hHu _ (yGm hj);unfold y1H;simp only [ct_lt hj,if_true,yj hj,yOb];rw [nxt (by omega),W_of (by omega) (by omega),yTs hj,yc3];congr 3;split <;> omega)
  (fun st e1=>by
   subst e1;refine⟨_,?_,rfl⟩;rw [List.take_length];unfold y1H;simp) (by omega) (0,0) rfl
 rw [ho,he]
theorem ygW :iter (yP a (c,0)) (0,([]:List (E3×Bool)),([]:List E3))=some (oneF (a.2.2.2.2.map (clsE c))):=by
 have hle:=ha.le;obtain⟨o,ho,he⟩:=yf (f:=yP a (c,0)) (fun j st=>st=((j:Int),(oneF ((a.2.2.2.2.take j).map (clsE c))).map (fun z=>(z,true)),oneF ((a.2.2.2.2.take j).map (clsE c)))) (fun o=>o=oneF (a.2.2.2.2.map (clsE c))) a.2.2.2.2.length 0 (by omega) (fun j st hj e1=>by
   subst e1;refine .inl ⟨_,?_,rfl⟩;have hx:=ha.esr _ (yGm hj);have h3:=(y8D ((a.2.2.2.2.take j).map (clsE c))).2.2;rw [yLm,yLt,Nat.min_eq_left (by omega)] at h3;rw [yTs hj,List.map_append,List.map_singleton,yc4];generalize oneF ((a.2.2.2.2.take j).map (clsE c))=S at h3 ⊢;unfold yP;simp only [ct_lt hj,if_true,yj hj,yOb];rw [idxF (by omega),yOb,idxF (by omega),yOb];have hz:(cF c a.2.2.2.2[j].1,a.2.2.2.2[j].2.1,cF c a.2.2.2.2[j].2.2)=clsE c a.2.2.2.2[j]:=rfl;have hk:((a.2.2.2.2[j].2.1 != (-1))||(cF c a.2.2.2.2[j].1 != cF c a.2.2.2.2[j].2.2))=qualE (clsE c a.2.2.2.2[j]):=rfl;rw [hz,hk];generalize clsE c a.2.2.2.2[j]=z;rw [ycW];unfold oneS;by_cases hm:z∈S
   ·rw [iP hm,iN (by simp),iN (by simp [hm])];rw [yO];simp only [nxt (show j<4611686018427387904 by omega)]
   ·rw [iN hm];cases hb:qualE z with
    | false=>
     rw [iN (by simp),iN (by simp)];rw [yO];simp only [nxt (show j<4611686018427387904 by omega)]
    | true=>
     rw [iP (by simp),iP ⟨rfl,hm⟩,y2G (by simp;omega),yOb,yfS hm];rw [yO];simp only [nxt (show j<4611686018427387904 by omega)])
  (fun st e1=>by
   subst e1;refine⟨_,?_,rfl⟩;rw [List.take_length];unfold yP;simp) (by omega) (0,[],[]) rfl
 rw [ho,he]
end
def absE(a:NdT)(c:LI):List E3:=srtL (ltf yd) (oneF (a.2.2.2.2.map (clsE c)))
theorem yaz{a:NdT}{c:LI}{z:E3}:z∈absE a c↔ ∃y∈a.2.2.2.2,clsE c y=z∧qualE z=true:=by
 unfold absE;rw [(y3q _ _).mem_iff,(y8D _).2.1,yMp];constructor
 ·rintro ⟨⟨y,h1,h2⟩,h3⟩;exact⟨y,h1,h2,h3⟩
 ·rintro ⟨y,h1,h2,h3⟩;exact⟨⟨y,h1,h2⟩,h3⟩
theorem ydM(a:NdT)(c:LI):(absE a c).Pairwise ltE3:=by
 have h1:=ydL cmpN (oneF (a.2.2.2.2.map (clsE c)));have h2:(absE a c).Nodup:=(y3q _ _).nodup_iff.2 (y8D _).1;exact(h1.and h2).imp fun {x y} h=>Classical.byContradiction fun hn=>h.2 (yay hn h.1)
def absN(a:NdT)(c:LI):NdT:=(a.1,topL c,clsS c a.2.2.1,clsS c a.2.2.2.1,absE a c)
theorem RfI.hund{L:Lts Int}{n:Nat}{c:LI}(h:RfI L n c)(h99:n≤99):Hund c:=fun x hx=>by
 obtain⟨i,hi,e⟩:=List.mem_iff_getElem.1 hx;have:=h.fst.lt i x (by rw [yGe hi,e]);have:=h.len;omega
theorem ygv{a:NdT}(ha:NdOk a)(h99:a.2.1≤99){c:LI}(hc:RfOk (ltsN a) a.2.1.toNat c):NdOk (absN a c)∧AbsOk a (absN a c) c:=by
 have h0:=ha.n0;have hcl:=hc.len;have hH:=hc.toRfI.hund (by omega);have ht:=hc.fst.top_le;have hin:∀s,0≤s∧s<a.2.1→0≤cF c s∧cF c s<topL c:=fun s hs=>by
  have hm:=y8A (c:=c) hs.1 (by omega);exact⟨(hH _ hm).1,ygr hm⟩
 refine⟨⟨ha.al,ha.alr,ygs c,by show topL c≤4096;omega,y7O _,fun x hx=>?_,y7O _,fun x hx=>?_,ydM a c,fun z hz=>?_,ha.la,Nat.le_trans (y9g _ _) ha.li,Nat.le_trans (y9g _ _) ha.lm,?_⟩,⟨hc,rfl,⟨fun x=>?_,fun x=>?_,fun e=>Iff.rfl,fun e x y=>?_⟩⟩⟩
 ·obtain ⟨s,hs,rfl⟩:=y5k.1 hx;exact hin s (ha.inr s hs)
 ·obtain ⟨s,hs,rfl⟩:=y5k.1 hx;exact hin s (ha.mkr s hs)
 ·obtain ⟨y,hy,rfl,hk⟩:=yaz.1 hz;have:=ha.esr y hy;have g1:=hin y.1 (by omega);have g2:=hin y.2.2 (by omega);exact⟨g1.1,g1.2,g2.1,g2.2,this.2.2.2.2⟩
 ·show (absE a c).length≤65536;unfold absE;rw [(y3q _ _).length_eq];have:=(y8D (a.2.2.2.2.map (clsE c))).2.2;rw [yLm] at this;have:=ha.le;omega
 ·exact y5k
 ·exact y5k
 ·show (x,e,y)∈absE a c↔_;rw [yaz];constructor
  ·rintro ⟨⟨s,e',t⟩,hy,h1,h2⟩;unfold clsE at h1;obtain⟨rfl,h3⟩:=Prod.mk.inj h1;obtain⟨rfl,rfl⟩:=Prod.mk.inj h3;refine⟨s,t,hy,rfl,rfl,?_⟩;simpa [qualE] using h2
  ·rintro ⟨s,t,hst,rfl,rfl,h⟩;exact⟨(s,e,t),hst,rfl,by simpa [qualE] using h⟩
theorem yd9{a:NdT}(ha:NdOk a)(h99:a.2.1≤99)(hal:a.1.length≤32):∃c,yY a=some (c,0)∧y1v a=some (absN a c,0)∧NdOk (absN a c)∧AbsOk a (absN a c) c:=by
 have h0:=ha.n0;obtain⟨c,h1,hc⟩:=yf5 ha h99 hal;have hcl:=hc.len;have hH:=hc.toRfI.hund (by omega);obtain⟨h2,h3⟩:=ygv ha h99 hc;have hk:yY a=some (c,0):=by rw [yY,yaS ha,yOb,iN (by simp),h1,yOb]
 have hla:=ha.la;have hn:a.2.1=(a.2.1.toNat:Int):=by omega
 refine⟨c,hk,?_,h2,h3⟩;have hle:=ha.le;have hol:=(y8D (a.2.2.2.2.map (clsE c))).2.2;rw [yLm] at hol;rw [y1v,hk,yOb,iN (by simp),ycC (by omega),yOb];dsimp only;rw [of_eq (fun s hs=>by have:=ha.inr s hs;omega) ha.li,yOb,of_eq (fun s hs=>by have:=ha.mkr s hs;omega) ha.lm,yOb,ygV ha hn hcl hH,yOb];show(iter (yP a (c,0)) (0,([]:List (E3×Bool)),([]:List E3))).bind _=_;rw [ygW ha hn hcl,yOb,absC,ycV cmpN (by omega),yOb];rfl
end
end
end Go.Proofs.YtfdeiphkmjdifaaGreatDoor
