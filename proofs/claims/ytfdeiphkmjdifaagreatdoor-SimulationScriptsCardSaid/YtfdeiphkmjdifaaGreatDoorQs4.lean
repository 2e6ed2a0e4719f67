/- Parts of the proof, without what nothing here names. -/
import Derived.Test.YtfdeiphkmjdifaaGreatDoorProg
import Derived.Lib.AppendZeros
import Derived.Test.YtfdeiphkmjdifaaGreatDoorQs3
set_option maxRecDepth 100000
set_option maxRecDepth 100000
set_option maxHeartbeats 8000000
namespace Go.Proofs.YtfdeiphkmjdifaaGreatDoor
open Tryz Go Go.RowKit
noncomputable section
variable{p0:Bool}{p1 p2:Int}
def yp(p2:Bool→Bool→Option Bool)(a:LI×LI×LI)(d:Bool)(e:Bool)(b:LI)(c:LI)(f:Int):Option ((LI×LI×LI)⊕LI):=
 (p2 d e).bind fun g=>
 if g then
  (app a.1 ([f]:LI)).bind fun h=>
  some (.inl (h,b,c))
 else
  some (.inl (a.1,b,c))
def yk(p2:Bool→Bool→Option Bool)(a:LI×LI×LI)(c:Bool)(b:Bool)(d:LI)(e:Int):Option ((LI×LI×LI)⊕LI):=
 if b then
  (idx a.2.2 0).bind fun f=>
  (slc a.2.2 1 (a.2.2.length:Int)).bind fun g=>
  yp p2 a c b d g f
 else
  yp p2 a c b d a.2.2 e
def ym(p2:Bool→Bool→Option Bool)(a:LI×LI×LI)(b:Bool)(c:Bool):Option ((LI×LI×LI)⊕LI):=
 if b then
  (idx a.2.1 0).bind fun d=>
  (slc a.2.1 1 (a.2.1.length:Int)).bind fun e=>
  yk p2 a b c e d
 else
  yk p2 a b c a.2.1 0
def yt(p2:Bool→Bool→Option Bool)(a:LI×LI×LI)(b:Bool):Option ((LI×LI×LI)⊕LI):=
 if decide ((a.2.2.length:Int)>0) then
  if((a.2.1.length:Int)==0) then
   ym p2 a b true
  else
   (idx a.2.2 0).bind fun c=>
   (idx a.2.1 0).bind fun d=>
   ym p2 a b (decide (c≤d))
 else
  ym p2 a b false
def yh(p2:Bool→Bool→Option Bool)(a:LI×LI×LI):Option ((LI×LI×LI)⊕LI):=
 if((decide ((a.2.1.length:Int)>0))||(decide ((a.2.2.length:Int)>0))) then
  if decide ((a.2.1.length:Int)>0) then
   if((a.2.2.length:Int)==0) then
    yt p2 a true
   else
    (idx a.2.1 0).bind fun b=>
    (idx a.2.2 0).bind fun c=>
    yt p2 a (decide (b≤c))
  else
   yt p2 a false
 else
  some (.inr a.1)
def y2V(p0:LI)(p1:LI)(p2:Bool→Bool→Option Bool):Option LI:=
 (iter (yh p2) (([]:LI),p0,p1)).bind fun a=>
 some a
theorem y8c{p0:LI}{p1:LI}{p2:Bool→Bool→Option Bool}{r:LI}(hm:y2V p0 p1 p2=some r):
  F0 139 [.f qI p0,.f qI p1,.o (lW prog (fun (x:Bool×Bool)=> [.b x.1,.b x.2]) (fun (r:Bool)=> .b r) (fun x=>p2 x.1 x.2))] [] (.h 0) [rwI r]:=by
 refine Fw.mk2 func139 ntmps139 R (fun C=>?_) R;refine .sr (.an R (.sr (.an R (.seq (.block (bS hm fun L P hm=>?_))))));refine .cut1 (z:= .exit 0) L (fun (L:LI)=>⟨[(7,.h 0)],[(0,rwI L)],1⟩) ?_ fun a3=>?_
 ·skip
  refine .blkE (.seqN (.sv R (.an R (.ret ?_))));cases hm;exact .rr [0] results139 (.tmp R .nil) R I3 ⟨⟨_,R,I4⟩,trivial⟩
 refine .nlg qI 3 7 0 R R (.iter (fun (a:LI×LI×LI)=>⟨[(7,.h 0),(0,.f qI a.2.1),(1,.f qI a.2.2),(2,.o (lW prog (fun (x:Bool×Bool)=> [.b x.1,.b x.2]) (fun (r:Bool)=> .b r) (fun x=>p2 x.1 x.2)))],[(0,rwI a.1)],1⟩) P [] R ?_);intro a l hm K a2;refine .seq (.sv R (.ln sl26 R (.bi R (.mv R ?_))));refine .cut 4 (fun (M:Bool)=>((decide ((a.2.1.length:Int)>0))||(decide ((a.2.2.length:Int)>0)))=M) (fun M=>⟨[(18,.b M),(7,.h 0),(0,.f qI a.2.1),(1,.f qI a.2.2),(2,.o (lW prog (fun (x:Bool×Bool)=> [.b x.1,.b x.2]) (fun (r:Bool)=> .b r) (fun x=>p2 x.1 x.2)))],[(0,rwI a.1)],1⟩) ?_ ?_
 ·rintro _ rfl;refine .ns ?_;refine .cc hm R (fun hm=>?_) fun hm=> .xx ((a3 _ (a2 _ (oj hm))).s0 R);refine .sn (.block ?_);refine .join1 (fun (e:Bool)=>yt p2 a e=some l) (fun e=>⟨[(8,.b e),(7,.h 0),(0,.f qI a.2.1),(1,.f qI a.2.2),(2,.o (lW prog (fun (x:Bool×Bool)=> [.b x.1,.b x.2]) (fun (r:Bool)=> .b r) (fun x=>p2 x.1 x.2)))],[(0,rwI a.1)],1⟩) ?_ ?_
  ·intro e hm;refine .join1 (fun (g:Bool)=>ym p2 a e g=some l) (fun g=>⟨[(9,.b g),(8,.b e),(7,.h 0),(0,.f qI a.2.1),(1,.f qI a.2.2),(2,.o (lW prog (fun (x:Bool×Bool)=> [.b x.1,.b x.2]) (fun (r:Bool)=> .b r) (fun x=>p2 x.1 x.2)))],[(0,rwI a.1)],1⟩) ?_ ?_
   ·intro g hm;refine .sr (.an R ?_);refine .join2 (fun (j:LI) (B:Int)=>yk p2 a e g j B=some l) (fun j B=>⟨[(0,.f qI j),(10,.i B),(9,.b g),(8,.b e),(7,.h 0),(1,.f qI a.2.2),(2,.o (lW prog (fun (x:Bool×Bool)=> [.b x.1,.b x.2]) (fun (r:Bool)=> .b r) (fun x=>p2 x.1 x.2)))],[(0,rwI a.1)],1⟩) ?_ ?_
    ·intro j B hm;refine .join2 (fun (w:LI) (m:Int)=>yp p2 a e g j w m=some l) (fun w m=>⟨[(1,.f qI w),(10,.i m),(0,.f qI j),(9,.b g),(8,.b e),(7,.h 0),(2,.o (lW prog (fun (x:Bool×Bool)=> [.b x.1,.b x.2]) (fun (r:Bool)=> .b r) (fun x=>p2 x.1 x.2)))],[(0,rwI a.1)],1⟩) ?_ ?_
     ·intro w m hm;refine .sv R (.mv R (.mv R (bS hm fun b2 Q hm=>?_)));refine .op (O.fv (y:=(e,g)) R R R Z R Q R R) R ?_;exact .ns (.cc hm R (fun hm=> .reg (.mv R (.mv R (.bf (r:=qI) ([m]:LI) bs26 R (.c .k .n) R (bS hm fun b3 S hm=> .ap 1 underlying26 el3 R R (.fr R) S (.sa R (.nil (.blkN ((K _ (oj hm)).sub [(0,1)] R))))))))) fun hm=> .skip (.blkN ((K _ (oj hm)).s0 R)))
     ·intro F;refine .sv R (.ns ?_);refine .cc hm R (fun hm=>?_) fun hm=> .skip ((F _ _ hm).s0 R);refine .sub (τ:=⟨[(0,.f qI j),(9,.b g),(8,.b e),(7,.h 0),(1,.f qI a.2.2),(2,.o (lW prog (fun (x:Bool×Bool)=> [.b x.1,.b x.2]) (fun (r:Bool)=> .b r) (fun x=>p2 x.1 x.2)))],[(0,rwI a.1)],1⟩) ?_ [] R;refine bS hm fun a4 T hm=>bS hm fun a5 U hm=>?_;refine .drg 1 [(1,[]),(1,[oT]),(1,[oT,oT]),(1,[]),(1,[oF,oF,oF,oT]),(1,tT 3),(1,tT 6)] [_,_,_,_,_,_,_] ⟨[(1,.f qI a5),(10,.i a4),(0,.f qI j),(9,.b g),(8,.b e),(7,.h 0),(2,.o (lW prog (fun (x:Bool×Bool)=> [.b x.1,.b x.2]) (fun (r:Bool)=> .b r) (fun x=>p2 x.1 x.2)))],[(0,rwI a.1)],1⟩ ⟨zM R,O.ix sl26 Z R R T R,O.ld nag3 Z R (.E lv3) R R,zM R,O.sf sl26 Z R R U R,O.as Z R R,O.as Z R R,trivial⟩ (by kernel_rfl) R ?_;exact(F _ _ hm).sub [] R
    ·intro D;refine .sv R (.ns ?_);refine .cc hm R (fun hm=>?_) fun hm=> .skip ((D _ _ hm).s0 R);refine .sub (τ:=⟨[(9,.b g),(8,.b e),(7,.h 0),(0,.f qI a.2.1),(1,.f qI a.2.2),(2,.o (lW prog (fun (x:Bool×Bool)=> [.b x.1,.b x.2]) (fun (r:Bool)=> .b r) (fun x=>p2 x.1 x.2)))],[(0,rwI a.1)],1⟩) ?_ [] R;refine bS hm fun a6 V hm=>bS hm fun a7 W hm=>?_;refine .drg 1 [(1,[]),(1,[oT]),(1,[oT,oT]),(1,[]),(1,[oF,oF,oF,oT]),(1,tT 3),(1,tT 6)] [_,_,_,_,_,_,_] ⟨[(0,.f qI a7),(10,.i a6),(9,.b g),(8,.b e),(7,.h 0),(1,.f qI a.2.2),(2,.o (lW prog (fun (x:Bool×Bool)=> [.b x.1,.b x.2]) (fun (r:Bool)=> .b r) (fun x=>p2 x.1 x.2)))],[(0,rwI a.1)],1⟩ ⟨zM R,O.ix sl26 Z R R V R,O.ld nag3 Z R (.E lv3) R R,zM R,O.sf sl26 Z R R W R,O.as Z R R,O.as Z R R,trivial⟩ (by kernel_rfl) R ?_;exact(D _ _ hm).sub [] R
   ·intro q;refine .sub (τ:=⟨[(8,.b e),(7,.h 0),(0,.f qI a.2.1),(1,.f qI a.2.2),(2,.o (lW prog (fun (x:Bool×Bool)=> [.b x.1,.b x.2]) (fun (r:Bool)=> .b r) (fun x=>p2 x.1 x.2)))],[(0,rwI a.1)],1⟩) ?_ [] R;refine .drP 3 [(1,[]),(1,[oT]),(1,[oT,oT])] [_,_,_] ⟨zM R,O.len sl26 Z R R,O.bi Z R R R R,trivial⟩ fun G=>?_;rcases ifS hm with ⟨s,hm⟩|⟨s,hm⟩
    ·skip
     refine .drX G 7 [(1,tT 3),(1,tT 4),(1,tT 5),(1,tT 6)] [_,_,_,_] ⟨O.kn (zM R) s,O.mv (Gu.mk R R) R R,O.len sl26 (Gu.mk R R) R R,O.bi (Gu.mk R R) R R R R,trivial⟩ (by kernel_rfl) fun H=>?_;rcases ifS hm with ⟨t,hm⟩|⟨t,hm⟩
     ·skip
      exact .drF H [(1,tT 7),(1,tT 8),(1,tT 9),(1,tT 10),(1,tT 8),(1,tA 8 (fA 3 (tT 1))),(1,tA 8 (fA 3 (tT 2))),(1,tT 14),(1,tT 15),(1,tT 16),(1,tT 17)] [_,_,_,_,_,_,_,_,_,_,_] ⟨[(9,.b true),(8,.b e),(7,.h 0),(0,.f qI a.2.1),(1,.f qI a.2.2),(2,.o (lW prog (fun (x:Bool×Bool)=> [.b x.1,.b x.2]) (fun (r:Bool)=> .b r) (fun x=>p2 x.1 x.2)))],[(0,rwI a.1)],1⟩ ⟨O.kn (O.mv (Gu.mk R R) R R) t,zK R,zK R,zK R,zK R,zK R,zK R,zK R,O.pkT (Gu.mk R R) R R R R,O.pkT Z R R R R,O.as Z R R,trivial⟩ (by kernel_rfl) R ((q _ hm).s0 R)
     ·skip
      exact bS hm fun a8 X hm=>bS hm fun a9 Y hm=> .drF H [(1,tT 7),(1,tT 8),(1,tT 9),(1,tT 10),(1,tT 8),(1,tA 8 (fA 3 (tT 1))),(1,tA 8 (fA 3 (tT 2))),(1,tT 14),(1,tT 15),(1,tT 16),(1,tT 17)] [_,_,_,_,_,_,_,_,_,_,_] ⟨[(9,.b (decide (a8≤a9))),(8,.b e),(7,.h 0),(0,.f qI a.2.1),(1,.f qI a.2.2),(2,.o (lW prog (fun (x:Bool×Bool)=> [.b x.1,.b x.2]) (fun (r:Bool)=> .b r) (fun x=>p2 x.1 x.2)))],[(0,rwI a.1)],1⟩ ⟨O.kn (O.mv (Gu.mk R R) R R) t,O.mv (Gu.mk R R) R R,O.ix sl26 (Gu.mk R R) R R X R,O.ld nag3 (Gu.mk R R) R (.E lv3) R R,O.mv (Gu.mk R R) R R,O.ix sl26 (Gu.mk R R) R R Y R,O.ld nag3 (Gu.mk R R) R (.E lv3) R R,O.bi (Gu.mk R R) R R R R,O.pkF (Gu.mk R R) R R R R,O.pkT Z R R R R,O.as Z R R,trivial⟩ (by kernel_rfl) R ((q _ hm).s0 R)
    ·skip
     exact .drF G [(1,tT 3),(1,tT 4),(1,tT 5),(1,tT 6),(1,tT 7),(1,tT 8),(1,tT 9),(1,tT 10),(1,tT 8),(1,tA 8 (fA 3 (tT 1))),(1,tA 8 (fA 3 (tT 2))),(1,tT 14),(1,tT 15),(1,tT 16),(1,tT 17)] [_,_,_,_,_,_,_,_,_,_,_,_,_,_,_] ⟨[(9,.b false),(8,.b e),(7,.h 0),(0,.f qI a.2.1),(1,.f qI a.2.2),(2,.o (lW prog (fun (x:Bool×Bool)=> [.b x.1,.b x.2]) (fun (r:Bool)=> .b r) (fun x=>p2 x.1 x.2)))],[(0,rwI a.1)],1⟩ ⟨O.kn (zM R) s,zK R,zK R,zK R,zK R,O.skipU R R R,O.skipU R R R,O.skipU R R R,O.skipU R R R,O.skipU R R R,O.skipU R R R,O.skipU R R R,zK R,O.pkF Z R R R R,O.as Z R R,trivial⟩ (by kernel_rfl) R ((q _ hm).s0 R)
  ·intro p;refine .sub (τ:=⟨[(7,.h 0),(0,.f qI a.2.1),(1,.f qI a.2.2),(2,.o (lW prog (fun (x:Bool×Bool)=> [.b x.1,.b x.2]) (fun (r:Bool)=> .b r) (fun x=>p2 x.1 x.2)))],[(0,rwI a.1)],1⟩) ?_ [] R;refine .drP 3 [(1,[]),(1,[oT]),(1,[oT,oT])] [_,_,_] ⟨zM R,O.len sl26 Z R R,O.bi Z R R R R,trivial⟩ fun I=>?_;rcases ifS hm with ⟨u,hm⟩|⟨u,hm⟩
   ·skip
    refine .drX I 7 [(1,tT 3),(1,tT 4),(1,tT 5),(1,tT 6)] [_,_,_,_] ⟨O.kn (zM R) u,O.mv (Gu.mk R R) R R,O.len sl26 (Gu.mk R R) R R,O.bi (Gu.mk R R) R R R R,trivial⟩ (by kernel_rfl) fun J=>?_;rcases ifS hm with ⟨v,hm⟩|⟨v,hm⟩
    ·skip
     exact .drF J [(1,tT 7),(1,tT 8),(1,tT 9),(1,tT 10),(1,tT 8),(1,tA 8 (fA 3 (tT 1))),(1,tA 8 (fA 3 (tT 2))),(1,tT 14),(1,tT 15),(1,tT 16),(1,tT 17)] [_,_,_,_,_,_,_,_,_,_,_] ⟨[(8,.b true),(7,.h 0),(0,.f qI a.2.1),(1,.f qI a.2.2),(2,.o (lW prog (fun (x:Bool×Bool)=> [.b x.1,.b x.2]) (fun (r:Bool)=> .b r) (fun x=>p2 x.1 x.2)))],[(0,rwI a.1)],1⟩ ⟨O.kn (O.mv (Gu.mk R R) R R) v,zK R,zK R,zK R,zK R,zK R,zK R,zK R,O.pkT (Gu.mk R R) R R R R,O.pkT Z R R R R,O.as Z R R,trivial⟩ (by kernel_rfl) R ((p _ hm).s0 R)
    ·skip
     exact bS hm fun b0 a0 hm=>bS hm fun b1 a1 hm=> .drF J [(1,tT 7),(1,tT 8),(1,tT 9),(1,tT 10),(1,tT 8),(1,tA 8 (fA 3 (tT 1))),(1,tA 8 (fA 3 (tT 2))),(1,tT 14),(1,tT 15),(1,tT 16),(1,tT 17)] [_,_,_,_,_,_,_,_,_,_,_] ⟨[(8,.b (decide (b0≤b1))),(7,.h 0),(0,.f qI a.2.1),(1,.f qI a.2.2),(2,.o (lW prog (fun (x:Bool×Bool)=> [.b x.1,.b x.2]) (fun (r:Bool)=> .b r) (fun x=>p2 x.1 x.2)))],[(0,rwI a.1)],1⟩ ⟨O.kn (O.mv (Gu.mk R R) R R) v,O.mv (Gu.mk R R) R R,O.ix sl26 (Gu.mk R R) R R a0 R,O.ld nag3 (Gu.mk R R) R (.E lv3) R R,O.mv (Gu.mk R R) R R,O.ix sl26 (Gu.mk R R) R R a1 R,O.ld nag3 (Gu.mk R R) R (.E lv3) R R,O.bi (Gu.mk R R) R R R R,O.pkF (Gu.mk R R) R R R R,O.pkT Z R R R R,O.as Z R R,trivial⟩ (by kernel_rfl) R ((p _ hm).s0 R)
   ·skip
    exact .drF I [(1,tT 3),(1,tT 4),(1,tT 5),(1,tT 6),(1,tT 7),(1,tT 8),(1,tT 9),(1,tT 10),(1,tT 8),(1,tA 8 (fA 3 (tT 1))),(1,tA 8 (fA 3 (tT 2))),(1,tT 14),(1,tT 15),(1,tT 16),(1,tT 17)] [_,_,_,_,_,_,_,_,_,_,_,_,_,_,_] ⟨[(8,.b false),(7,.h 0),(0,.f qI a.2.1),(1,.f qI a.2.2),(2,.o (lW prog (fun (x:Bool×Bool)=> [.b x.1,.b x.2]) (fun (r:Bool)=> .b r) (fun x=>p2 x.1 x.2)))],[(0,rwI a.1)],1⟩ ⟨O.kn (zM R) u,zK R,zK R,zK R,zK R,O.skipU R R R,O.skipU R R R,O.skipU R R R,O.skipU R R R,O.skipU R R R,O.skipU R R R,O.skipU R R R,zK R,O.pkF Z R R R R,O.as Z R R,trivial⟩ (by kernel_rfl) R ((p _ hm).s0 R)
 ·intro N;rcases yEt (decide ((a.2.1.length:Int)>0)) with hc|hc
  ·refine .know (d:=14) R hc ?_;exact .s2 R R (.sk R (.pT R ((N true (orT hc).symm).s0 R)))
  ·refine .know (d:=14) R hc ?_;exact .mg R (.op (O.len sl26 (Gu.mk R R) R R) R (.bg R (.pF R ((N (decide ((a.2.2.length:Int)>0)) (orF hc).symm).s0 R))))
def yw(p0:Bool)(p1:Bool):Option Bool:=
 some (p0&&(!p1))
theorem ybI{p1:Bool}{r:Bool}(hm:yw p0 p1=some r):
  F0 150 [.b p0,.b p1] [] (.b r) []:=by
 refine Fw.mk2 func150 ntmps150 R (fun C=>?_) R;refine .sr (.an R (.sv R (.mv R ?_)));refine .cut 3 (fun (a:Bool)=>(p0&&(!p1))=a) (fun a=>⟨[(9,.b a)],[],0⟩) ?_ ?_
 ·rintro _ rfl;refine .an R (.ret ?_);cases hm;exact .r0 results150 (.tmp R .nil) R R
 ·intro c;rcases yEt p0 with hc|hc
  ·refine .know (d:=6) R hc ?_;exact .mg R (.op (O.not (Gu.mk R R) R R) R (.pT R ((c (!p1) (andT hc).symm).s0 R)))
  ·refine .know (d:=6) R hc ?_;exact .s2 R R (.pF R ((c false (andF hc).symm).s0 R))
def y4a(p0:LI)(p1:LI):Option LI:=
 (y2V p0 p1 yw).bind fun a=>
 some a
theorem y9O{p0:LI}{p1:LI}{r:LI}(hm:y4a p0 p1=some r):
  F0 77 [.f qI p0,.f qI p1] [] (.h 0) [rwI r]:=by
 refine Fw.mk2 func77 ntmps77 R (fun C=>?_) R;refine .sr (.an R (.sv R (.mv R (bS hm fun b a hm=> .op (O.cac (r':= .h 0) [0] [(0,rwI b)] (some 1) (y8c a) cf139 R R Z R R ⟨⟨R,.rf⟩,⟨R,.rf⟩,⟨R,(.c (.fn cf150 (fun x r h=>ybI h) (fun _=>R)) .n)⟩,trivial⟩ R ⟨⟨_,R,I4⟩,trivial⟩ I3 R) R (.an R (.ret ?_))))));cases hm;exact .rr [0] results77 (.tmp R .nil) R I3 ⟨⟨_,R,I4⟩,trivial⟩
def yV(p0:LI)(p1:LI):Option Bool:=
 (y4a p0 p1).bind fun a=>
 some ((a.length:Int)==0)
theorem y7R{p0:LI}{p1:LI}{r:Bool}(hm:yV p0 p1=some r):
  F0 105 [.f qI p0,.f qI p1] [] (.b r) []:=by
 refine Fw.mk2 func105 ntmps105 R (fun C=>?_) R;refine .sr (.an R (.sv R (.mv R (bS hm fun c a hm=> .cm (r':= .h 0) [0] [(0,rwI c)] (some 1) (y9O a) cf77 R ⟨⟨_,R,I4⟩,trivial⟩ R (.lh sl26 R (.bi R (.an R (.ret ?_))))))));cases hm;exact .r0 results105 (.tmp R .nil) R R
def yaW(p0:LI)(p1:Int)(a:Int):Option (Int⊕(Unit⊕Int)):=
 if decide (a<(p0.length:Int)) then
  (idx p0 a).bind fun b=>
  if((decide (b<0))||(decide (b≥p1))) then
   some (.inr (.inr (2)))
  else
   (if decide (a>0) then
    (idx p0 (W (a-1))).bind fun d=>
    some (decide (b≤d))
   else
    some false).bind fun c=>
   if c then
    some (.inr (.inr (5)))
   else
    some (.inl (W (a+1)))
 else
  some (.inr (.inl ()))
def y1H(p0:LI)(p1:Int):Option Int:=
 (iter (yaW p0 p1) 0).bind fun a=>
 match a with
 | .inl c=>
  some 0
 | .inr (b)=>
  some b
theorem y4e{p0:LI}{r:Int}(hm:y1H p0 p1=some r):
  F0 111 [.f qI p0,.i p1] [] (.i r) []:=by
 refine Fw.mk2 func111 ntmps111 R (fun C=>?_) R;refine .sr (.an R (.seq (.sv R (.ln sl26 R (.mv R (.ns (.block (bS hm fun o p hm=>?_))))))));refine .cutU (z:= .exit 0) (fun h=> .inl h=o) (fun (h:Unit)=>⟨[],[],0⟩) ?_ fun u=>?_
 ·rintro h rfl;dsimp only at hm;refine .blkE (.seqN (.sr (.an R (.ret ?_))));cases hm;exact .r0 results111 (.tmp R .nil) R R
 refine .cutU (z:= .ret) (fun g=> .inr (g)=o) (fun (g:Int)=>⟨[(4,.i g)],[],0⟩) ?_ fun n=>?_
 ·rintro g rfl;dsimp only at hm;refine .blkR (.seqR ?_);cases hm;exact .r0 results111 (.tmp R .nil) R R
 refine .iter (fun (a:Int)=>⟨[(9,.i a),(8,.i p0.length),(7,.f qI p0),(0,.f qI p0),(1,.i p1)],[],0⟩) p [] R ?_;intro a x hm t e;refine .sr (.bi R (.ns (.seq ?_)));refine .cc hm R (fun hm=>?_) fun hm=> .xx ((u _ (e _ (oj hm))).s0 R);refine .sn (.seq (.block (.sv R (bS hm fun c q hm=> .ix sl26 q R (.le nag3 lv3 R (.sa R (.an R (.seq (.sv R (.bi R (.mv R ?_)))))))))));refine .cut 4 (fun (j:Bool)=>((decide (c<0))||(decide (c≥p1)))=j) (fun j=>⟨[(20,.b j),(6,.i c),(5,.i a),(9,.i a),(8,.i p0.length),(7,.f qI p0),(0,.f qI p0),(1,.i p1)],[],0⟩) ?_ ?_
 ·rintro _ rfl;refine .ns (.cc hm R (fun hm=> .sr (.an R (.ret (.seqR (.blkR (.seqR (.seqR ((n _ (e _ (oj hm))).s0 R)))))))) fun hm=>?_);refine .sn (.sv R (.bi R (.mv R (bS hm fun v eb19 hm=>?_))));refine .cut 8 (fun (k:Bool)=>v=k) (fun k=>⟨[(31,.b k),(9,.i a),(8,.i p0.length),(7,.f qI p0),(0,.f qI p0),(1,.i p1)],[],0⟩) ?_ ?_
  ·rintro _ rfl;exact .ns (.cc hm R (fun hm=> .sr (.an R (.ret (.blkR (.seqR (.seqR ((n _ (e _ (oj hm))).s0 R))))))) fun hm=> .skip (.blkN (.seqN (.reg (.bi R (.mv R (.nil ((t _ (oj hm)).s0 R))))))))
  ·intro m;rcases ifS eb19 with ⟨hc,hm⟩|⟨hc,hm⟩
   ·refine .know (d:=23) R hc ?_;exact .mg R (.mg R (.mg R (.bg R (bS hm fun w s hm=> .op (O.ix sl26 (Gu.mk R R) R R s R) R (.leg nag3 lv3 R (.bg R (.pT R ((m (decide (c≤w)) (oj hm)).s0 R))))))))
   ·refine .know (d:=23) R hc ?_;exact .s2 R R (.s2 R R (.s2 R R (.sk R (.pF R ((m false (oj hm)).s0 R)))))
 ·intro l;rcases yEt (decide (c<0)) with hc|hc
  ·refine .know (d:=16) R hc ?_;exact .s2 R R (.sk R (.pT R ((l true (orT hc).symm).s0 R)))
  ·refine .know (d:=16) R hc ?_;exact .mg R (.mg R (.bg R (.pF R ((l (decide (c≥p1)) (orF hc).symm).s0 R))))
def y1W(p0:List AutT)(a:Int):Option (Int⊕(Unit⊕Int)):=
 if decide (a<(p0.length:Int)) then
  (idx p0 a).bind fun c=>
  (y1J c).bind fun b=>
  if(b != 0) then
   some (.inr (.inr (b)))
  else
   some (.inl (W (a+1)))
 else
  some (.inr (.inl ()))
def y5P(p0:List AutT):Option Int:=
 if decide ((p0.length:Int)>12) then
  some 3
 else
  (iter (y1W p0) 0).bind fun a=>
  match a with
  | .inl c=>
   some 0
  | .inr (b)=>
   some b
theorem ycV{p0:List AutT}{r:Int}(hm:y5P p0=some r):
    F0 48 [.f rE60 p0] [] (.i r) []:=by
  refine Fw.mk2 func48 ntmps48 R (fun C=>?_) R;refine .sr (.an R (.seq (.sv R (.ln sl49 R (.bi R (.ns ?_))))));refine .cc hm R (fun hm=>?_) fun hm=>?_
  ·refine .sr (.an R (.ret (.seqR ?_)));cases hm;exact .r0 results48 (.tmp R .nil) R R
  ·refine .sn (.seq (.sv R (.ln sl49 R (.mv R (.ns (.block (bS hm fun m k hm=>?_)))))));refine .cutU (z:= .exit 0) (fun h=> .inl h=m) (fun (h:Unit)=>⟨[],[],0⟩) ?_ fun K8=>?_
   · rintro h rfl;dsimp only at hm;refine .blkE (.seqN (.sr (.an R (.ret ?_))));cases hm;exact .r0 results48 (.tmp R .nil) R R
   refine .cutU (z:= .ret) (fun a=> .inr (a)=m) (fun (a:Int)=>⟨[(2,.i a)],[],0⟩) ?_ fun j=>?_
   · rintro a rfl;dsimp only at hm;refine .blkR (.seqR ?_);cases hm;exact .r0 results48 (.tmp R .nil) R R
   refine .iter (fun (c:Int)=>⟨[(11,.i c),(10,.i p0.length),(9,.f rE60 p0)],[],0⟩) k [] R ?_;intro c n hm l b;refine .sr (.bi R (.ns (.seq ?_)));refine .cc hm R (fun hm=>?_) fun hm=> .xx ((K8 _ (b _ (oj hm))).s0 R);refine .sn (.seq (.block (.sr (bS hm fun d g hm=> .ix sl49 g R (.lg (lx60 d) ag60 R (.E lv60) R (.al 0 zz60 R (.st ag60.sz R (.nr (.lg (lx60 d) ag60 R (.B R) R (bS hm fun o e hm=> .c0 (y6Q e) cf114 R (.an R (.sv R (.bi R (.ns ?_))))))))))))));exact .cc hm R (fun hm=> .sv R (.an R (.ret (.blkR (.seqR (.seqR ((j _ (b _ (oj hm))).s0 R))))))) fun hm=> .skip (.blkN (.seqN (.reg (.bi R (.mv R (.nil ((l _ (oj hm)).s0 R)))))))
def yA(p0:Bool)(p1:Bool):Option Bool:=
 some (p0||p1)
theorem ybJ{p1:Bool}{r:Bool}(hm:yA p0 p1=some r):
  F0 140 [.b p0,.b p1] [] (.b r) []:=by
 refine Fw.mk2 func140 ntmps140 R (fun C=>?_) R;refine .sr (.an R (.sv R (.mv R ?_)));refine .cut 2 (fun (a:Bool)=>(p0||p1)=a) (fun a=>⟨[(8,.b a)],[],0⟩) ?_ ?_
 ·rintro _ rfl;refine .an R (.ret ?_);cases hm;exact .r0 results140 (.tmp R .nil) R R
 ·intro c;rcases yEt p0 with hc|hc
  ·refine .know (d:=6) R hc ?_;exact .sk R (.pT R ((c true (orT hc).symm).s0 R))
  ·refine .know (d:=6) R hc ?_;exact .mg R (.pF R ((c p1 (orF hc).symm).s0 R))
def y5o(p0:LI)(p1:LI):Option LI:=
 (y2V p0 p1 yA).bind fun a=>
 some a
theorem ycr{p0:LI}{p1:LI}{r:LI}(hm:y5o p0 p1=some r):
  F0 66 [.f qI p0,.f qI p1] [] (.h 0) [rwI r]:=by
 refine Fw.mk2 func66 ntmps66 R (fun C=>?_) R;refine .sr (.an R (.sv R (.mv R (bS hm fun b a hm=> .op (O.cac (r':= .h 0) [0] [(0,rwI b)] (some 1) (y8c a) cf139 R R Z R R ⟨⟨R,.rf⟩,⟨R,.rf⟩,⟨R,(.c (.fn cf140 (fun x r h=>ybJ h) (fun _=>R)) .n)⟩,trivial⟩ R ⟨⟨_,R,I4⟩,trivial⟩ I3 R) R (.an R (.ret ?_))))));cases hm;exact .rr [0] results66 (.tmp R .nil) R I3 ⟨⟨_,R,I4⟩,trivial⟩
def y1I(p0:List AutT)(a:Int×LI):Option ((Int×LI)⊕LI):=
 if decide (a.1<(p0.length:Int)) then
  (idx p0 a.1).bind fun c=>
  (y5o a.2 c.1).bind fun b=>
  some (.inl (W (a.1+1),b))
 else
  some (.inr a.2)
def y5p(p0:List AutT):Option LI:=
 (iter (y1I p0) (0,([]:LI))).bind fun a=>
 some a
theorem ycs{p0:List AutT}{r:LI}(hm:y5p p0=some r):
  F0 148 [.f rE60 p0] [] (.h 0) [rwI r]:=by
 refine Fw.mk2 func148 ntmps148 R (fun C=>?_) R;refine .sr (.an R (.sr (.an R (.seq (.sv R (.ln sl49 R (.mv R (.ns (.block (bS hm fun d e hm=>?_))))))))));refine .cut1 (z:= .exit 0) d (fun (d:LI)=>⟨[(3,.h 0)],[(0,rwI d)],1⟩) ?_ fun K9=>?_
 ·skip
  refine .blkE (.seqN (.sv R (.an R (.ret ?_))));cases hm;exact .rr [0] results148 (.tmp R .nil) R I3 ⟨⟨_,R,I4⟩,trivial⟩
 refine .nlg qI 3 3 0 R R (.iter (fun (a:Int×LI)=>⟨[(8,.i a.1),(7,.i p0.length),(6,.f rE60 p0),(3,.h 0)],[(0,rwI a.2)],1⟩) e [] R ?_);intro a m hm j g;refine .sr (.bi R (.ns (.seq ?_)));exact .cc hm R (fun hm=> .sn (.seq (.block (.sr (bS hm fun l c hm=> .ix sl49 c R (.lg (lx60 l) ag60 R (.E lv60) R (.al 1 zz60 R (.st ag60.sz R (.ns (.reg (.mv R (.fa yI R (.lb nag26 R (bS hm fun k b hm=> .op (O.caY (r':= .h 2) [2] [(0,rwI k)] (some 3) (ycr b) cf66 R R Z R R ⟨⟨R,.hr R,trivial⟩,⟨R,LnL.rf⟩,trivial⟩ R ⟨.row flr3,trivial⟩ (fun _ _ _ _ h=>h) ⟨⟨_,R,I4⟩,trivial⟩ I3 R) R (.sa R (.nil (.blkN (.seqN (.reg (.bi R (.mv R (.nil ((j _ (oj hm)).sub [(0,2)] R))))))))))))))))))))))) fun hm=> .xx ((K9 _ (g _ (oj hm))).s0 R)
def y1K(c:AutT)(a:Int×(List KeyT)):Option ((Int×(List KeyT))⊕(List KeyT)):=
 if decide (a.1<(c.2.2.2.length:Int)) then
  (idx c.2.2.2 a.1).bind fun b=>
  some (.inl (W (a.1+1),(kput a.2 (b.1,b.2.1) b.2.2)))
 else
  some (.inr a.2)
def y2B(p0:List AutT)(a:Int×(List (List KeyT))):Option ((Int×(List (List KeyT)))⊕(List (List KeyT))):=
 if decide (a.1<(p0.length:Int)) then
  (idx p0 a.1).bind fun c=>
  (iter (y1K c) (0,([]:List KeyT))).bind fun b=>
  (app a.2 ([b]:List (List KeyT))).bind fun d=>
  some (.inl (W (a.1+1),d))
 else
  some (.inr a.2)
def y5q(p0:List AutT):Option ((List AutT)×LI×(List (List KeyT))):=
 (y5p p0).bind fun b=>
 (iter (y2B p0) (0,([]:List (List KeyT)))).bind fun a=>
 some (p0,b,a)
theorem ydl{p0:List AutT}{r:((List AutT)×LI×(List (List KeyT)))}(hm:y5q p0=some r):
  F0 151 [.f rE60 p0] [] (.g [lF rE60 r.1,lH 0,lH 1]) [rwI r.2.1,ROW (rM kvP qI) 128 r.2.2]:=by
 refine Fw.mk2 func151 ntmps151 R (fun C=>?_) R;refine .sr (.al 0 zz212 R (.nr (.mv R (.mv R (bS hm fun o J hm=> .cm (r':= .h 1) [1] [(0,rwI o)] (some 2) (ycs J) cf148 R ⟨⟨_,R,I4⟩,trivial⟩ R (.bu [lF rE60 p0,lH 1,lN] pl212 R (.al 2 zz212 R (.st ag212.sz R (.ns (.seq (.sv R (.ln sl49 R (.mv R (.ns (.block (bS hm fun l s hm=>?_))))))))))))))));refine .cut1 (z:= .exit 0) l (fun (l:(List (List KeyT)))=>⟨[(3,.q 0 0),(2,.q 3 0)],[(0,.bx 212 [lF rE60 p0,lH 1,lH 2]),(1,rwI o),(2,ROW (rM kvP qI) 128 l),(3,.bx 212 [lN,lN,lN])],4⟩) ?_ fun H=>?_
 ·skip
  refine .blkE (.seqN (.sr (.lg [lF rE60 p0,lH 1,lH 2] ag212 R (.B R) R (.st ag212.sz R (.ns (.ret ?_))))));cases hm;exact .rr [1,2] results151 (.cell R R ag212 R .nil) R I3 ⟨⟨_,R,I4⟩,⟨_,R,I4⟩,trivial⟩
 refine .nlb (rM kvP qI) 128 2 2 R R (.iter (fun (b:Int×(List (List KeyT)))=>⟨[(15,.i b.1),(14,.i p0.length),(13,.f rE60 p0),(3,.q 0 0),(2,.q 3 0)],[(0,.bx 212 [lF rE60 p0,lH 1,lH 2]),(1,rwI o),(2,ROW (rM kvP qI) 128 b.2),(3,.bx 212 [lN,lN,lN])],4⟩) s [(0,2),(2,3),(3,0)] R ?_);intro b K hm F y;refine .sr (.bi R (.ns (.seq ?_)));refine .cc hm R (fun hm=>?_) fun hm=> .xx ((H _ (y _ (oj hm))).s0 R);refine .sn (.seq (.block (.sr (bS hm fun p u hm=> .ix sl49 u R (.lg (lx60 p) ag60 R (.E lv60) R (.al 4 zz60 R (.st ag60.sz R (.nr (.op (O.mk2 (kv:=kvP) (r:=qI) 5 R Z R) R (.an R (.seq (.sr (.fa yF R (.lb nag27 R (.ln sl27 R (.mv R (.ns (.block (bS hm fun j t hm=>?_)))))))))))))))))));refine .cut1 (z:= .exit 2) j (fun (j:(List KeyT))=>⟨[(6,.h 0),(15,.i b.1),(14,.i p0.length),(13,.f rE60 p0),(3,.q 1 0),(2,.q 4 0)],[(0,MAP kvP qI 128 j),(1,.bx 212 [lF rE60 p0,lH 2,lH 3]),(2,rwI o),(3,ROW (rM kvP qI) 128 b.2),(4,.bx 212 [lN,lN,lN])],5⟩) ?_ fun I=>?_
 ·skip
  exact .blkE (.seqN (.reg (.fa yee R (.lb yfx R (.mv R (.fz 0 [38] [] R R fM R R (.op (O.bsF (r:=(rM kvP qI)) (zs:=([j]:List (List KeyT))) bs210 R R Z R R R (.c .m .n) R R R) R (bS hm fun M w hm=> .ap 5 underlying210 el128 R R (.fr R) w (.fa yee R (.st yfx.sz R (.nil (.blkN (.seqN (.reg (.bi R (.mv R (.nil ((F _ (oj hm)).sub [(0,1),(1,2),(2,5),(3,4)] R))))))))))))))))))
 refine .iter (fun (e:Int×(List KeyT))=>⟨[(23,.i e.1),(22,.i p.2.2.2.length),(21,.f qT p.2.2.2),(6,.h 0),(15,.i b.1),(14,.i p0.length),(13,.f rE60 p0),(3,.q 1 0),(2,.q 4 0)],[(0,MAP kvP qI 128 e.2),(1,.bx 212 [lF rE60 p0,lH 2,lH 3]),(2,rwI o),(3,ROW (rM kvP qI) 128 b.2),(4,.bx 212 [lN,lN,lN])],5⟩) t [(0,5),(1,0),(2,1),(3,2),(4,3)] R ?_;intro e L hm G D;refine .sr (.bi R (.ns (.seq ?_)));exact .cc hm R (fun hm=> .sn (.seq (.block (.sr (bS hm fun d x hm=> .ix sl27 x R (.lg [lI d.1,lI d.2.1,lI d.2.2] ag112 R (.E lv112) R (.al 5 zz112 R (.st ag112.sz R (.ns (.reg (.mv R (.fa y1A R (.lb nag3 R (.fa y3F R (.lb nag3 R (.bu [lI d.1,lI d.2.1] pl70 R (.fa y3l R (.lb nag3 R (.op (O.mu (k:=(d.1,d.2.1)) (v:=d.2.2) md128 (fun _ _=>eqP) Z R R (.a R R) R .k) R (.nil (.blkN (.seqN (.reg (.bi R (.mv R (.nil ((G _ (oj hm)).s0 R))))))))))))))))))))))))))) fun hm=> .xx ((I _ (D _ (oj hm))).s0 R)
def yl(p0:(List AutT)×LI×(List (List KeyT)))(a:Int):Option (Int⊕(Unit⊕Unit)):=
 if decide (a<(p0.1.length:Int)) then
  (idx p0.1 a).bind fun b=>
  if(b.2.1==0) then
   some (.inr (.inr (())))
  else
   some (.inl (W (a+1)))
 else
  some (.inr (.inl ()))
def yy(p0:(List AutT)×LI×(List (List KeyT))):Option (LI×Bool):=
 (iter (yl p0) 0).bind fun a=>
 match a with
 | .inl c=>
  (mkL (p0.1.length:Int) (0:Int)).bind fun b=>
  some (b,true)
 | .inr (d)=>
  some (([]:LI),false)
theorem y9P{p0:(List AutT)×LI×(List (List KeyT))}{r:LI×Bool}(hm:yy p0=some r):
  F0 152 [.a [lF rE60 p0.1,lF qI p0.2.1,lF (rM kvP qI) p0.2.2]] [] (.tp [.h 0,.b r.2]) [rwI r.1]:=by
 refine Fw.mk2 func152 ntmps152 R (fun C=>?_) R;refine .sr (.bo 0 R (.sa R (.an R (.seq (.sr (.fa ycG R (.lb nag49 R (.ln sl49 R (.mv R (.ns (.block (bS hm fun n k hm=>?_))))))))))));refine .cutU (z:= .exit 0) (fun g=> .inl g=n) (fun (g:Unit)=>⟨[(1,.q 0 0)],[(0,.bx 212 [lF rE60 p0.1,lF qI p0.2.1,lF (rM kvP qI) p0.2.2])],1⟩) ?_ fun K6=>?_
 ·rintro g rfl;dsimp only at hm;refine .blkE (.seqN (.sr (.fa ycG R (.lb nag49 R (.ln sl49 R (bS hm fun t l hm=> .op (O.mk (z:=(0:Int)) 1 underlying26 zr3 R R Z R R l R) R (.sa R (.an R (.ret ?_)))))))));cases hm;exact .rr [1] results152 (.tmp R (.tmp R .nil)) R I3 ⟨⟨_,R,I4⟩,trivial⟩
 refine .cutU (z:= .ret) (fun j=> .inr (j)=n) (fun (j:Unit)=>⟨[(3,.b false),(2,.o (lN))],[],0⟩) ?_ fun K9=>?_
 ·rintro j rfl;dsimp only at hm;refine .blkR (.seqR (.nlg qI 3 2 0 R R ?_));cases hm;exact .rr [0] results152 (.tmp R (.tmp R .nil)) R I3 ⟨⟨_,R,I4⟩,trivial⟩
 refine .iter (fun (d:Int)=>⟨[(9,.i d),(8,.i p0.1.length),(7,.f rE60 p0.1),(1,.q 0 0)],[(0,.bx 212 [lF rE60 p0.1,lF qI p0.2.1,lF (rM kvP qI) p0.2.2])],1⟩) k [] R ?_;intro d s hm m c;refine .sr (.bi R (.ns (.seq ?_)));refine .cc hm R (fun hm=>?_) fun hm=> .xx ((K6 _ (c _ (oj hm))).s0 R);refine .sn (.seq (.block (.sr (bS hm fun p e hm=> .ix sl49 e R (.lg (lx60 p) ag60 R (.E lv60) R (.al 1 zz60 R (.st ag60.sz R (.nr (.fa y1r R (.lb nag3 R (.bi R (.ns ?_))))))))))));exact .cc hm R (fun hm=> .sr (.sa R (.an R (.ret (.blkR (.seqR (.seqR ((K9 _ (c _ (oj hm))).s0 R)))))))) fun hm=> .skip (.blkN (.seqN (.reg (.bi R (.mv R (.nil ((m _ (oj hm)).s0 R)))))))
def y7c(p0:Int):Option Bool:=
 some (p0 != p0)
theorem ya9{p0:Int}{r:Bool}(hm:y7c p0=some r):
  F0 138 [.i p0] [] (.b r) []:=by
 refine Fw.mk2 func138 ntmps138 R (fun C=>?_) R;refine .sr (.an R (.sv R (.mv R (.bi R (.an R (.ret ?_))))));cases hm;exact .r0 results138 (.tmp R .nil) R R
def y8n(p0:Int)(p1:Int):Option Bool:=
 (y7c p0).bind fun b=>
 (if b then
  (y7c p1).bind fun c=>
  some (!c)
 else
  some false).bind fun a=>
 some (a||(decide (p0<p1)))
theorem ydm{p0:Int}{r:Bool}(hm:y8n p0 p1=some r):
  F0 215 [.i p0,.i p1] [] (.b r) []:=by
 refine Fw.mk2 func215 ntmps215 R (fun C=>?_) R;refine .sr (.an R (.sv R (bS hm fun l h hm=> .c0 (ya9 h) cf138 R (.mv R (bS hm fun a eb2 hm=>?_)))));refine .cut 4 (fun (c:Bool)=>a=c) (fun c=>⟨[(11,.b c),(0,.i p0),(1,.i p1)],[],0⟩) ?_ ?_
 ·rintro _ rfl;refine .mv R ?_;refine .cut 4 (fun (e:Bool)=>(a||(decide (p0<p1)))=e) (fun e=>⟨[(16,.b e)],[],0⟩) ?_ ?_
  ·rintro _ rfl;refine .an R (.ret ?_);cases hm;exact .r0 results215 (.tmp R .nil) R R
  ·intro g;rcases yEt a with hc|hc
   ·refine .know (d:=12) R hc ?_;exact .s2 R R (.sk R (.pT R ((g true (orT hc).symm).s0 R)))
   ·refine .know (d:=12) R hc ?_;exact .mg R (.mg R (.bg R (.pF R ((g (decide (p0<p1)) (orF hc).symm).s0 R))))
 ·intro f;rcases ifS eb2 with ⟨hc,hm⟩|⟨hc,hm⟩
  ·refine .know (d:=7) R hc ?_;exact .mg R (bS hm fun k j hm=> .op (O.ca0 (ya9 j) cf138 R R (Gu.mk R R) R R R) R (.op (O.not (Gu.mk R R) R R) R (.pT R ((f (!k) (oj hm)).s0 R))))
  ·refine .know (d:=7) R hc ?_;exact .s2 R R (.sk R (.pF R ((f false (oj hm)).s0 R)))
def y5E(p0:Int):Option Bool:=
 some (p0 != p0)
theorem y8X{p0:Int}{r:Bool}(hm:y5E p0=some r):
  F0 226 [.i p0] [] (.b r) []:=by
 refine Fw.mk2 func226 ntmps226 R (fun C=>?_) R;refine .sr (.an R (.sv R (.mv R (.bi R (.an R (.ret ?_))))));cases hm;exact .r0 results226 (.tmp R .nil) R R
def y1M(p0:LI)(p1:Int)(a:Int×Int):Option ((Int×Int)⊕Int):=
 if decide (a.2<a.1) then
  (idx p0 (W ((IntKind.u64.wrap (W (a.2+a.1))).fdiv (2 ^ (min (1:Int).toNat 64))))).bind fun c=>
  (y8n c p1).bind fun b=>
  if b then
   some (.inl (a.1,W ((W ((IntKind.u64.wrap (W (a.2+a.1))).fdiv (2 ^ (min (1:Int).toNat 64))))+1)))
  else
   some (.inl (W ((IntKind.u64.wrap (W (a.2+a.1))).fdiv (2 ^ (min (1:Int).toNat 64))),a.2))
 else
  some (.inr a.2)
def y6u(p0:LI)(p1:Int):Option (Int×Bool):=
 (iter (y1M p0 p1) ((p0.length:Int),0)).bind fun a=>
 (if decide (a<(p0.length:Int)) then
  (idx p0 a).bind fun g=>
  (if (g==p1) then
   some true
  else
   (idx p0 a).bind fun h=>
   (y5E h).bind fun e=>
   (if e then
    (y5E p1).bind fun f=>
    some f
   else
    some false).bind fun d=>
   some d).bind fun c=>
  some c
 else
  some false).bind fun b=>
 some (a,b)
theorem y9Q{p0:LI}{r:Int×Bool}(hm:y6u p0 p1=some r):
  F0 141 [.f qI p0,.i p1] [] (.tp [.i r.1,.b r.2]) []:=by
 refine Fw.mk2 func141 ntmps141 R (fun C=>?_) R;refine .sr (.sa R (.an R (.sv R (.ln sl26 R (.an R (.sv R (.sa R (.an R (.seq (.block (bS hm fun a x hm=>?_)))))))))));refine .cut1 (z:= .exit 0) a (fun (a:Int)=>⟨[(7,.i a),(6,.i p0.length),(0,.f qI p0),(1,.i p1)],[],0⟩) ?_ fun K9=>?_
 ·skip
  refine .blkE (.seqN (.sv R (.mv R (.mv R (.bi R (.mv R (bS hm fun w eb10 hm=>?_)))))));refine .cut 18 (fun (e:Bool)=>w=e) (fun e=>⟨[(53,.b e),(31,.i a)],[],0⟩) ?_ ?_
  ·rintro _ rfl;refine .sa R (.an R (.ret ?_));cases hm;exact .r0 results141 (.tmp R (.tmp R .nil)) R R
  ·intro j;rcases ifS eb10 with ⟨hc,hm⟩|⟨hc,hm⟩
   ·refine .know (d:=35) R hc ?_;refine .mg R (.mg R (bS hm fun G t hm=> .op (O.ix sl26 (Gu.mk R R) R R t R) R (.leg nag3 lv3 R (.mg R (.bg R (.mg R (bS hm fun m eb14 hm=>?_)))))));refine .cut 10 (fun (g:Bool)=>m=g) (fun g=>⟨[(52,.b g),(35,.b true),(31,.i a)],[],0⟩) ?_ ?_
    ·rintro _ rfl;exact .pT R ((j m (oj hm)).s0 R)
    ·intro k;rcases ifS eb14 with ⟨hc,hm⟩|⟨hc,hm⟩
     ·refine .know (d:=42) R hc ?_;exact .s2 R R (.s2 R R (.s2 R R (.su R (.su R (.sk R (.op (O.pkT (Gu.mk R R) R R R R) R ((k true (oj hm)).s0 R)))))))
     ·refine .know (d:=42) R hc ?_;refine .mg R (.mg R (bS hm fun H u hm=> .op (O.ix sl26 (Gu.mk R R) R R u R) R (.leg nag3 lv3 R (bS hm fun E p hm=> .op (O.ca0 (y8X p) cf226 R R (Gu.mk R R) R R R) R (.mg R (bS hm fun n eb19 hm=>?_))))));refine .cut 3 (fun (h:Bool)=>n=h) (fun h=>⟨[(51,.b h),(42,.b false),(35,.b true),(31,.i a)],[],0⟩) ?_ ?_
      ·rintro _ rfl;exact .op (O.pkF (Gu.mk R R) R R R R) R ((k n (oj hm)).s0 R)
      ·intro l;rcases ifS eb19 with ⟨hc,hm⟩|⟨hc,hm⟩
       ·refine .know (d:=48) R hc ?_;exact .mg R (bS hm fun B q hm=> .op (O.ca0 (y8X q) cf226 R R (Gu.mk R R) R R R) R (.op (O.pkT (Gu.mk R R) R R R R) R ((l B (oj hm)).s0 R)))
       ·refine .know (d:=48) R hc ?_;exact .s2 R R (.op (O.pkF (Gu.mk R R) R R R R) R ((l false (oj hm)).s0 R))
   ·refine .know (d:=35) R hc ?_;exact .s2 R R (.s2 R R (.s2 R R (.sk R (.su R (.su R (.su R (.su R (.su R (.su R (.su R (.su R (.su R (.sk R (.pF R ((j false (oj hm)).s0 R)))))))))))))))
 refine .iter (fun (c:Int×Int)=>⟨[(8,.i c.1),(7,.i c.2),(6,.i p0.length),(0,.f qI p0),(1,.i p1)],[],0⟩) x [] R ?_;intro c D hm o y;refine .seq (.sv R (.mv R (.bi R (.ns ?_))));refine .cc hm R (fun hm=>?_) fun hm=> .xx ((K9 _ (y _ (oj hm))).s0 R);refine .sn (.block (.sv R (.mv R (.bi R (.op (O.cv underlying3 underlying157 Z R R) R (.op (O.shr Z R R (by decide) R) R (.op (O.cv underlying157 underlying3 Z R R) R (.an R (.sv R (.mv R (bS hm fun I v hm=> .ix sl26 v R (.le nag3 lv3 R (.mv R (bS hm fun F s hm=> .c0 (ydm s) cf215 R (.ns ?_)))))))))))))));exact .cc hm R (fun hm=> .reg (.mv R (.bi R (.sa R (.nil (.blkN ((o _ (oj hm)).s0 R))))))) fun hm=> .reg (.mv R (.sa R (.nil (.blkN ((o _ (oj hm)).s0 R)))))
def yq(p0:LI)(p1:Int):Option Bool:=
 (y6u p0 p1).bind fun a=>
 some a.2
theorem yC{p0:LI}{r:Bool}(hm:yq p0 p1=some r):
  F0 69 [.f qI p0,.i p1] [] (.b r) []:=by
 refine Fw.mk2 func69 ntmps69 R (fun C=>?_) R;refine .sr (.an R (.sv R (.mv R (bS hm fun c a hm=> .c0 (y9Q a) cf141 R (.mv R (.ex R (.ex R (.sa R (.an R (.sv R (.an R (.ret ?_))))))))))));cases hm;exact .r0 results69 (.tmp R .nil) R R
def y3w(p0:(List AutT)×LI×(List (List KeyT)))(p1:LI)(a:Int):Option (Int⊕(Unit⊕Unit)):=
 if decide (a<(p0.1.length:Int)) then
  (idx p0.1 a).bind fun c=>
  (idx p1 a).bind fun d=>
  (yq c.2.2.1 d).bind fun b=>
  if(!b) then
   some (.inr (.inr (())))
  else
   some (.inl (W (a+1)))
 else
  some (.inr (.inl ()))
def yJ(p0:(List AutT)×LI×(List (List KeyT)))(p1:LI):Option Bool:=
 (iter (y3w p0 p1) 0).bind fun a=>
 match a with
 | .inl b=>
  some true
 | .inr (c)=>
  some false
theorem ya0{p0:(List AutT)×LI×(List (List KeyT))}{p1:LI}{r:Bool}(hm:yJ p0 p1=some r):
  F0 154 [.a [lF rE60 p0.1,lF qI p0.2.1,lF (rM kvP qI) p0.2.2],.f qI p1] [] (.b r) []:=by
 refine Fw.mk2 func154 ntmps154 R (fun C=>?_) R;refine .sr (.bo 0 R (.an R (.seq (.sr (.fa ycG R (.lb nag49 R (.ln sl49 R (.mv R (.ns (.block (bS hm fun p n hm=>?_)))))))))));refine .cutU (z:= .exit 0) (fun k=> .inl k=p) (fun (k:Unit)=>⟨[],[],0⟩) ?_ fun K8=>?_
 ·rintro k rfl;dsimp only at hm;refine .blkE (.seqN (.sr (.an R (.ret ?_))));cases hm;exact .r0 results154 (.tmp R .nil) R R
 refine .cutU (z:= .ret) (fun l=> .inr (l)=p) (fun (l:Unit)=>⟨[(4,.b false)],[],0⟩) ?_ fun m=>?_
 ·rintro l rfl;dsimp only at hm;refine .blkR (.seqR ?_);cases hm;exact .r0 results154 (.tmp R .nil) R R
 refine .iter (fun (c:Int)=>⟨[(10,.i c),(9,.i p0.1.length),(8,.f rE60 p0.1),(1,.f qI p1)],[],0⟩) n [] R ?_;intro c t hm o d;refine .sr (.bi R (.ns (.seq ?_)));refine .cc hm R (fun hm=>?_) fun hm=> .xx ((K8 _ (d _ (oj hm))).s0 R);refine .sn (.seq (.block (.sv R (bS hm fun e h hm=> .ix sl49 h R (.lg (lx60 e) ag60 R (.E lv60) R (.al 0 zz60 R (.sa R (.st ag60.sz R (.ns (.seq ?_))))))))));refine .sub (τ:=⟨[(5,.i c),(6,.q 0 0),(10,.i c),(9,.i p0.1.length),(8,.f rE60 p0.1),(1,.f qI p1)],[(0,.bx 60 (lx60 e))],1⟩) ?_ [] R;refine bS hm fun u j hm=>bS hm fun s g hm=>?_;refine .drw [(1,[]),(1,[oT]),(1,[]),(1,[]),(1,[oF,oF,oT,oT]),(1,fA 2 (tT 3)),(1,tT 6),(1,tT 7)] [_,_,_,_,_,_,_,_] ⟨[(22,.b (!s)),(10,.i c),(9,.i p0.1.length),(8,.f rE60 p0.1),(1,.f qI p1)],[],1⟩ ⟨O.faP y5D Z R R,zB nag26 R,zM R,zM R,O.ix sl26 Z R R j R,O.ld nag3 Z R (.E lv3) R R,O.ca0 (yC g) cf69 R R Z R R R,O.not Z R R,trivial⟩ (by kernel_rfl) R ?_;exact .seqN (.cc hm R (fun hm=> .sr (.an R (.ret (.blkR (.seqR (.seqR ((m _ (d _ (oj hm))).s0 R))))))) fun hm=> .skip (.blkN (.seqN (.reg (.bi R (.mv R (.nil ((o _ (oj hm)).s0 R))))))))
def yB(p0:LI):Option LI:=
 (app ([]:LI) p0).bind fun a=>
 some a
theorem y2q{p0:LI}{r:LI}(hm:yB p0=some r):
  F0 58 [.f qI p0] [] (.h 0) [rwI r]:=by
 unfold yB at hm;refine Fw.mk2 func58 ntmps58 R (fun C=>?_) R;refine .sr (.an R (.seq (.sv R (.op (O.nil? underlying26 Z R R R) R (.ns ?_)))));refine .cN R (fun hz=>?_) ?_
 ·subst hz;replace hm:some ([]:LI)=some r:=by simpa [app,slc,slc3] using hm
  refine .sr (.an R (.ret (.seqR (.nlg qI 3 2 0 R R ?_))));cases hm;exact .rr [0] results58 (.tmp R .nil) R I3 ⟨⟨_,R,I4⟩,trivial⟩
 ·skip
  refine .sn (.sr (.op (O.b0O (r:=qI) 0 R bs26 R Z R) R (.mv R (bS hm fun b a hm=> .ap 1 underlying26 el3 R R (.fr R) a (.an R (.ret ?_))))));cases hm;exact .rr [1] results58 (.tmp R .nil) R I3 ⟨⟨_,R,I4⟩,trivial⟩
def yz(a:Int×LI)(b:LI):Option ((Int×LI)⊕(LI⊕Unit)):=
 some (.inl (W (a.1+1),b))
def yn(p0:(List AutT)×LI×(List (List KeyT)))(p1:LI)(p2:Int)(a:Int×LI):Option ((Int×LI)⊕(LI⊕Unit)):=
 if decide (a.1<(p0.1.length:Int)) then
  (idx p0.1 a.1).bind fun e=>
  (yq e.1 p2).bind fun d=>
  if(!d) then
   yz a a.2
  else
   (idx p0.2.2 a.1).bind fun b=>
   (idx p1 a.1).bind fun c=>
   if(!((kget b (c,p2)).isSome)) then
    some (.inr (.inr (())))
   else
    (idx a.2 a.1).bind fun g=>
    (upd a.2 a.1 ((kget b (c,p2)).getD 0)).bind fun f=>
    yz a f
 else
  some (.inr (.inl a.2))
def yY(p0:(List AutT)×LI×(List (List KeyT)))(p1:LI)(p2:Int):Option (LI×Bool):=
 (yB p1).bind fun c=>
 (iter (yn p0 p1 p2) (0,c)).bind fun a=>
 match a with
 | .inl b=>
  some (b,true)
 | .inr (d)=>
  some (([]:LI),false)
theorem yay{p0:(List AutT)×LI×(List (List KeyT))}{p1:LI}{r:LI×Bool}(hm:yY p0 p1 p2=some r):
  F0 155 [.a [lF rE60 p0.1,lF qI p0.2.1,lF (rM kvP qI) p0.2.2],.f qI p1,.i p2] [] (.tp [.h 0,.b r.2]) [rwI r.1]:=by
 refine Fw.mk2 func155 ntmps155 R (fun C=>?_) R;refine .sr (.bo 0 R (.sa R (.an R (.sv R (bS hm fun K I hm=> .cm (r':= .h 1) [1] [(0,rwI K)] (some 2) (y2q I) cf58 R ⟨⟨_,R,I4⟩,trivial⟩ R (.an R (.seq (.sr (.fa ycG R (.lb nag49 R (.ln sl49 R (.mv R (.ns (.block (bS hm fun u v hm=>?_)))))))))))))));refine .cutU (z:= .exit 0) (fun g=> .inl g=u) (fun (g:LI)=>⟨[(8,.h 0)],[(0,rwI g)],1⟩) ?_ fun G=>?_
 ·rintro g rfl;dsimp only at hm;refine .blkE (.seqN (.sv R (.sa R (.an R (.ret ?_)))));cases hm;exact .rr [0] results155 (.tmp R (.tmp R .nil)) R I3 ⟨⟨_,R,I4⟩,trivial⟩
 refine .cutU (z:= .ret) (fun p=> .inr (p)=u) (fun (p:Unit)=>⟨[(7,.b false),(6,.o (lN))],[],0⟩) ?_ fun H=>?_
 ·rintro p rfl;dsimp only at hm;refine .blkR (.seqR (.nlg qI 3 6 0 R R ?_));cases hm;exact .rr [0] results155 (.tmp R (.tmp R .nil)) R I3 ⟨⟨_,R,I4⟩,trivial⟩
 refine .iter (fun (c:Int×LI)=>⟨[(18,.i c.1),(17,.i p0.1.length),(16,.f rE60 p0.1),(8,.h 0),(3,.q 1 0),(1,.f qI p1),(2,.i p2)],[(0,rwI c.2),(1,.bx 212 [lF rE60 p0.1,lF qI p0.2.1,lF (rM kvP qI) p0.2.2])],2⟩) v [(0,1),(1,0)] R ?_;intro c t hm F n;refine .sr (.bi R (.ns (.seq ?_)));refine .cc hm R (fun hm=>?_) fun hm=> .xx ((G _ (n _ (oj hm))).s0 R);refine .sn ?_;refine .join1 (fun (e:LI)=>yz c e=some t) (fun e=>⟨[(18,.i c.1),(17,.i p0.1.length),(16,.f rE60 p0.1),(8,.h 0),(3,.q 1 0),(1,.f qI p1),(2,.i p2)],[(0,rwI e),(1,.bx 212 [lF rE60 p0.1,lF qI p0.2.1,lF (rM kvP qI) p0.2.2])],2⟩) ?_ ?_
 ·intro e hm;exact .reg (.bi R (.mv R (.nil ((F _ (oj hm)).s0 R))))
 ·intro j;refine .block (.sv R (bS hm fun J x hm=> .ix sl49 x R (.lg (lx60 J) ag60 R (.E lv60) R (.al 2 zz60 R (.sa R (.st ag60.sz R (.ns (.seq (.sr (.fa yI R (.lb nag26 R (.mv R (bS hm fun L w hm=> .c0 (yC w) cf69 R (.no R (.ns ?_)))))))))))))));refine .cc hm R (fun hm=> .exit (.seqX (.blkE ((j _ hm).s0 R)))) fun hm=>?_;refine .sn (.seq ?_);refine .sub (τ:=⟨[(9,.i c.1),(18,.i c.1),(17,.i p0.1.length),(16,.f rE60 p0.1),(8,.h 0),(3,.q 1 0),(1,.f qI p1),(2,.i p2)],[(0,rwI c.2),(1,.bx 212 [lF rE60 p0.1,lF qI p0.2.1,lF (rM kvP qI) p0.2.2])],3⟩) ?_ [] R;refine bS hm fun s y hm=>bS hm fun d B hm=>?_;refine .drw [(3,[]),(3,[oT]),(3,[]),(3,tT 3),(3,tT 4),(3,[]),(3,[]),(3,[oF,oF,oF,oF,oF,oT,oT]),(3,fA 5 (tT 3)),(3,[]),(3,fA 5 (tT 5)),(3,tT 11),(3,tT 12),(3,tT 13),(3,tT 13),(3,tT 14),(3,tT 16)] [_,_,_,_,_,_,_,_,_,_,_,_,_,_,_,_,_] ⟨[(12,.b ((kget s (d,p2)).isSome)),(11,.i ((kget s (d,p2)).getD 0)),(9,.i c.1),(18,.i c.1),(17,.i p0.1.length),(16,.f rE60 p0.1),(8,.h 0),(3,.q 1 0),(1,.f qI p1),(2,.i p2)],[(0,rwI c.2),(1,.bx 212 [lF rE60 p0.1,lF qI p0.2.1,lF (rM kvP qI) p0.2.2])],3⟩ ⟨O.faP yee Z R R,zB yfx R,zM R,O.ix sl210 Z R R y R,O.ld yfy Z R (.E lv128) R R,zM R,zM R,O.ix sl26 Z R R B R,O.ld nag3 Z R (.E lv3) R R,zM R,O.bu (l:=[lI d,lI p2]) pl70 R Z R R R,O.mi2 (k:=(d,p2)) md128 Z (.fr R) (.a R R) R,zM R,O.ex Z R R R,O.ex Z R R R,O.as Z R R,O.as Z R R,trivial⟩ (by kernel_rfl) R ?_;refine .seqN (.seq (.sv R (.no R (.ns ?_))));exact .cc hm R (fun hm=> .sr (.sa R (.an R (.ret (.seqR (.blkR (.seqR (.seqR ((H _ (n _ (oj hm))).s0 R))))))))) fun hm=> .sn (.reg (.mv R (.mv R (.mv R (bS hm fun M m hm=> .op (O.ir sl26 Z R R R m R) R (bS hm fun N D hm=> .op (O.su (z:=((kget s (d,p2)).getD 0)) nag3.sz Z R R m D R R R lv3 R .k) R (.nil (.blkN ((j _ hm).s0 R)))))))))
def y2W(d:Int×(List (ByteArray×Int))×List LI×EdgL)(a:List (ByteArray×Int))(b:List LI)(c:List (Int×Int×Int)):Option ((Int×(List (ByteArray×Int))×List LI×EdgL)⊕(((List (ByteArray×Int))×List LI×EdgL)⊕Unit)):=
 some (.inl (W (d.1+1),a,b,c))
def y2X(e:Int×(List (ByteArray×Int))×List LI×LI×EdgL)(a:Int×(List (ByteArray×Int))×List LI×EdgL)(f:Int)(b:List LI)(d:Int)(c:List (ByteArray×Int)):Option ((Int×(List (ByteArray×Int))×List LI×EdgL)⊕(((List (ByteArray×Int))×List LI×EdgL)⊕Unit)):=
 (app a.2.2.2 ([(e.1,f,d)]:List (Int×Int×Int))).bind fun g=>
 y2W a c b g
def y2Y(g:((List AutT)×LI×(List (List KeyT))))(c:Int×(List (ByteArray×Int))×List LI×LI×EdgL)(a:Int×(List (ByteArray×Int))×List LI×EdgL):Option ((Int×(List (ByteArray×Int))×List LI×EdgL)⊕(((List (ByteArray×Int))×List LI×EdgL)⊕Unit)):=
 if decide (a.1<(g.2.1.length:Int)) then
  (idx g.2.1 a.1).bind fun d=>
  (idx a.2.2.1 c.1).bind fun h=>
  (yY g h d).bind fun b=>
  if(!b.2) then
   y2W a a.2.1 a.2.2.1 a.2.2.2
  else
   (y4T b.1).bind fun e=>
   if(!((kget a.2.1 e).isSome)) then
    if((a.2.2.1.length:Int)==4096) then
     some (.inr (.inr (())))
    else
     (y4T b.1).bind fun f=>
     (app a.2.2.1 ([b.1]:List LI)).bind fun i=>
     y2X c a d i (a.2.2.1.length:Int) (kput a.2.1 f (a.2.2.1.length:Int))
   else
    y2X c a d a.2.2.1 ((kget a.2.1 e).getD 0) a.2.1
 else
  some (.inr (.inl a.2))
def y2Z(e:((List AutT)×LI×(List (List KeyT))))(a:Int×(List (ByteArray×Int))×List LI×LI×EdgL)(c:LI):Option ((Int×(List (ByteArray×Int))×List LI×LI×EdgL)⊕((List LI×LI×EdgL)⊕Unit)):=
 (iter (y2Y e a) (0,a.2.1,a.2.2.1,a.2.2.2.2)).bind fun d=>
 match d with
 | .inl b=>
  some (.inl (W (a.1+1),b.1,b.2.1,c,b.2.2))
 | .inr (f)=>
  some (.inr (.inr (())))
def y3a(c:((List AutT)×LI×(List (List KeyT))))(a:Int×(List (ByteArray×Int))×List LI×LI×EdgL):Option ((Int×(List (ByteArray×Int))×List LI×LI×EdgL)⊕((List LI×LI×EdgL)⊕Unit)):=
 if decide (a.1<(a.2.2.1.length:Int)) then
  (idx a.2.2.1 a.1).bind fun d=>
  (yJ c d).bind fun b=>
  if b then
   (app a.2.2.2.1 ([a.1]:LI)).bind fun e=>
   y2Z c a e
  else
   y2Z c a a.2.2.2.1
 else
  some (.inr (.inl a.2.2))
def yx(p0:List AutT):Option (AutT×List LI×Int):=
 (y5P p0).bind fun e=>
 if(e != 0) then
  some ((([]:LI),0,([]:LI),([]:List (Int×Int×Int))),([]:List LI),e)
 else
  (y5q p0).bind fun b=>
  (yy b).bind fun c=>
  if(!c.2) then
   some ((b.2.1,0,([]:LI),([]:List (Int×Int×Int))),([]:List LI),0)
  else
   (y4T c.1).bind fun f=>
   (iter (y3a b) (0,(kput ([]:List (ByteArray×Int)) f 0),([c.1]:List LI),([]:LI),([]:List (Int×Int×Int)))).bind fun d=>
   match d with
   | .inl a=>
    some ((b.2.1,(a.1.length:Int),a.2),a.1,0)
   | .inr (g)=>
    some ((([]:LI),0,([]:LI),([]:List (Int×Int×Int))),([]:List LI),3)
theorem y8q{p0:List AutT}{r:AutT×List LI×Int}(hm:yx p0=some r):
    F0 79 [.f rE60 p0] [] (.tp [.a [lH 0,lI r.1.2.1,lH 1,lH 2],.h 3,.i r.2.2]) [rwI r.1.1,rwI r.1.2.2.1,ROW qT 112 r.1.2.2.2,ROW (rL qI) 26 r.2.1]:=by
  refine Fw.mk2 func79 ntmps79 R (fun C=>?_) R;refine .sr (.al 0 zz60 R (.sa R (.an R (.seq (.sv R (bS hm fun r1 b6 hm=> .c0 (ycV b6) cf48 R (.an R (.sv R (.bi R (.ns ?_))))))))));refine .cc hm R (fun hm=>?_) fun hm=>?_
  ·refine .sr (.bu [lN,lI 0,lN,lN] pl60 R (.mv R (.st ag60.sz R (.sa R (.an R (.ret (.seqR (.nlb qI 3 0 0 R R (.nlb qI 3 0 2 R R (.nlb qT 112 0 3 R R (.nlg (rL qI) 26 3 0 R R ?_)))))))))));cases hm;exact .rr [1,2,3,4] results79 (.cell R R ag60 R (.tmp R (.tmp R .nil))) R I3 ⟨⟨_,R,I4⟩,⟨_,R,I4⟩,⟨_,R,I4⟩,⟨_,R,I4⟩,trivial⟩
  ·refine .sn (.sv R (bS hm fun e b7 hm=> .cm (r':= .g [lF rE60 e.1,lH 1,lH 2]) [1,2] [(0,rwI e.2.1),(1,ROW (rM kvP qI) 128 e.2.2)] (some 3) (ydl b7) cf151 R ⟨⟨_,R,I4⟩,⟨_,R,I4⟩,trivial⟩ R (.al 3 zz212 R (.st ag212.sz R (.nr (.fa ygr R (.lb nag26 R (.fa yI R (.st nag26.sz R (.nr (.lg [lF rE60 e.1,lH 1,lH 2] ag212 R (.B R) R (bS hm fun r3 b8 hm=> .op (O.caY (r':= .tp [.h 4,.b r3.2]) [4] [(0,rwI r3.1)] (some 5) (y9P b8) cf152 R R Z R R ⟨⟨R,.rf,.hr R,.hr R,trivial⟩,trivial⟩ R ⟨.row flr3,trivial⟩ (fun _ _ _ _ h=>h) ⟨⟨_,R,I4⟩,trivial⟩ I3 R) R (.mv R (.ex R (.ex R (.sa R (.an R (.seq (.sv R (.no R (.ns ?_)))))))))))))))))))));refine .cc hm R (fun hm=>?_) fun hm=>?_
   ·refine .sr (.lg [lH 1,lI 0,lN,lN] ag60 R (.B R) R (.st ag60.sz R (.sa R (.an R (.ret (.seqR (.nlb qI 3 0 2 R R (.nlb qT 112 0 3 R R (.nlg (rL qI) 26 3 0 R R ?_)))))))));cases hm;exact .rr [1,5,6,7] results79 (.cell R R ag60 R (.tmp R (.tmp R .nil))) R I3 ⟨⟨_,R,I4⟩,⟨_,R,I4⟩,⟨_,R,I4⟩,⟨_,R,I4⟩,trivial⟩
   ·refine .sn (.sv R (.fz 4 [36,7] [] R R fR R R (.op (O.bsO (r:=(rL qI)) (zs:=([r3.1]:List LI)) 5 R bs74 R R Z R R R (.c .l .n) R R R) R (.an R (.sr (.op (O.mk2 (kv:=kvS) (r:=qI) 6 R Z R) R (.mv R (bS hm fun r4 b9 hm=> .c0 (y8W b9) cf153 R (.op (O.ins (k:=r4) (v:=0) md216 (fun _ _=>eqS) Z R R (.o R) R .k) R (.mv R (.an R (.seq (.sr (.an R (.block (bS hm fun a3 a7 hm=>?_))))))))))))))));refine .cutU (z:= .exit 0) (fun x=> .inl x=a3) (fun (x:List LI×LI×EdgL)=>⟨[(3,.h 0),(2,.q 1 0)],[(0,ROW (rL qI) 26 x.1),(1,.bx 60 [lH 2,lI 0,lH 3,lH 4]),(2,rwI e.2.1),(3,rwI x.2.1),(4,ROW qT 112 x.2.2)],5⟩) ?_ fun b4=>?_
    · rintro x rfl;dsimp only at hm;refine .blkE (.seqN (.sv R (.lh sl74 R (.fa y1r R (.st nag3.sz R (.nr (.lg [lH 2,lI x.1.length,lH 3,lH 4] ag60 R (.B R) R (.mv R (.st ag60.sz R (.sa R (.an R (.ret ?_))))))))))));cases hm;exact .rr [2,3,4,0] results79 (.cell R R ag60 R (.tmp R (.tmp R .nil))) R I3 ⟨⟨_,R,I4⟩,⟨_,R,I4⟩,⟨_,R,I4⟩,⟨_,R,I4⟩,trivial⟩
    refine .cutU (z:= .ret) (fun T=> .inr (T)=a3) (fun (T:Unit)=>⟨[(4,.i 3),(3,.o (lN)),(2,.q 0 0)],[(0,.bx 60 [lN,lI 0,lN,lN])],1⟩) ?_ fun b5=>?_
    · rintro T rfl;dsimp only at hm;refine .blkR (.seqR (.nlb qI 3 0 0 R R (.nlb qI 3 0 2 R R (.nlb qT 112 0 3 R R (.nlg (rL qI) 26 3 0 R R ?_)))));cases hm;exact .rr [1,2,3,4] results79 (.cell R R ag60 R (.tmp R (.tmp R .nil))) R I3 ⟨⟨_,R,I4⟩,⟨_,R,I4⟩,⟨_,R,I4⟩,⟨_,R,I4⟩,trivial⟩
    refine .nlb qI 3 0 2 R R (.nlb qT 112 0 3 R R (.iter (fun (d:Int×(List (ByteArray×Int))×List LI×LI×EdgL)=>⟨[(10,.i d.1),(9,.h 0),(3,.h 1),(6,.q 2 0),(2,.q 5 0)],[(0,MAP kvS qI 216 d.2.1),(1,ROW (rL qI) 26 d.2.2.1),(2,.bx 212 [lF rE60 e.1,lH 3,lH 4]),(3,rwI e.2.1),(4,ROW (rM kvP qI) 128 e.2.2),(5,.bx 60 [lH 3,lI 0,lH 6,lH 7]),(6,rwI d.2.2.2.1),(7,ROW qT 112 d.2.2.2.2)],8⟩) a7 [(0,6),(1,5),(2,3),(3,1),(4,2),(5,0),(6,7),(7,8)] R ?_));intro d a2 hm a9 Q;refine .seq (.sv R (.mv R (.lh sl74 R (.bi R (.ns ?_)))));refine .cc hm R (fun hm=>?_) fun hm=> .xx ((b4 _ (Q _ (oj hm))).sub [(0,1),(1,5),(2,3),(3,6),(4,7)] R);refine .sn (.seq (.block ?_));refine .join1 (fun (m:LI)=>y2Z e d m=some a2) (fun m=>⟨[(10,.i d.1),(9,.h 0),(3,.h 1),(6,.q 2 0),(2,.q 5 0)],[(0,MAP kvS qI 216 d.2.1),(1,ROW (rL qI) 26 d.2.2.1),(2,.bx 212 [lF rE60 e.1,lH 3,lH 4]),(3,rwI e.2.1),(4,ROW (rM kvP qI) 128 e.2.2),(5,.bx 60 [lH 3,lI 0,lH 6,lH 7]),(6,rwI m),(7,ROW qT 112 d.2.2.2.2)],8⟩) ?_ ?_
    · intro m hm;refine .sr (.fa ygr R (.lb nag26 R (.lh sl26 R (.mv R (.ns (.block (bS hm fun a4 a8 hm=>?_)))))));refine .cutU (z:= .exit 2) (fun t=> .inl t=a4) (fun (t:(List (ByteArray×Int))×List LI×EdgL)=>⟨[(10,.i d.1),(9,.h 0),(3,.h 1),(6,.q 2 0),(2,.q 5 0)],[(0,MAP kvS qI 216 t.1),(1,ROW (rL qI) 26 t.2.1),(2,.bx 212 [lF rE60 e.1,lH 3,lH 4]),(3,rwI e.2.1),(4,ROW (rM kvP qI) 128 e.2.2),(5,.bx 60 [lH 3,lI 0,lH 6,lH 7]),(6,rwI m),(7,ROW qT 112 t.2.2)],8⟩) ?_ fun a5=>?_
      · rintro t rfl;dsimp only at hm;exact .blkE (.blkN (.seqN (.reg (.mv R (.bi R (.sa R (.nil ((a9 _ (oj hm)).s0 R))))))))
      refine .cutU (z:= .ret) (fun H=> .inr (H)=a4) (fun (H:Unit)=>⟨[(4,.i 3),(3,.o (lN)),(2,.q 0 0)],[(0,.bx 60 [lN,lI 0,lN,lN])],1⟩) ?_ fun a6=>?_
      · rintro H rfl;dsimp only at hm;exact .blkR (.blkR (.seqR (.seqR ((b5 _ (Q _ (oj hm))).s0 R))))
      refine .iter (fun (j:Int×(List (ByteArray×Int))×List LI×EdgL)=>⟨[(63,.i j.1),(62,.i e.2.1.length),(61,.h 0),(10,.i d.1),(9,.h 1),(3,.h 2),(6,.q 3 0),(2,.q 5 0)],[(0,rwI e.2.1),(1,MAP kvS qI 216 j.2.1),(2,ROW (rL qI) 26 j.2.2.1),(3,.bx 212 [lF rE60 e.1,lH 0,lH 4]),(4,ROW (rM kvP qI) 128 e.2.2),(5,.bx 60 [lH 0,lI 0,lH 6,lH 7]),(6,rwI m),(7,ROW qT 112 j.2.2.2)],8⟩) a8 [(0,3),(1,0),(2,1),(3,2)] R ?_;intro j N hm b0 S;refine .sr (.bi R (.ns (.seq ?_)));refine .cc hm R (fun hm=>?_) fun hm=> .xx ((a5 _ (S _ (oj hm))).sub [(0,1),(1,2),(2,3),(3,0)] R);refine .sn ?_;refine .join3 (fun (y:List (ByteArray×Int)) (D:List LI) (E:List (Int×Int×Int))=>y2W j y D E=some N) (fun y D E=>⟨[(63,.i j.1),(62,.i e.2.1.length),(61,.h 0),(10,.i d.1),(9,.h 1),(3,.h 2),(6,.q 3 0),(2,.q 5 0)],[(0,rwI e.2.1),(1,MAP kvS qI 216 y),(2,ROW (rL qI) 26 D),(3,.bx 212 [lF rE60 e.1,lH 0,lH 4]),(4,ROW (rM kvP qI) 128 e.2.2),(5,.bx 60 [lH 0,lI 0,lH 6,lH 7]),(6,rwI m),(7,ROW qT 112 E)],8⟩) ?_ ?_
      · intro y D E hm;exact .reg (.bi R (.mv R (.nil ((b0 _ (oj hm)).s0 R))))
      · intro I;refine .block (.sr (bS hm fun u K hm=> .op (O.ir sl26 Z R R R K R) R (.op (O.ld nag3 Z R (.R R K lv3) R R) R (.an R (.seq ?_)))));refine .sub (τ:=⟨[(12,.i u),(63,.i j.1),(62,.i e.2.1.length),(61,.h 0),(10,.i d.1),(9,.h 1),(3,.h 2),(6,.q 3 0),(2,.q 5 0)],[(0,rwI e.2.1),(1,MAP kvS qI 216 j.2.1),(2,ROW (rL qI) 26 j.2.2.1),(3,.bx 212 [lF rE60 e.1,lH 0,lH 4]),(4,ROW (rM kvP qI) 128 e.2.2),(5,.bx 60 [lH 0,lI 0,lH 6,lH 7]),(6,rwI m),(7,ROW qT 112 j.2.2.2)],8⟩) ?_ [] R;refine bS hm fun c1 L hm=>bS hm fun w U hm=>?_;refine .drw [(8,[]),(8,[]),(8,[]),(8,[oF,oT,oT]),(8,fA 1 (tT 3)),(8,[]),(8,tT 6),(9,tT 7),(9,tT 8),(9,tT 8),(9,tT 9),(9,tT 11)] [_,_,_,_,_,_,_,_,_,_,_,_] ⟨[(14,.b w.2),(13,.h 8),(12,.i u),(63,.i j.1),(62,.i e.2.1.length),(61,.h 0),(10,.i d.1),(9,.h 1),(3,.h 2),(6,.q 3 0),(2,.q 5 0)],[(8,rwI w.1),(0,rwI e.2.1),(1,MAP kvS qI 216 j.2.1),(2,ROW (rL qI) 26 j.2.2.1),(3,.bx 212 [lF rE60 e.1,lH 0,lH 4]),(4,ROW (rM kvP qI) 128 e.2.2),(5,.bx 60 [lH 0,lI 0,lH 6,lH 7]),(6,rwI m),(7,ROW qT 112 j.2.2.2)],9⟩ ⟨O.lg (l':=[lF rE60 e.1,lH 0,lH 4]) ag212 Z R (.B R) R R R,zM R,zM R,O.ir sl74 Z R R R L R,O.ld nag26 Z R (.R R L lv26) R R,zM R,O.caY (r':= .tp [.h 8,.b w.2]) [8] [(0,rwI w.1)] (some 9) (yay U) cf155 R R Z R R ⟨⟨R,.rf,.hr R,.hr R,trivial⟩,⟨R,LnL.rf⟩,⟨R,LnL.rf⟩,trivial⟩ R ⟨.row flr3,trivial⟩ (fun _ _ _ _ h=>h) ⟨⟨_,R,I4⟩,trivial⟩ I3 R,zM R,O.ex Z R R R,O.ex Z R R R,O.as Z R R,O.as Z R R,trivial⟩ (by kernel_rfl) R ?_;refine .seqN (.seq (.sv R (.no R (.ns ?_))));refine .cc hm R (fun hm=> .exit (.seqX (.blkE ((I _ _ _ hm).s0 R)))) fun hm=>?_;refine .sn (.sv R (.mv R (bS hm fun b1 V hm=> .op (O.caZ (y8W V) cf153 R R Z R ⟨⟨R,.hr R,trivial⟩,trivial⟩ (fun _ _ _ _ _ h=>h) R) R (.op (O.mi2 (k:=b1) md216 Z (.ow R R) (.o R) R) R (.mv R (.ex R (.ex R (.sa R (.an R ?_)))))))));refine .join3 (fun (F:List LI) (s:Int) (G:List (ByteArray×Int))=>y2X d j u F s G=some N) (fun F s G=>⟨[(3,.h 0),(15,.i s),(12,.i u),(63,.i j.1),(62,.i e.2.1.length),(61,.h 1),(10,.i d.1),(9,.h 2),(6,.q 3 0),(2,.q 5 0)],[(0,ROW (rL qI) 26 F),(1,rwI e.2.1),(2,MAP kvS qI 216 G),(3,.bx 212 [lF rE60 e.1,lH 1,lH 4]),(4,ROW (rM kvP qI) 128 e.2.2),(5,.bx 60 [lH 1,lI 0,lH 6,lH 7]),(6,rwI m),(7,ROW qT 112 j.2.2.2)],8⟩) ?_ ?_
        · intro F s G hm;exact .reg (.fa yF R (.lb nag27 R (.mv R (.mv R (.mv R (.bu [lI d.1,lI u,lI s] pl112 R (.bf (r:=qT) ([(d.1,u,s)]:List (Int×Int×Int)) bs27 R (.c (.p .k (.p .k .k)) .n) R (bS hm fun c2 Y hm=> .ap 8 underlying27 el112 R R (.fr R) Y (.fa yF R (.st nag27.sz R (.nil (.blkN ((I _ _ _ hm).sub [(0,1),(1,2),(2,0),(7,8)] R)))))))))))))
        · intro J;refine .sv R (.no R (.ns ?_));refine .cc hm R (fun hm=>?_) fun hm=> .skip ((J _ _ _ hm).sub [(0,2),(1,0),(2,1)] R);refine .seq (.sv R (.lh sl74 R (.bi R (.ns ?_))));exact .cc hm R (fun hm=> .sr (.bu [lN,lI 0,lN,lN] pl60 R (.st ag60.sz R (.sa R (.an R (.ret (.seqR (.seqR (.blkR (.seqR (.seqR ((a6 _ (S _ (oj hm))).sub [(0,5)] R)))))))))))) fun hm=> .sn (.sv R (.lh sl74 R (.an R (.sv R (.mv R (bS hm fun b2 W hm=> .op (O.caZ (y8W W) cf153 R R Z R ⟨⟨R,.hr R,trivial⟩,trivial⟩ (fun _ _ _ _ _ h=>h) R) R (.mv R (.op (O.mu (k:=b2) (v:=(j.2.2.1.length:Int)) md216 (fun _ _=>eqS) Z R R (.o R) R .k) R (.ns (.reg (.mv R (.mv R (.fz 8 [99] [] R R fR R R (.op (O.bsF (r:=(rL qI)) (zs:=([w.1]:List LI)) bs74 R R Z R R R (.c .l .n) R R R) R (bS hm fun c3 a0 hm=> .ap 9 underlying74 el26 R R (.fr R) a0 (.sa R (.nil ((J _ _ _ hm).sub [(0,9),(1,0),(2,1)] R))))))))))))))))))
    · intro P;refine .seq ?_;refine .sub (τ:=⟨[(10,.i d.1),(9,.h 0),(3,.h 1),(6,.q 2 0),(2,.q 5 0)],[(0,MAP kvS qI 216 d.2.1),(1,ROW (rL qI) 26 d.2.2.1),(2,.bx 212 [lF rE60 e.1,lH 3,lH 4]),(3,rwI e.2.1),(4,ROW (rM kvP qI) 128 e.2.2),(5,.bx 60 [lH 3,lI 0,lH 6,lH 7]),(6,rwI d.2.2.2.1),(7,ROW qT 112 d.2.2.2.2)],8⟩) ?_ [] R;refine bS hm fun c4 M hm=>bS hm fun b3 X hm=>?_;refine .drw [(8,[]),(8,[]),(8,[]),(8,[oF,oT,oT]),(8,fA 1 (tT 3)),(8,tT 5)] [_,_,_,_,_,_] ⟨[(53,.b b3),(10,.i d.1),(9,.h 0),(3,.h 1),(6,.q 2 0),(2,.q 5 0)],[(0,MAP kvS qI 216 d.2.1),(1,ROW (rL qI) 26 d.2.2.1),(2,.bx 212 [lF rE60 e.1,lH 3,lH 4]),(3,rwI e.2.1),(4,ROW (rM kvP qI) 128 e.2.2),(5,.bx 60 [lH 3,lI 0,lH 6,lH 7]),(6,rwI d.2.2.2.1),(7,ROW qT 112 d.2.2.2.2)],8⟩ ⟨O.lg (l':=[lF rE60 e.1,lH 3,lH 4]) ag212 Z R (.B R) R R R,zM R,zM R,O.ir sl74 Z R R R M R,O.ld nag26 Z R (.R R M lv26) R R,O.caZ (ya0 X) cf154 R R Z R ⟨⟨R,.rf,.hr R,.hr R,trivial⟩,⟨R,LnL.rf⟩,trivial⟩ (fun _ _ _ _ _ h=>h) R,trivial⟩ (by kernel_rfl) R ?_;exact .seqN (.cc hm R (fun hm=> .reg (.fa y5D R (.lb nag26 R (.mv R (.bf (r:=qI) ([d.1]:LI) bs26 R (.c .k .n) R (bS hm fun c5 a1 hm=> .ap 8 underlying26 el3 R R (.fr R) a1 (.fa y5D R (.st nag26.sz R (.nil ((P _ hm).sub [(6,8)] R)))))))))) fun hm=> .skip ((P _ hm).s0 R))
def y7k(p0:Bool)(p1:Bool):Option Bool:=
 some (p0&&p1)
theorem yaz{p1:Bool}{r:Bool}(hm:y7k p0 p1=some r):
  F0 243 [.b p0,.b p1] [] (.b r) []:=by
 refine Fw.mk2 func243 ntmps243 R (fun C=>?_) R;refine .sr (.an R (.sv R (.mv R ?_)));refine .cut 2 (fun (a:Bool)=>(p0&&p1)=a) (fun a=>⟨[(8,.b a)],[],0⟩) ?_ ?_
 ·rintro _ rfl;refine .an R (.ret ?_);cases hm;exact .r0 results243 (.tmp R .nil) R R
 ·intro c;rcases yEt p0 with hc|hc
  ·refine .know (d:=6) R hc ?_;exact .mg R (.pT R ((c p1 (andT hc).symm).s0 R))
  ·refine .know (d:=6) R hc ?_;exact .sk R (.pF R ((c false (andF hc).symm).s0 R))
def y4y(p0:LI)(p1:LI):Option LI:=
 (y2V p0 p1 y7k).bind fun a=>
 some a
theorem y8v{p0:LI}{p1:LI}{r:LI}(hm:y4y p0 p1=some r):
  F0 162 [.f qI p0,.f qI p1] [] (.h 0) [rwI r]:=by
 refine Fw.mk2 func162 ntmps162 R (fun C=>?_) R;refine .sr (.an R (.sv R (.mv R (bS hm fun b a hm=> .op (O.cac (r':= .h 0) [0] [(0,rwI b)] (some 1) (y8c a) cf139 R R Z R R ⟨⟨R,.rf⟩,⟨R,.rf⟩,⟨R,(.c (.fn cf243 (fun x r h=>yaz h) (fun _=>R)) .n)⟩,trivial⟩ R ⟨⟨_,R,I4⟩,trivial⟩ I3 R) R (.an R (.ret ?_))))));cases hm;exact .rr [0] results162 (.tmp R .nil) R I3 ⟨⟨_,R,I4⟩,trivial⟩
def y7T(p0:AutT)(a:Int×(List KeyT)):Option ((Int×(List KeyT))⊕(List KeyT)):=
 if decide (a.1<(p0.2.2.2.length:Int)) then
  (idx p0.2.2.2 a.1).bind fun b=>
  some (.inl (W (a.1+1),(kput a.2 (b.1,b.2.1) b.2.2)))
 else
  some (.inr a.2)
def y6K(p0:AutT):Option (AutT×(List KeyT)):=
 (iter (y7T p0) (0,([]:List KeyT))).bind fun a=>
 some (p0,a)
theorem y8o{p0:AutT}{r:(AutT×(List KeyT))}(hm:y6K p0=some r):
  F0 198 [.a (lx60 p0)] [] (.g (lx190 r)) []:=by
 refine Fw.mk2 func198 ntmps198 R (fun C=>?_) R;refine .sr (.bo 0 R (.al 1 zz190 R (.nr (.lg (lx60 p0) ag60 R (.B R) R (.op (O.mk2 (kv:=kvP) (r:=qI) 2 R Z R) R (.bu [lF qI p0.1,lI p0.2.1,lF qI p0.2.2.1,lF qT p0.2.2.2,lH 2] pl190 R (.al 3 zz190 R (.st ag190.sz R (.ns (.seq (.sr (.fa yF R (.lb nag27 R (.ln sl27 R (.mv R (.ns (.block (bS hm fun d e hm=>?_))))))))))))))))));refine .cut1 (z:= .exit 0) d (fun (d:(List KeyT))=>⟨[(3,.q 0 0),(2,.q 2 0)],[(0,.bx 190 [lF qI p0.1,lI p0.2.1,lF qI p0.2.2.1,lF qT p0.2.2.2,lH 1]),(1,MAP kvP qI 128 d),(2,.bx 190 [lN,lI 0,lN,lN,lV (.map none)])],3⟩) ?_ fun K8=>?_
 ·skip
  refine .blkE (.seqN (.sr (.lg [lF qI p0.1,lI p0.2.1,lF qI p0.2.2.1,lF qT p0.2.2.2,lH 1] ag190 R (.B R) R (.st ag190.sz R (.ns (.ret (.fz 1 [] [0,2] R R fM R R ?_)))))));cases hm;exact .r0 results198 (.cell R R ag190 R .nil) R R
 refine .iter (fun (c:Int×(List KeyT))=>⟨[(12,.i c.1),(11,.i p0.2.2.2.length),(10,.f qT p0.2.2.2),(3,.q 0 0),(2,.q 2 0)],[(0,.bx 190 [lF qI p0.1,lI p0.2.1,lF qI p0.2.2.1,lF qT p0.2.2.2,lH 1]),(1,MAP kvP qI 128 c.2),(2,.bx 190 [lN,lI 0,lN,lN,lV (.map none)])],3⟩) e [(0,3),(1,2),(2,1)] R ?_;intro c m hm l j;refine .sr (.bi R (.ns (.seq ?_)));exact .cc hm R (fun hm=> .sn (.seq (.block (.sr (bS hm fun b h hm=> .ix sl27 h R (.lg [lI b.1,lI b.2.1,lI b.2.2] ag112 R (.E lv112) R (.al 3 zz112 R (.st ag112.sz R (.ns (.reg (.fa ygs R (.lb yfy R (.fa y1A R (.lb nag3 R (.fa y3F R (.lb nag3 R (.bu [lI b.1,lI b.2.1] pl70 R (.fa y3l R (.lb nag3 R (.op (O.mu (k:=(b.1,b.2.1)) (v:=b.2.2) md128 (fun _ _=>eqP) Z R R (.a R R) R .k) R (.nil (.blkN (.seqN (.reg (.bi R (.mv R (.nil ((l _ (oj hm)).s0 R)))))))))))))))))))))))))))) fun hm=> .xx ((K8 _ (j _ (oj hm))).s0 R)
def y7w(p0:PbT)(a:Int):Option (Int⊕(Unit⊕Int)):=
 if decide (a<(([p0.1,p0.2.1]:List AutT).length:Int)) then
  (idx ([p0.1,p0.2.1]:List AutT) a).bind fun c=>
  (y1J c).bind fun b=>
  if(b != 0) then
   some (.inr (.inr (b)))
  else
   some (.inl (W (a+1)))
 else
  some (.inr (.inl ()))
def y2x(p0:PbT):Option ((Option TskT)×Int):=
 (iter (y7w p0) 0).bind fun i=>
 match i with
 | .inl k=>
  (yV p0.2.1.1 p0.1.1).bind fun j=>
  if(!j) then
   some (none,9)
  else
   (y1H p0.2.2 32).bind fun b=>
   if(b != 0) then
    some (none,b)
   else
    (yx ([p0.1,p0.2.1]:List AutT)).bind fun a=>
    if(a.2.2 != 0) then
     some (none,a.2.2)
    else
     (y4y p0.1.1 p0.2.2).bind fun c=>
     (y6K p0.1).bind fun d=>
     (y6K p0.2.1).bind fun e=>
     (y6K a.1).bind fun f=>
     (y4a p0.1.1 c).bind fun g=>
     some ((some (d,e,f,a.2.1,c,g)),0)
 | .inr (h)=>
  some (none,h)
theorem y8A{p0:PbT}{r:(Option TskT)×Int}(hm:y2x p0=some r):
    F0 125 [.a (lx99 p0)] [] (.tp [.o (lK rE192 192 r.1),.i r.2]) []:=by
  refine Fw.mk2 func125 ntmps125 R (fun C=>?_) R;refine .sr (.bo 0 R (.sa R (.an R (.seq (.sr (.fa y6I R (.lg (lx60 p0.1) ag60 R (.B R) R (.fa y6p R (.lg (lx60 p0.2.1) ag60 R (.B R) R (.op (O.bsF (r:=rE60) (zs:=([p0.1,p0.2.1]:List AutT)) bs49 R R Z R R R (.c (.p .l (.p .k (.p .l .l))) (.c (.p .l (.p .k (.p .l .l))) .n)) R R R) R (.ln sl49 R (.mv R (.ns (.block (bS hm fun S N hm=>?_)))))))))))))));refine .cutU (z:= .exit 0) (fun L=> .inl L=S) (fun (L:Unit)=>⟨[(1,.q 0 0)],[(0,.bx 99 (lx99 p0))],1⟩) ?_ fun K8=>?_
  · rintro L rfl;dsimp only at hm;refine .blkE (.seqN (.seq (.sr (.fa y6p R (.fa yI R (.lb nag26 R (.fa y6I R (.fa yI R (.lb nag26 R (bS hm fun X P hm=> .c0 (y7R P) cf105 R (.no R (.ns ?_))))))))))));refine .cc hm R (fun hm=>?_) fun hm=>?_
    ·refine .sr (.sa R (.an R (.ret (.seqR (.cnt 2 R (.c (.pn (r:=rE192) (T:=192)) .n) R ?_)))));cases hm;exact .r0 results125 (.tmp R (.tmp R .nil)) R R
    ·refine .sn (.seq (.sr (.fa y9M R (.lb nag26 R (bS hm fun V x hm=> .c0 (y4e x) cf111 R (.an R (.sv R (.bi R (.ns ?_)))))))));refine .cc hm R (fun hm=>?_) fun hm=>?_
     ·refine .sv R (.sa R (.an R (.ret (.seqR (.cnt 2 R (.c (.pn (r:=rE192) (T:=192)) .n) R ?_)))));cases hm;exact .r0 results125 (.tmp R (.tmp R .nil)) R R
     ·refine .sn (.sr (.fa y6I R (.lg (lx60 p0.1) ag60 R (.B R) R (.fa y6p R (.lg (lx60 p0.2.1) ag60 R (.B R) R (.op (O.bsF (r:=rE60) (zs:=([p0.1,p0.2.1]:List AutT)) bs49 R R Z R R R (.c (.p .l (.p .k (.p .l .l))) (.c (.p .l (.p .k (.p .l .l))) .n)) R R R) R (bS hm fun b y hm=> .cm (r':= .tp [.a [lH 1,lI b.1.2.1,lH 2,lH 3],.h 4,.i b.2.2]) [1,2,3,4] [(0,rwI b.1.1),(1,rwI b.1.2.2.1),(2,ROW qT 112 b.1.2.2.2),(3,ROW (rL qI) 26 b.2.1)] (some 5) (y8q y) cf79 R ⟨⟨_,R,I4⟩,⟨_,R,I4⟩,⟨_,R,I4⟩,⟨_,R,I4⟩,trivial⟩ R (.mv R (.ex R (.ex R (.ex R (.al 5 zz60 R (.st ag60.sz R (.sa R (.an R (.seq (.sv R (.bi R (.ns ?_)))))))))))))))))));refine .cc hm R (fun hm=>?_) fun hm=>?_
      ·refine .sv R (.sa R (.an R (.ret (.seqR (.cnt 2 R (.c (.pn (r:=rE192) (T:=192)) .n) R ?_)))));cases hm;exact .r0 results125 (.tmp R (.tmp R .nil)) R R
      ·refine .sn (.sr (.fa y6I R (.fa yI R (.lb nag26 R (.fa y9M R (.lb nag26 R (bS hm fun s D hm=> .cm (r':= .h 6) [6] [(0,rwI s)] (some 7) (y8v D) cf162 R ⟨⟨_,R,I4⟩,trivial⟩ R (.an R (.seq (.fz 1 [49,42,48] [5] R R fR R R (.fz 2 [49,42,48] [5] R R fR R R (.fz 3 [49,42,48] [5] R R fR R R ?_))))))))))));refine .sub (τ:=⟨[(11,.h 6),(9,.h 4),(8,.q 5 0),(1,.q 0 0)],[(6,rwI s),(4,ROW (rL qI) 26 b.2.1),(5,.bx 60 (lx60 b.1)),(0,.bx 99 (lx99 p0))],7⟩) ?_ [] R;refine bS hm fun d F hm=>bS hm fun e G hm=>bS hm fun g H hm=>bS hm fun u I hm=>?_;refine .drw [(7,[]),(7,[oT]),(7,[oT,oT]),(7,[]),(7,[oF,oF,oF,oT]),(7,tT 5),(7,[]),(7,tT 7),(7,[]),(7,[]),(7,[]),(7,[oF,oF,oF,oF,oF,oF,oF,oF,oF,oF,oT]),(7,[oF,oF,oF,oF,oF,oF,oF,oF,oF,oF,oT,oT]),(7,[]),(7,tA 8 (fA 2 (tT 4))),(8,tT 15),(8,tT 16),(9,tT 17),(9,tT 18)] [_,_,_,_,_,_,_,_,_,_,_,_,_,_,_,_,_,_,_] ⟨[(3,.i 0),(2,.q 8 0)],[(8,.bx 192 [lF qI d.1.1,lI d.1.2.1,lF qI d.1.2.2.1,lF qT d.1.2.2.2,lM kvP qI d.2,lF qI e.1.1,lI e.1.2.1,lF qI e.1.2.2.1,lF qT e.1.2.2.2,lM kvP qI e.2,lF qI g.1.1,lI g.1.2.1,lF qI g.1.2.2.1,lF qT g.1.2.2.2,lM kvP qI g.2,lH 4,lH 6,lH 7]),(4,ROW (rL qI) 26 b.2.1),(6,rwI s),(7,rwI u)],9⟩ ⟨O.faP y6I Z R R,O.lg (l':=(lx60 p0.1)) ag60 Z R (.B R) R R R,O.ca0 (y8o F) cf198 R R Z R R R,O.faP y6p Z R R,O.lg (l':=(lx60 p0.2.1)) ag60 Z R (.B R) R R R,O.ca0 (y8o G) cf198 R R Z R R R,O.lg (l':=(lx60 b.1)) ag60 Z R (.B R) R R R,O.ca0 (y8o H) cf198 R R Z R R R,zM R,zM R,O.faP y6I Z R R,O.faP yI Z R R,zB nag26 R,zM R,O.caY (r':= .h 7) [7] [(0,rwI u)] (some 8) (y9O I) cf77 R R Z R R ⟨⟨R,LnL.rf⟩,⟨R,.hr R,trivial⟩,trivial⟩ R ⟨.row flr3,trivial⟩ (fun _ _ _ _ h=>h) ⟨⟨_,R,I4⟩,trivial⟩ I3 R,O.bu (l:=[lF qI d.1.1,lI d.1.2.1,lF qI d.1.2.2.1,lF qT d.1.2.2.2,lM kvP qI d.2,lF qI e.1.1,lI e.1.2.1,lF qI e.1.2.2.1,lF qT e.1.2.2.2,lM kvP qI e.2,lF qI g.1.1,lI g.1.2.1,lF qI g.1.2.2.1,lF qT g.1.2.2.2,lM kvP qI g.2,lH 4,lH 6,lH 7]) pl192 R Z R R R,O.box 8 R Z R R R,O.as Z R R,O.as Z R R,trivial⟩ (by kernel_rfl) R ?_;refine .seqN (.ret (.fz 4 [] [8] R R fR R R (.fz 6 [] [8] R R fR R R (.fz 7 [] [8] R R fR R R (.fz 8 [2] [] R R fB R R (.cnt 2 R (.c (.pk (r:=rE192) (.p (.p (.p .l (.p .k (.p .l .l))) .m) (.p (.p (.p .l (.p .k (.p .l .l))) .m) (.p (.p (.p .l (.p .k (.p .l .l))) .m) (.p .l (.p .l .l)))))) .n) R ?_))))));cases hm;exact .r0 results125 (.tmp R (.tmp R .nil)) R R
  refine .cutU (z:= .ret) (fun j=> .inr (j)=S) (fun (j:Int)=>⟨[(3,.i j),(2,.o (lV (.pointer none)))],[],0⟩) ?_ fun M=>?_
  · rintro j rfl;dsimp only at hm;refine .blkR (.seqR (.cnt 2 R (.c (.pn (r:=rE192) (T:=192)) .n) R ?_));cases hm;exact .r0 results125 (.tmp R (.tmp R .nil)) R R
  refine .iter (fun (v:Int)=>⟨[(18,.i v),(17,.i (([p0.1,p0.2.1]:List AutT).length:Int)),(16,.f rE60 ([p0.1,p0.2.1]:List AutT)),(1,.q 0 0)],[(0,.bx 99 (lx99 p0))],1⟩) N [] R ?_;intro v U hm Q t;refine .sr (.bi R (.ns (.seq ?_)));refine .cc hm R (fun hm=>?_) fun hm=> .xx ((K8 _ (t _ (oj hm))).s0 R);refine .sn (.seq (.block (.sr (bS hm fun w K hm=> .ix sl49 K R (.lg (lx60 w) ag60 R (.E lv60) R (.al 1 zz60 R (.st ag60.sz R (.nr (.lg (lx60 w) ag60 R (.B R) R (bS hm fun W J hm=> .c0 (y6Q J) cf114 R (.an R (.sv R (.bi R (.ns ?_))))))))))))));exact .cc hm R (fun hm=> .sv R (.sa R (.an R (.ret (.blkR (.seqR (.seqR ((M _ (t _ (oj hm))).s0 R)))))))) fun hm=> .skip (.blkN (.seqN (.reg (.bi R (.mv R (.nil ((Q _ (oj hm)).s0 R)))))))
def y8Y(p0:PbT):Option Int:=
 (y2x p0).bind fun a=>
 some a.2
theorem ybn{p0:PbT}{r:Int}(hm:y8Y p0=some r):
  F0 121 [.a (lx99 p0)] [] (.i r) []:=by
 refine Fw.mk2 func121 ntmps121 R (fun C=>?_) R;refine .sr (.bo 0 R (.an R (.sr (.lg (lx99 p0) ag99 R (.B R) R (bS hm fun c b hm=> .c0 (y8A b) cf125 R (.mv R (.ex R (.ex R (.sa R (.an R (.sv R (.an R (.ret ?_)))))))))))));cases hm;exact .r0 results121 (.tmp R .nil) R R
def yK(p0:(List (Int×Int))×Int×Int)(p1:Int):Option Int:=
 some (W ((W (p0.2.1+p0.2.2))+p1))
theorem y2T{p0:(List (Int×Int))×Int×Int}{r:Int}(hm:yK p0 p1=some r):
  F0 194 [.o (lQ 277 [lF rE344 p0.1,lI p0.2.1,lI p0.2.2] 0),.i p1] [] (.i r) []:=by
 refine Fw.mk2 func194 ntmps194 R (fun C=>?_) R;refine .sr (.an R (.seq ?_));refine .sub (τ:=⟨[(0,.o (lQ 277 [lF rE344 p0.1,lI p0.2.1,lI p0.2.2] 0)),(1,.i p1)],[],0⟩) ?_ [] R;refine .drw [(0,[]),(0,[oT]),(0,[oT,oT]),(0,tT 3),(0,[]),(0,[oF,oF,oF,oF,oT]),(0,[oF,oF,oF,oF,oT,oT]),(0,fA 4 (tT 3)),(0,tT 8),(0,[]),(0,tT 10),(0,tT 11)] [_,_,_,_,_,_,_,_,_,_,_,_] ⟨[(4,.i (W ((W (p0.2.1+p0.2.2))+p1)))],[],0⟩ ⟨zM R,O.nc .Q Z R R,O.faQ yef Z R R,O.ld nag3 Z R .Q R R,zM R,O.nc .Q Z R R,O.faQ ygt Z R R,O.ld nag3 Z R .Q R R,O.bi Z R R R R,zM R,O.bi Z R R R R,O.as Z R R,trivial⟩ (by kernel_rfl) R ?_;refine .seqN (.ret ?_);cases hm;exact .r0 results194 (.tmp R .nil) R R
def y1X(p0:(List (Int×Int))×Int×Int)(p1:Int):Option Int:=
 some (W (p0.2.1+p1))
theorem y7m{p0:(List (Int×Int))×Int×Int}{r:Int}(hm:y1X p0 p1=some r):
  F0 195 [.o (lQ 277 [lF rE344 p0.1,lI p0.2.1,lI p0.2.2] 0),.i p1] [] (.i r) []:=by
 refine Fw.mk2 func195 ntmps195 R (fun C=>?_) R;refine .sr (.an R (.sv R (.op (O.nc .Q Z R R) R (.fq yef R (.lq nag3 R (.mv R (.bi R (.an R (.ret ?_)))))))));cases hm;exact .r0 results195 (.tmp R .nil) R R
def y1Y(p1:List (Int×Int))(a:(List (Int×Int))×Int):Option (((List (Int×Int))×Int)⊕(List (Int×Int))):=
 if decide (a.2<(p1.length:Int)) then
  (idx p1 a.2).bind fun b=>
  (app a.1 ([b]:List (Int×Int))).bind fun c=>
  some (.inl (c,W (a.2+1)))
 else
  some (.inr a.1)
def yu(p0:(List (Int×Int))×Int×Int)(p1:List (Int×Int)):Option ((List (Int×Int))×Int×Int):=
 (iter (y1Y p1) (p0.1,0)).bind fun a=>
 some (a,p0.2)
theorem yT{p0:(List (Int×Int))×Int×Int}{p1:List (Int×Int)}{r:((List (Int×Int))×Int×Int)}(hm:yu p0 p1=some r):
  Fw prog 267 ⟨2,[0,1]⟩ [.o (lP 0 0),.f rE70 p1] [.bx 277 [lH 1,lI p0.2.1,lI p0.2.2],ROW rE344 344 p0.1] (.tp []) [.bx 277 [lH 2,lI r.2.1,lI r.2.2],.u,ROW rE344 344 r.1]:=by
 refine Fw.mk2 func267 ntmps267 R (fun C=>?_) R;refine .mvb 1 0 0 R R R R (.sv R (.ln sl34 R (.mv R (.ns (.block (bS hm fun g h hm=>?_))))));refine .cut1 (z:= .exit 0) g (fun (g:(List (Int×Int)))=>⟨[],[(0,.bx 277 [lH 2,lI p0.2.1,lI p0.2.2]),(2,ROW rE344 344 g)],3⟩) ?_ fun K9=>?_
 ·skip
  refine .blkE (.ou 1 R ?_);cases hm;exact WX.rt [0,1,2] (.inr R) results267 .nil R I3 ⟨⟨_,R,I4⟩,⟨_,R,fun _ _ _ _ _=>trivial⟩,⟨_,R,I4⟩,trivial⟩
 refine .iter (fun (b:(List (Int×Int))×Int)=>⟨[(8,.i b.2),(7,.i p1.length),(6,.f rE70 p1),(0,.q 0 0)],[(0,.bx 277 [lH 2,lI p0.2.1,lI p0.2.2]),(2,ROW rE344 344 b.1)],3⟩) h [] R ?_;intro b t hm m j;refine .sr (.bi R (.ns (.seq ?_)));refine .cc hm R (fun hm=>?_) fun hm=> .xx ((K9 _ (j _ (oj hm))).s0 R);refine .sn (.seq (.block (.sr (bS hm fun a d hm=> .ix sl34 d R (.lg [lI a.1,lI a.2] ag70 R (.E lv70) R (.al 3 zz70 R (.st ag70.sz R (.ns ?_))))))));refine .sub (τ:=⟨[(5,.q 3 0),(8,.i b.2),(7,.i p1.length),(6,.f rE70 p1),(0,.q 0 0)],[(0,.bx 277 [lH 2,lI p0.2.1,lI p0.2.2]),(2,ROW rE344 344 b.1),(3,.bx 70 [lI a.1,lI a.2])],4⟩) ?_ [] R;refine bS hm fun s e hm=>?_;refine .drd 5 [(4,[],[2]),(4,[],[]),(4,[oF,oT],[]),(4,[oF,oT,oT],[]),(4,fA 1 (tT 3),[]),(4,[],[]),(4,[oF,oF,oF,oF,oF,oT],[]),(4,[],[]),(4,[oF,oF,oF,oF,oF,oF,oF,oT],[]),(4,fA 5 (tT 4),[]),(4,fA 5 (tT 5),[]),(4,fA 1 (tT 10),[]),(5,tT 12,[]),(5,tT 13,[]),(5,tT 14,[])] [_,_,_,_,_,_,_,_,_,_,_,_,_,_,_] ⟨[(8,.i b.2),(7,.i p1.length),(6,.f rE70 p1),(0,.q 0 0)],[(0,.bx 277 [lH 4,lI p0.2.1,lI p0.2.2]),(4,ROW rE344 344 s)],5⟩ ⟨zM R,zM R,O.nc .B Z R R,O.faP yak Z R R,zB y7K R,O.ia ia70 Z R R R R,zB nag3 R,O.ia ia70 Z R R R R,zB nag3 R,O.bu (l:=[lI a.1,lI a.2]) pl344 R Z R R R,O.bsF (r:=rE344) (zs:=([a]:List (Int×Int))) bs178 R R Z R R R (.c (.p .k .k) .n) R R R,O.ap 4 underlying178 el344 R R Z R R (.fr R) e R,O.nc .B Z R R,O.faP yak Z R R,O.st y7K.sz Z R R R R R,trivial⟩ (by kernel_rfl) R ?_;exact .blkN (.seqN (.reg (.bi R (.mv R (.nil ((m _ (oj hm)).sub [(2,4)] R))))))
def y1C(p2:Int)(p4:List (Int×Int×Int))(a:(List (Int×Int))×Int×Int×Int):Option (((List (Int×Int))×Int×Int×Int)⊕((List (Int×Int))×Int×Int)):=
 if decide (a.2.2.2<(p4.length:Int)) then
  (idx p4 a.2.2.2).bind fun d=>
  (yK (a.1,a.2.1,a.2.2.1) d.1).bind fun c=>
  (yK (a.1,a.2.1,a.2.2.1) d.2.2).bind fun e=>
  (yu (a.1,a.2.1,a.2.2.1) ([(1,c),(4,p2),(10,c),(9,e),(9,p2)]:List (Int×Int))).bind fun b=>
  some (.inl (b.1,b.2.1,b.2.2,W (a.2.2.2+1)))
 else
  some (.inr (a.1,a.2.1,a.2.2.1))
def y3U(p0:(List (Int×Int))×Int×Int)(p1:Int)(p2:Int)(p3:Int)(p4:List (Int×Int×Int)):Option ((List (Int×Int))×Int×Int):=
 (yu p0 ([(2,p1),(12,0)]:List (Int×Int))).bind fun b=>
 (yu b ([(1,p1),(10,p2)]:List (Int×Int))).bind fun c=>
 (iter (y1C p2 p4) (c.1,c.2.1,c.2.2,0)).bind fun d=>
 (yu d ([(2,p2),(9,p3)]:List (Int×Int))).bind fun a=>
 (idx a.1 (W ((b.1.length:Int)-1))).bind fun e=>
 (upd a.1 (W ((b.1.length:Int)-1)) (e.1,(a.1.length:Int))).bind fun f=>
 some (f,a.2)
theorem y9q{p0:(List (Int×Int))×Int×Int}{p3:Int}{p4:List (Int×Int×Int)}{r:((List (Int×Int))×Int×Int)}(hm:y3U p0 p1 p2 p3 p4=some r):
  Fw prog 193 ⟨2,[0,1]⟩ [.o (lP 0 0),.i p1,.i p2,.i p3,.f qT p4] [.bx 277 [lH 1,lI p0.2.1,lI p0.2.2],ROW rE344 344 p0.1] (.tp []) [.bx 277 [lH 2,lI r.2.1,lI r.2.2],.u,ROW rE344 344 r.1]:=by
 refine Fw.mk2 func193 ntmps193 R (fun C=>?_) R;refine .mvb 1 0 0 R R R R (.sv R (.mv R (.bu [lI 2,lI p1] pl70 R (.bu [lI 12,lI 0] pl70 R (.bf (r:=rE70) ([(2,p1),(12,0)]:List (Int×Int)) bs34 R (.c (.p .k .k) (.c (.p .k .k) .n)) R (bS hm fun g K hm=> .cm (r':= .tp []) [0,2,3] [(1,.u),(2,ROW rE344 344 g.1),(0,.bx 277 [lH 3,lI g.2.1,lI g.2.2])] (some 4) (yT K) cf267 R ⟨⟨_,R,fun _ _ _ _ _=>trivial⟩,⟨_,R,I4⟩,⟨_,R,I4⟩,trivial⟩ R (.nr (.mv R (.op (O.nc .B Z R R) R (.fa yak R (.lb y7K R (.lh sl178 R (.bi R (.an R (.sv R (.mv R (.bu [lI 1,lI p1] pl70 R (.mv R (.bu [lI 10,lI p2] pl70 R (.bf (r:=rE70) ([(1,p1),(10,p2)]:List (Int×Int)) bs34 R (.c (.p .k .k) (.c (.p .k .k) .n)) R (bS hm fun I L hm=> .cm (r':= .tp []) [0,3,4] [(1,.u),(2,ROW rE344 344 I.1),(0,.bx 277 [lH 4,lI I.2.1,lI I.2.2])] (some 5) (yT L) cf267 R ⟨⟨_,R,fun _ _ _ _ _=>trivial⟩,⟨_,R,I4⟩,⟨_,R,I4⟩,trivial⟩ R (.ns (.seq (.sv R (.ln sl27 R ?_)))))))))))))))))))))))));refine .mv R (.ns (.block (bS hm fun e t hm=>?_)));refine .cut1 (z:= .exit 0) e (fun (e:(List (Int×Int))×Int×Int)=>⟨[(10,.i (W ((g.1.length:Int)-1))),(0,.q 0 0),(2,.i p2),(3,.i p3)],[(0,.bx 277 [lH 2,lI e.2.1,lI e.2.2]),(2,ROW rE344 344 e.1)],3⟩) ?_ fun J=>?_
 ·skip
  refine .blkE (.seqN (.sv R (.mv R (.bu [lI 2,lI p2] pl70 R (.mv R (.bu [lI 9,lI p3] pl70 R (.bf (r:=rE70) ([(2,p2),(9,p3)]:List (Int×Int)) bs34 R (.c (.p .k .k) (.c (.p .k .k) .n)) R (bS hm fun b v hm=> .cm (r':= .tp []) [0,2,3] [(1,.u),(2,ROW rE344 344 b.1),(0,.bx 277 [lH 3,lI b.2.1,lI b.2.2])] (some 4) (yT v) cf267 R ⟨⟨_,R,fun _ _ _ _ _=>trivial⟩,⟨_,R,I4⟩,⟨_,R,I4⟩,trivial⟩ R (.ns ?_)))))))));refine .sub (τ:=⟨[(10,.i (W ((g.1.length:Int)-1))),(0,.q 0 0)],[(0,.bx 277 [lH 3,lI b.2.1,lI b.2.2]),(3,ROW rE344 344 b.1)],4⟩) ?_ [] R;refine bS hm fun M l hm=>bS hm fun N D hm=>?_;refine .drg 4 [(4,[]),(4,[oT]),(4,[oT,oT]),(4,tT 3),(4,[]),(4,[]),(4,[oF,oF,oF,oF,oF,oT]),(4,[oF,oF,oF,oF,oF,oT,oT]),(4,fA 5 (tT 3)),(4,fA 5 (tT 4)),(4,tT 10),(4,tT 11),(4,tT 12)] [_,_,_,_,_,_,_,_,_,_,_,_,_] ⟨[],[(0,.bx 277 [lH 3,lI b.2.1,lI b.2.2]),(3,ROW rE344 344 N)],4⟩ ⟨zM R,O.nc .B Z R R,O.faP yak Z R R,zB y7K R,zM R,zM R,O.nc .B Z R R,O.faP yak Z R R,zB y7K R,O.lenH sl178 Z R R R,O.ir sl178 Z R R R l R,O.faR y7P Z R R,O.su (z:=(M.1,(b.1.length:Int))) nag3.sz Z R R l D R R R lv344 R (.p .k .k),trivial⟩ (by kernel_rfl) R ?_;refine .ou 1 R ?_;cases hm;exact WX.rt [0,1,3] (.inr R) results193 .nil R I3 ⟨⟨_,R,I4⟩,⟨_,R,fun _ _ _ _ _=>trivial⟩,⟨_,R,I4⟩,trivial⟩
 refine .iter (fun (a:(List (Int×Int))×Int×Int×Int)=>⟨[(36,.i a.2.2.2),(35,.i p4.length),(34,.f qT p4),(10,.i (W ((g.1.length:Int)-1))),(0,.q 0 0),(2,.i p2),(3,.i p3)],[(0,.bx 277 [lH 2,lI a.2.1,lI a.2.2.1]),(2,ROW rE344 344 a.1)],3⟩) t [(2,4)] R ?_;intro a P hm H G;refine .sr (.bi R (.ns (.seq ?_)));refine .cc hm R (fun hm=>?_) fun hm=> .xx ((J _ (G _ (oj hm))).s0 R);refine .sn (.seq (.block (.sr (bS hm fun d F hm=> .ix sl27 F R (.lg [lI d.1,lI d.2.1,lI d.2.2] ag112 R (.E lv112) R (.al 3 zz112 R (.st ag112.sz R (.ns (.seq ?_)))))))));refine .sub (τ:=⟨[(12,.q 3 0),(36,.i a.2.2.2),(35,.i p4.length),(34,.f qT p4),(10,.i (W ((g.1.length:Int)-1))),(0,.q 0 0),(2,.i p2),(3,.i p3)],[(0,.bx 277 [lH 2,lI a.2.1,lI a.2.2.1]),(2,ROW rE344 344 a.1),(3,.bx 112 [lI d.1,lI d.2.1,lI d.2.2])],4⟩) ?_ [] R;refine bS hm fun j w hm=>bS hm fun m x hm=>?_;refine .drw [(4,[]),(4,[]),(4,[oF,oT]),(4,tT 3),(4,[]),(4,[]),(4,[oF,oF,oF,oF,oF,oT]),(4,tT 7),(4,tT 8),(4,tT 9)] [_,_,_,_,_,_,_,_,_,_] ⟨[(14,.i m),(13,.i j),(36,.i a.2.2.2),(35,.i p4.length),(34,.f qT p4),(10,.i (W ((g.1.length:Int)-1))),(0,.q 0 0),(2,.i p2),(3,.i p3)],[(0,.bx 277 [lH 2,lI a.2.1,lI a.2.2.1]),(2,ROW rE344 344 a.1)],4⟩ ⟨zM R,O.faP y1A Z R R,zB nag3 R,O.caZ (y2T w) cf194 R R Z R ⟨⟨R,(.q R ⟨.hr R,.rf,.rf,trivial⟩),trivial⟩,⟨R,LnL.rf⟩,trivial⟩ (fun _ _ _ _ _ h=>h) R,zM R,O.faP y3l Z R R,zB nag3 R,O.caZ (y2T x) cf194 R R Z R ⟨⟨R,(.q R ⟨.hr R,.rf,.rf,trivial⟩),trivial⟩,⟨R,LnL.rf⟩,trivial⟩ (fun _ _ _ _ _ h=>h) R,O.as Z R R,O.as Z R R,trivial⟩ (by kernel_rfl) R ?_;exact .seqN (.reg (.mv R (.mv R (.bu [lI 1,lI j] pl70 R (.mv R (.bu [lI 4,lI p2] pl70 R (.mv R (.bu [lI 10,lI j] pl70 R (.mv R (.bu [lI 9,lI m] pl70 R (.mv R (.bu [lI 9,lI p2] pl70 R (.op (O.bsF (r:=rE70) (zs:=([(1,j),(4,p2),(10,j),(9,m),(9,p2)]:List (Int×Int))) bs34 R R Z R R R (.c (.p .k .k) (.c (.p .k .k) (.c (.p .k .k) (.c (.p .k .k) (.c (.p .k .k) .n))))) R R R) R (bS hm fun s y hm=> .cm (r':= .tp []) [0,2,4] [(1,.u),(2,ROW rE344 344 s.1),(0,.bx 277 [lH 4,lI s.2.1,lI s.2.2])] (some 5) (yT y) cf267 R ⟨⟨_,R,fun _ _ _ _ _=>trivial⟩,⟨_,R,I4⟩,⟨_,R,I4⟩,trivial⟩ R (.nil (.blkN (.seqN (.reg (.bi R (.mv R (.nil ((H _ (oj hm)).sub [(2,4)] R))))))))))))))))))))))
def y1s(p2:LI)(a:(List (Int×Int))×Int×Int×Int):Option (((List (Int×Int))×Int×Int×Int)⊕((List (Int×Int))×Int×Int)):=
 if decide (a.2.2.2<(p2.length:Int)) then
  (idx p2 a.2.2.2).bind fun d=>
  (idx ([1,5]:LI) (if 1<a.2.2.2 then 1 else a.2.2.2)).bind fun e=>
  (yK (a.1,a.2.1,a.2.2.1) d).bind fun c=>
  (yu (a.1,a.2.1,a.2.2.1) ([(e,c)]:List (Int×Int))).bind fun b=>
  some (.inl (b.1,b.2.1,b.2.2,W (a.2.2.2+1)))
 else
  some (.inr (a.1,a.2.1,a.2.2.1))
def y3m(p0:(List (Int×Int))×Int×Int)(p1:Int)(p2:LI):Option ((List (Int×Int))×Int×Int):=
 if((p2.length:Int)==0) then
  (yu p0 ([(1,p1),(4,p1),(7,p1)]:List (Int×Int))).bind fun c=>
  some c
 else
  (iter (y1s p2) (p0.1,p0.2.1,p0.2.2,0)).bind fun a=>
  (yu a ([(7,p1)]:List (Int×Int))).bind fun b=>
  some b
theorem y8Z{p0:(List (Int×Int))×Int×Int}{p2:LI}{r:((List (Int×Int))×Int×Int)}(hm:y3m p0 p1 p2=some r):
    Fw prog 196 ⟨2,[0,1]⟩ [.o (lP 0 0),.i p1,.f qI p2] [.bx 277 [lH 1,lI p0.2.1,lI p0.2.2],ROW rE344 344 p0.1] (.tp []) [.bx 277 [lH 2,lI r.2.1,lI r.2.2],.u,ROW rE344 344 r.1]:=by
  refine Fw.mk2 func196 ntmps196 R (fun C=>?_) R;refine .mvb 1 0 0 R R R R (.seq (.sv R (.ln sl26 R (.bi R (.ns ?_)))));refine .cc hm R (fun hm=>?_) fun hm=>?_
  ·refine .sv R (.mv R (.bu [lI 1,lI p1] pl70 R (.mv R (.bu [lI 4,lI p1] pl70 R (.mv R (.bu [lI 7,lI p1] pl70 R (.op (O.bsF (r:=rE70) (zs:=([(1,p1),(4,p1),(7,p1)]:List (Int×Int))) bs34 R R Z R R R (.c (.p .k .k) (.c (.p .k .k) (.c (.p .k .k) .n))) R R R) R (bS hm fun D F hm=> .cm (r':= .tp []) [0,2,3] [(1,.u),(2,ROW rE344 344 D.1),(0,.bx 277 [lH 3,lI D.2.1,lI D.2.2])] (some 4) (yT F) cf267 R ⟨⟨_,R,fun _ _ _ _ _=>trivial⟩,⟨_,R,I4⟩,⟨_,R,I4⟩,trivial⟩ R (.ns (.ret (.seqR (.ou 1 R ?_))))))))))));cases hm;exact .rr [0,1,3] results196 .nil R I3 ⟨⟨_,R,I4⟩,⟨_,R,fun _ _ _ _ _=>trivial⟩,⟨_,R,I4⟩,trivial⟩
  ·refine .sn (.seq (.sv R (.ln sl26 R (.mv R (.ns (.block (bS hm fun d m hm=>?_)))))));refine .cut1 (z:= .exit 0) d (fun (d:(List (Int×Int))×Int×Int)=>⟨[(0,.q 0 0),(1,.i p1)],[(0,.bx 277 [lH 2,lI d.2.1,lI d.2.2]),(2,ROW rE344 344 d.1)],3⟩) ?_ fun E=>?_
   · skip
     refine .blkE (.seqN (.reg (.mv R (.mv R (.bu [lI 7,lI p1] pl70 R (.bf (r:=rE70) ([(7,p1)]:List (Int×Int)) bs34 R (.c (.p .k .k) .n) R (bS hm fun e s hm=> .cm (r':= .tp []) [0,2,3] [(1,.u),(2,ROW rE344 344 e.1),(0,.bx 277 [lH 3,lI e.2.1,lI e.2.2])] (some 4) (yT s) cf267 R ⟨⟨_,R,fun _ _ _ _ _=>trivial⟩,⟨_,R,I4⟩,⟨_,R,I4⟩,trivial⟩ R (.nil (.ou 1 R ?_)))))))));cases hm;exact WX.rt [0,1,3] (.inr R) results196 .nil R I3 ⟨⟨_,R,I4⟩,⟨_,R,fun _ _ _ _ _=>trivial⟩,⟨_,R,I4⟩,trivial⟩
   refine .iter (fun (a:(List (Int×Int))×Int×Int×Int)=>⟨[(22,.i a.2.2.2),(21,.i p2.length),(20,.f qI p2),(0,.q 0 0),(1,.i p1)],[(0,.bx 277 [lH 2,lI a.2.1,lI a.2.2.1]),(2,ROW rE344 344 a.1)],3⟩) m [] R ?_;intro a H hm B y;refine .sr (.bi R (.ns (.seq ?_)));refine .cc hm R (fun hm=>?_) fun hm=> .xx ((E _ (y _ (oj hm))).s0 R);refine .sn (.seq (.block (.sv R (bS hm fun G w hm=> .ix sl26 w R (.le nag3 lv3 R (.sa R (.an R ?_)))))));refine .sub (τ:=⟨[(7,.i G),(6,.i a.2.2.2),(22,.i a.2.2.2),(21,.i p2.length),(20,.f qI p2),(0,.q 0 0),(1,.i p1)],[(0,.bx 277 [lH 2,lI a.2.1,lI a.2.2.1]),(2,ROW rE344 344 a.1)],3⟩) ?_ [] R;refine bS hm fun j x hm=>bS hm fun g t hm=>bS hm fun b v hm=>?_;refine .drg 4 [(3,[]),(3,[]),(3,[]),(3,[oF,oF,oT]),(3,fA 1 (tT 3)),(3,[]),(3,[]),(3,[oF,oF,oF,oF,oF,oT,oT]),(3,fA 1 (tT 7)),(3,fA 1 (tT 8)),(3,tT 10)] [_,_,_,_,_,_,_,_,_,_,_] ⟨[(22,.i a.2.2.2),(21,.i p2.length),(20,.f qI p2),(0,.q 0 0),(1,.i p1)],[(0,.bx 277 [lH 3,lI b.2.1,lI b.2.2]),(3,ROW rE344 344 b.1)],4⟩ ⟨zM R,O.bu (l:=[lI 1,lI 5]) pl70 R Z R R R,zM R,O.min Z R R R,O.ixA (xs:=([1,5]:LI)) nag3 underlying70 Z R R R x R,zM R,zM R,O.caZ (y2T t) cf194 R R Z R ⟨⟨R,(.q R ⟨.hr R,.rf,.rf,trivial⟩),trivial⟩,⟨R,LnL.rf⟩,trivial⟩ (fun _ _ _ _ _ h=>h) R,O.bu (l:=[lI j,lI g]) pl70 R Z R R R,O.bsF (r:=rE70) (zs:=([(j,g)]:List (Int×Int))) bs34 R R Z R R R (.c (.p .k .k) .n) R R R,O.ca (r':= .tp []) [0,2,3] [(1,.u),(2,ROW rE344 344 b.1),(0,.bx 277 [lH 3,lI b.2.1,lI b.2.2])] (some 4) (yT v) cf267 R R Z R R R R ⟨⟨_,R,fun _ _ _ _ _=>trivial⟩,⟨_,R,I4⟩,⟨_,R,I4⟩,trivial⟩ I3 R,trivial⟩ (by kernel_rfl) R ?_;exact .blkN (.seqN (.reg (.bi R (.mv R (.nil ((B _ (oj hm)).sub [(2,3)] R))))))
def y3H(p1:LI)(b:(List (Int×LI))×(List (Int×List (Int×Int×Int))))(a:Int×(List (Int×Int))×Int×Int):Option ((Int×(List (Int×Int))×Int×Int)⊕((List (Int×Int))×Int×Int)):=
 if decide (a.1<(p1.length:Int)) then
  (idx p1 a.1).bind fun e=>
  (y1X a.2 a.1).bind fun c=>
  (y3m a.2 c ((kget b.1 e).getD [])).bind fun d=>
  some (.inl (W (a.1+1),d))
 else
  some (.inr a.2)
def y3I(p0:AutT)(p1:LI)(b:(List (Int×LI))×(List (Int×List (Int×Int×Int))))(a:Int×(List (Int×Int))×Int×Int):Option ((Int×(List (Int×Int))×Int×Int)⊕((List (Int×Int))×Int×Int)):=
 if decide (a.1<(p0.1.length:Int)) then
  (idx p0.1 a.1).bind fun f=>
  (yK a.2 p0.2.1).bind fun c=>
  (y1X a.2 (p1.length:Int)).bind fun d=>
  (y3U a.2 a.1 c d ((kget b.2 f).getD [])).bind fun e=>
  some (.inl (W (a.1+1),e))
 else
  some (.inr a.2)
def y3J(p0:AutT)(a:Int×(List (Int×LI))×(List (Int×List (Int×Int×Int)))):Option ((Int×(List (Int×LI))×(List (Int×List (Int×Int×Int))))⊕((List (Int×LI))×(List (Int×List (Int×Int×Int))))):=
 if decide (a.1<(p0.2.2.2.length:Int)) then
  (idx p0.2.2.2 a.1).bind fun b=>
  (app ((kget a.2.2 b.2.1).getD []) ([b]:List (Int×Int×Int))).bind fun c=>
  (app ((kget a.2.1 b.2.1).getD []) ([b.1]:LI)).bind fun d=>
  some (.inl (W (a.1+1),(kput a.2.1 b.2.1 d),(kput a.2.2 b.2.1 c)))
 else
  some (.inr a.2)
def yS(p0:AutT)(p1:LI):Option (CodT×Int):=
 (y1J p0).bind fun f=>
 if(f != 0) then
  some (((0,0,0,([]:List Bool),([]:List (Int×Int))),([]:LI),([]:LI),0),f)
 else
  (y1H p1 32).bind fun g=>
  if(g != 0) then
   some (((0,0,0,([]:List Bool),([]:List (Int×Int))),([]:LI),([]:LI),0),g)
  else
   (yV p1 p0.1).bind fun j=>
   if(!j) then
    some (((0,0,0,([]:List Bool),([]:List (Int×Int))),([]:LI),([]:LI),0),9)
   else
    if(p0.2.1==0) then
     some (((0,0,0,([]:List Bool),([]:List (Int×Int))),([]:LI),([]:LI),0),21)
    else
     if((decide (p0.2.1>64))||(decide ((p0.2.2.2.length:Int)>256))) then
      some (((0,0,0,([]:List Bool),([]:List (Int×Int))),([]:LI),([]:LI),0),3)
     else
      (iter (y3J p0) (0,([]:List (Int×LI)),([]:List (Int×List (Int×Int×Int))))).bind fun b=>
      (iter (y3I p0 p1 b) (0,([]:List (Int×Int)),(p0.1.length:Int),(W ((p1.length:Int)+1)))).bind fun e=>
      (iter (y3H p1 b) (0,e)).bind fun a=>
      (mkL (W (p0.2.1+1)) false).bind fun c=>
      (idx c 0).bind fun k=>
      (upd c 0 true).bind fun d=>
      (yB p0.1).bind fun h=>
      (yB p1).bind fun i=>
      some (((a.2.1,a.2.2,(d.length:Int),d,a.1),h,i,p0.2.1),0)
theorem y8J{p0:AutT}{p1:LI}{r:CodT×Int}(hm:yS p0 p1=some r):
    F0 122 [.a (lx60 p0),.f qI p1] [] (.tp [.a [lI r.1.1.1,lI r.1.1.2.1,lI r.1.1.2.2.1,lH 0,lH 1,lH 2,lH 3,lI r.1.2.2.2],.i r.2]) [ROW rB 4 r.1.1.2.2.2.1,ROW rE344 344 r.1.1.2.2.2.2,rwI r.1.2.1,rwI r.1.2.2.1]:=by
  refine Fw.mk2 func122 ntmps122 R (fun C=>?_) R;refine .sr (.bo 0 R (.al 1 zz182 R (.an R (.seq (.sr (.lg (lx60 p0) ag60 R (.B R) R (bS hm fun r1 b4 hm=> .c0 (y6Q b4) cf114 R (.an R (.sv R (.bi R (.ns ?_)))))))))));refine .cc hm R (fun hm=>?_) fun hm=>?_
  ·refine .sr (.bu [lI 0,lI 0,lI 0,lN,lN,lN,lN,lI 0] pl182 R (.mv R (.st ag182.sz R (.an R (.ret (.seqR (.nlb rB 4 1 3 R R (.nlb rE344 344 1 4 R R (.nlb qI 3 1 5 R R (.nlb qI 3 1 6 R R ?_))))))))));cases hm;exact .rr [2,3,4,5] results122 (.cell R R ag182 R (.tmp R .nil)) R I3 ⟨⟨_,R,I4⟩,⟨_,R,I4⟩,⟨_,R,I4⟩,⟨_,R,I4⟩,trivial⟩
  ·refine .sn (.seq (.sv R (bS hm fun r2 b5 hm=> .c0 (y4e b5) cf111 R (.an R (.sv R (.bi R (.ns ?_)))))));refine .cc hm R (fun hm=>?_) fun hm=>?_
   ·refine .sr (.bu [lI 0,lI 0,lI 0,lN,lN,lN,lN,lI 0] pl182 R (.mv R (.st ag182.sz R (.an R (.ret (.seqR (.nlb rB 4 1 3 R R (.nlb rE344 344 1 4 R R (.nlb qI 3 1 5 R R (.nlb qI 3 1 6 R R ?_))))))))));cases hm;exact .rr [2,3,4,5] results122 (.cell R R ag182 R (.tmp R .nil)) R I3 ⟨⟨_,R,I4⟩,⟨_,R,I4⟩,⟨_,R,I4⟩,⟨_,R,I4⟩,trivial⟩
   ·refine .sn (.seq (.block (.sv R (.fa yI R (.lb nag26 R (bS hm fun r3 b6 hm=> .c0 (y7R b6) cf105 R (.no R (.an R ?_))))))));refine .cc hm R (fun hm=>?_) fun hm=>?_
    ·refine .sr (.bu [lI 0,lI 0,lI 0,lN,lN,lN,lN,lI 0] pl182 R (.st ag182.sz R (.an R (.ret (.blkR (.seqR (.nlb rB 4 1 3 R R (.nlb rE344 344 1 4 R R (.nlb qI 3 1 5 R R (.nlb qI 3 1 6 R R ?_))))))))));cases hm;exact .rr [2,3,4,5] results122 (.cell R R ag182 R (.tmp R .nil)) R I3 ⟨⟨_,R,I4⟩,⟨_,R,I4⟩,⟨_,R,I4⟩,⟨_,R,I4⟩,trivial⟩
    ·refine .sr (.fa y1r R (.lb nag3 R (.bi R (.an R ?_))));refine .cc hm R (fun hm=>?_) fun hm=>?_
     ·refine .sr (.bu [lI 0,lI 0,lI 0,lN,lN,lN,lN,lI 0] pl182 R (.st ag182.sz R (.an R (.ret (.blkR (.seqR (.nlb rB 4 1 3 R R (.nlb rE344 344 1 4 R R (.nlb qI 3 1 5 R R (.nlb qI 3 1 6 R R ?_))))))))));cases hm;exact .rr [2,3,4,5] results122 (.cell R R ag182 R (.tmp R .nil)) R I3 ⟨⟨_,R,I4⟩,⟨_,R,I4⟩,⟨_,R,I4⟩,⟨_,R,I4⟩,trivial⟩
     ·refine .sr (.fa y1r R (.lb nag3 R (.bi R (.mv R ?_))));refine .cut 5 (fun (v4:Bool)=>((decide (p0.2.1>64))||(decide ((p0.2.2.2.length:Int)>256)))=v4) (fun v4=>⟨[(51,.b v4),(4,.q 1 0),(2,.q 0 0),(1,.f qI p1)],[(1,.bx 182 [lI 0,lI 0,lI 0,lN,lN,lN,lN,lI 0]),(0,.bx 60 (lx60 p0))],2⟩) ?_ ?_
      · rintro _ rfl;refine .an R ?_;refine .cc hm R (fun hm=>?_) fun hm=>?_
        ·refine .sr (.bu [lI 0,lI 0,lI 0,lN,lN,lN,lN,lI 0] pl182 R (.st ag182.sz R (.an R (.ret (.blkR (.seqR (.nlb rB 4 1 3 R R (.nlb rE344 344 1 4 R R (.nlb qI 3 1 5 R R (.nlb qI 3 1 6 R R ?_))))))))));cases hm;exact .rr [2,3,4,5] results122 (.cell R R ag182 R (.tmp R .nil)) R I3 ⟨⟨_,R,I4⟩,⟨_,R,I4⟩,⟨_,R,I4⟩,⟨_,R,I4⟩,trivial⟩
        ·refine .skip (.blkN (.seqN (.sr (.fa yI R (.lb nag26 R (.ln sl26 R (.mv R (.ln sl26 R (.bi R (.bu [lN,lI p0.1.length,lI (W ((p1.length:Int)+1))] pl277 R (.bo 2 R (.an R (.sr (.op (O.mkC y5c 112 3 R Z R) R (.op (O.mkM flr3 3 4 R Z R) R (.sa R (.an R (.seq (.sr (.fa yF R (.lb nag27 R (.ln sl27 R (.mv R (.ns (.block (bS hm fun t K hm=>?_))))))))))))))))))))))))));refine .cut1 (z:= .exit 1) t (fun (t:(List (Int×LI))×(List (Int×List (Int×Int×Int))))=>⟨[(10,.h 0),(9,.h 1),(8,.q 2 0),(4,.q 3 0),(2,.q 4 0),(1,.f qI p1)],[(0,MTB flr3 3 none t.1),(1,MTC y5c 112 none t.2),(2,.bx 277 [lN,lI p0.1.length,lI (W ((p1.length:Int)+1))]),(3,.bx 182 [lI 0,lI 0,lI 0,lN,lN,lN,lN,lI 0]),(4,.bx 60 (lx60 p0))],5⟩) ?_ fun b1=>?_
         · skip
           refine .blkE (.seqN (.seq (.sr (.fa yI R (.lb nag26 R (.ln sl26 R (.mv R (.ns (.block (bS hm fun y L hm=>?_))))))))));refine .cut1 (z:= .exit 3) y (fun (y:(List (Int×Int))×Int×Int)=>⟨[(10,.h 0),(8,.q 1 0),(4,.q 3 0),(2,.q 4 0),(1,.f qI p1)],[(0,MTB flr3 3 none t.1),(1,.bx 277 [lH 2,lI y.2.1,lI y.2.2]),(2,ROW rE344 344 y.1),(3,.bx 182 [lI 0,lI 0,lI 0,lN,lN,lN,lN,lI 0]),(4,.bx 60 (lx60 p0))],5⟩) ?_ fun b2=>?_
           · skip
             refine .blkE (.seqN (.seq (.sv R (.ln sl26 R (.mv R (.ns (.block (bS hm fun j M hm=>?_))))))));refine .cut1 (z:= .exit 5) j (fun (j:(List (Int×Int))×Int×Int)=>⟨[(8,.q 0 0),(4,.q 2 0),(2,.q 3 0),(1,.f qI p1)],[(0,.bx 277 [lH 1,lI j.2.1,lI j.2.2]),(1,ROW rE344 344 j.1),(2,.bx 182 [lI 0,lI 0,lI 0,lN,lN,lN,lN,lI 0]),(3,.bx 60 (lx60 p0))],4⟩) ?_ fun b3=>?_
             · skip
               refine .blkE (.seqN (.sr (.fa y1r R (.lb nag3 R (.bi R (bS hm fun c6 X hm=> .op (O.mk (z:=false) 4 underlying177 zr4 R R Z R R X R) R (.an R (.sv R (bS hm fun c7 F hm=> .op (O.ir sl177 Z R R R F R) R (bS hm fun D Y hm=> .op (O.su (z:=true) nag4.sz Z R R F Y R R R lv4 R .b) R (.ns (.seq ?_))))))))))));refine .sub (τ:=⟨[(17,.h 4),(8,.q 0 0),(4,.q 2 0),(2,.q 3 0),(1,.f qI p1)],[(4,ROW rB 4 D),(0,.bx 277 [lH 1,lI j.2.1,lI j.2.2]),(1,ROW rE344 344 j.1),(2,.bx 182 [lI 0,lI 0,lI 0,lN,lN,lN,lN,lI 0]),(3,.bx 60 (lx60 p0))],5⟩) ?_ [] R;refine bS hm fun G N hm=>bS hm fun H P hm=>?_;refine .drg 7 [(5,[]),(5,[oT]),(5,[oT,oT]),(5,tT 3),(5,[]),(5,[oF,oF,oF,oF,oT]),(5,[oF,oF,oF,oF,oT,oT]),(5,fA 4 (tT 3)),(5,[]),(5,[oF,oF,oF,oF,oF,oF,oF,oF,oT]),(5,[]),(5,[]),(5,[oF,oF,oF,oF,oF,oF,oF,oF,oF,oF,oF,oT]),(5,[oF,oF,oF,oF,oF,oF,oF,oF,oF,oF,oF,oT,oT]),(5,fA 11 (tT 3)),(5,tT 15),(5,[]),(5,[oF,oF,oF,oF,oF,oF,oF,oF,oF,oF,oF,oF,oF,oF,oF,oF,oT]),(5,[oF,oF,oF,oF,oF,oF,oF,oF,oF,oF,oF,oF,oF,oF,oF,oF,oT,oT]),(5,[]),(6,fA 16 (tT 4)),(5,[]),(5,[oF,oF,oF,oF,oF,oF,oF,oF,oF,oF,oF,oF,oF,oF,oF,oF,oF,oF,oF,oF,oF,oT]),(7,tT 23),(7,tT 24),(7,tT 25)] [_,_,_,_,_,_,_,_,_,_,_,_,_,_,_,_,_,_,_,_,_,_,_,_,_,_] ⟨[(5,.i 0),(4,.q 2 0)],[(2,.bx 182 [lI j.2.1,lI j.2.2,lI D.length,lH 4,lH 1,lH 5,lH 6,lI p0.2.1]),(4,ROW rB 4 D),(1,ROW rE344 344 j.1),(5,rwI G),(6,rwI H)],7⟩ ⟨zM R,O.nc .B Z R R,O.faP yef Z R R,zB nag3 R,zM R,O.nc .B Z R R,O.faP ygt Z R R,zB nag3 R,zM R,O.lenH sl177 Z R R R,zM R,zM R,O.nc .B Z R R,O.faP yak Z R R,zB y7K R,O.bu (l:=[lI j.2.1,lI j.2.2,lI D.length,lH 4,lH 1]) pl180 R Z R R R,O.faP yI Z R R,zB nag26 R,O.ca (r':= .h 5) [5] [(0,rwI G)] (some 6) (y2q N) cf58 R R Z R R R R ⟨⟨_,R,I4⟩,trivial⟩ I3 R,zM R,O.ca (r':= .h 6) [6] [(0,rwI H)] (some 7) (y2q P) cf58 R R Z R R R R ⟨⟨_,R,I4⟩,trivial⟩ I3 R,O.faP y1r Z R R,zB nag3 R,O.bu (l:=[lI j.2.1,lI j.2.2,lI D.length,lH 4,lH 1,lH 5,lH 6,lI p0.2.1]) pl182 R Z R R R,O.st ag182.sz Z R R R R R,O.as Z R R,trivial⟩ (by kernel_rfl) R ?_;refine .seqN (.ret ?_);cases hm;exact .rr [4,1,5,6] results122 (.cell R R ag182 R (.tmp R .nil)) R I3 ⟨⟨_,R,I4⟩,⟨_,R,I4⟩,⟨_,R,I4⟩,⟨_,R,I4⟩,trivial⟩
             refine .fz 0 [10] [] R R fMt R R (.iter (fun (s:Int×(List (Int×Int))×Int×Int)=>⟨[(119,.i s.1),(118,.i p1.length),(117,.f qI p1),(10,.o (lM kvI (rL qI) t.1)),(8,.q 0 0),(4,.q 2 0),(2,.q 3 0),(1,.f qI p1)],[(0,.bx 277 [lH 1,lI s.2.2.1,lI s.2.2.2]),(1,ROW rE344 344 s.2.1),(2,.bx 182 [lI 0,lI 0,lI 0,lN,lN,lN,lN,lI 0]),(3,.bx 60 (lx60 p0))],4⟩) M [(0,1),(1,2),(2,3),(3,4)] R ?_);intro s c2 hm b0 a7;refine .sr (.bi R (.ns (.seq ?_)));refine .cc hm R (fun hm=>?_) fun hm=> .xx ((b3 _ (a7 _ (oj hm))).s0 R);refine .sn (.seq (.block (.sv R (bS hm fun I a0 hm=> .ix sl26 a0 R (.le nag3 lv3 R (.sa R (.an R ?_)))))));refine .sub (τ:=⟨[(16,.i I),(15,.i s.1),(119,.i s.1),(118,.i p1.length),(117,.f qI p1),(10,.o (lM kvI (rL qI) t.1)),(8,.q 0 0),(4,.q 2 0),(2,.q 3 0),(1,.f qI p1)],[(0,.bx 277 [lH 1,lI s.2.2.1,lI s.2.2.2]),(1,ROW rE344 344 s.2.1),(2,.bx 182 [lI 0,lI 0,lI 0,lN,lN,lN,lN,lI 0]),(3,.bx 60 (lx60 p0))],4⟩) ?_ [] R;refine bS hm fun c3 Q hm=>bS hm fun w S hm=>?_;refine .drg 5 [(4,[]),(4,[]),(4,[]),(4,[oF,oT,oT]),(4,[]),(4,[]),(4,[oF,oF,oF,oF,oT,oT]),(4,tT 7)] [_,_,_,_,_,_,_,_] ⟨[(119,.i s.1),(118,.i p1.length),(117,.f qI p1),(10,.o (lM kvI (rL qI) t.1)),(8,.q 0 0),(4,.q 2 0),(2,.q 3 0),(1,.f qI p1)],[(0,.bx 277 [lH 4,lI w.2.1,lI w.2.2]),(4,ROW rE344 344 w.1),(2,.bx 182 [lI 0,lI 0,lI 0,lN,lN,lN,lN,lI 0]),(3,.bx 60 (lx60 p0))],5⟩ ⟨zM R,zM R,zM R,O.caZ (y7m Q) cf195 R R Z R ⟨⟨R,(.q R ⟨.hr R,.rf,.rf,trivial⟩),trivial⟩,⟨R,LnL.rf⟩,trivial⟩ (fun _ _ _ _ _ h=>h) R,zM R,zM R,O.mlS (k:=I) yhM Z R (.o R) R,O.ca (r':= .tp []) [0,1,4] [(1,.u),(2,ROW rE344 344 w.1),(0,.bx 277 [lH 4,lI w.2.1,lI w.2.2])] (some 5) (y8Z S) cf196 R R Z R R R R ⟨⟨_,R,fun _ _ _ _ _=>trivial⟩,⟨_,R,I4⟩,⟨_,R,I4⟩,trivial⟩ I3 R,trivial⟩ (by kernel_rfl) R ?_;exact .blkN (.seqN (.reg (.bi R (.mv R (.nil ((b0 _ (oj hm)).sub [(1,4)] R))))))
           refine .fz 1 [9] [] R R fMc R R (.nlb rE344 344 2 0 R R (.iter (fun (m:Int×(List (Int×Int))×Int×Int)=>⟨[(97,.i m.1),(96,.i p0.1.length),(95,.f qI p0.1),(10,.h 0),(9,.o (lM kvI (rL qT) t.2)),(8,.q 1 0),(4,.q 3 0),(2,.q 4 0),(1,.f qI p1)],[(0,MTB flr3 3 none t.1),(1,.bx 277 [lH 2,lI m.2.2.1,lI m.2.2.2]),(2,ROW rE344 344 m.2.1),(3,.bx 182 [lI 0,lI 0,lI 0,lN,lN,lN,lN,lI 0]),(4,.bx 60 (lx60 p0))],5⟩) L [(1,2),(2,5)] R ?_));intro m c1 hm a9 a6;refine .sr (.bi R (.ns (.seq ?_)));refine .cc hm R (fun hm=>?_) fun hm=> .xx ((b2 _ (a6 _ (oj hm))).s0 R);refine .sn (.seq (.block (.sv R (bS hm fun J a1 hm=> .ix sl26 a1 R (.le nag3 lv3 R (.sa R (.an R ?_)))))));refine .sub (τ:=⟨[(14,.i J),(13,.i m.1),(97,.i m.1),(96,.i p0.1.length),(95,.f qI p0.1),(10,.h 0),(9,.o (lM kvI (rL qT) t.2)),(8,.q 1 0),(4,.q 3 0),(2,.q 4 0),(1,.f qI p1)],[(0,MTB flr3 3 none t.1),(1,.bx 277 [lH 2,lI m.2.2.1,lI m.2.2.2]),(2,ROW rE344 344 m.2.1),(3,.bx 182 [lI 0,lI 0,lI 0,lN,lN,lN,lN,lI 0]),(4,.bx 60 (lx60 p0))],5⟩) ?_ [] R;refine bS hm fun c4 T hm=>bS hm fun c5 U hm=>bS hm fun x V hm=>?_;refine .drg 6 [(5,[]),(5,[]),(5,[]),(5,[]),(5,[oF,oF,oF,oT]),(5,fA 2 (tT 3)),(5,[]),(5,[]),(5,[oF,oF,oF,oF,oF,oF,oF,oT]),(5,fA 2 (tT 7)),(5,[]),(5,[]),(5,[oF,oF,oF,oF,oF,oF,oF,oF,oF,oF,oT,oT]),(5,tT 13)] [_,_,_,_,_,_,_,_,_,_,_,_,_,_] ⟨[(97,.i m.1),(96,.i p0.1.length),(95,.f qI p0.1),(10,.h 0),(9,.o (lM kvI (rL qT) t.2)),(8,.q 1 0),(4,.q 3 0),(2,.q 4 0),(1,.f qI p1)],[(0,MTB flr3 3 none t.1),(1,.bx 277 [lH 5,lI x.2.1,lI x.2.2]),(5,ROW rE344 344 x.1),(3,.bx 182 [lI 0,lI 0,lI 0,lN,lN,lN,lN,lI 0]),(4,.bx 60 (lx60 p0))],6⟩ ⟨zM R,zM R,zM R,O.faP y1r Z R R,zB nag3 R,O.caZ (y2T T) cf194 R R Z R ⟨⟨R,(.q R ⟨.hr R,.rf,.rf,trivial⟩),trivial⟩,⟨R,LnL.rf⟩,trivial⟩ (fun _ _ _ _ _ h=>h) R,zM R,zM R,O.len sl26 Z R R,O.caZ (y7m U) cf195 R R Z R ⟨⟨R,(.q R ⟨.hr R,.rf,.rf,trivial⟩),trivial⟩,⟨R,LnL.rf⟩,trivial⟩ (fun _ _ _ _ _ h=>h) R,zM R,zM R,O.mlS (k:=J) ykV Z R (.o R) R,O.ca (r':= .tp []) [1,2,5] [(1,.u),(2,ROW rE344 344 x.1),(0,.bx 277 [lH 5,lI x.2.1,lI x.2.2])] (some 6) (y9q V) cf193 R R Z R R R R ⟨⟨_,R,fun _ _ _ _ _=>trivial⟩,⟨_,R,I4⟩,⟨_,R,I4⟩,trivial⟩ I3 R,trivial⟩ (by kernel_rfl) R ?_;exact .blkN (.seqN (.reg (.bi R (.mv R (.nil ((a9 _ (oj hm)).sub [(2,5)] R))))))
         refine .iter (fun (v:Int×(List (Int×LI))×(List (Int×List (Int×Int×Int))))=>⟨[(66,.i v.1),(65,.i p0.2.2.2.length),(64,.f qT p0.2.2.2),(10,.h 0),(9,.h 1),(8,.q 2 0),(4,.q 3 0),(2,.q 4 0),(1,.f qI p1)],[(0,MTB flr3 3 none v.2.1),(1,MTC y5c 112 none v.2.2),(2,.bx 277 [lN,lI p0.1.length,lI (W ((p1.length:Int)+1))]),(3,.bx 182 [lI 0,lI 0,lI 0,lN,lN,lN,lN,lI 0]),(4,.bx 60 (lx60 p0))],5⟩) K [(0,4),(1,3),(3,1),(4,0)] R ?_;intro v b9 hm a8 a5;refine .sr (.bi R (.ns (.seq ?_)));refine .cc hm R (fun hm=>?_) fun hm=> .xx ((b1 _ (a5 _ (oj hm))).s0 R);refine .sn (.seq (.block (.sr (bS hm fun g a2 hm=> .ix sl27 a2 R (.lg [lI g.1,lI g.2.1,lI g.2.2] ag112 R (.E lv112) R (.al 5 zz112 R (.st ag112.sz R (.ns ?_))))))));refine .sub (τ:=⟨[(12,.q 5 0),(66,.i v.1),(65,.i p0.2.2.2.length),(64,.f qT p0.2.2.2),(10,.h 0),(9,.h 1),(8,.q 2 0),(4,.q 3 0),(2,.q 4 0),(1,.f qI p1)],[(5,.bx 112 [lI g.1,lI g.2.1,lI g.2.2]),(0,MTB flr3 3 none v.2.1),(1,MTC y5c 112 none v.2.2),(2,.bx 277 [lN,lI p0.1.length,lI (W ((p1.length:Int)+1))]),(3,.bx 182 [lI 0,lI 0,lI 0,lN,lN,lN,lN,lI 0]),(4,.bx 60 (lx60 p0))],6⟩) ?_ [] R;refine bS hm fun b7 a3 hm=>bS hm fun b8 a4 hm=>?_;refine .drz 10 [(9,1),(9,6),(12,7),(16,0),(16,8),(20,9),(21,1)] [(6,[],[0,1],[]),(6,[],[0,1],[]),(6,[oF,oT],[0,1],[]),(6,[],[0,1],[]),(6,[],[0,1],[]),(6,[oF,oF,oF,oF,oT],[0,1],[]),(6,[],[0],[]),(6,[],[0],[]),(6,[oF,oF,oF,oF,oF,oF,oF,oT],[0],[]),(6,fA 6 (tT 3),[0],[]),(6,[],[0,1],[]),(6,[oF,oF,oF,oF,oF,oF,oF,oF,oF,oF,oT],[0,1],[]),(7,fA 6 (tT 6),[0],[]),(6,[],[1],[]),(6,[],[1],[]),(6,[oF,oF,oF,oF,oF,oF,oF,oF,oF,oF,oF,oF,oF,oF,oT],[1],[]),(6,fA 13 (tT 3),[1],[]),(6,[],[0,1],[]),(6,[oF,oF,oF,oF,oF,oF,oF,oF,oF,oF,oF,oF,oF,oF,oF,oF,oF,oT],[0,1],[]),(6,[oF,oF,oF,oF,oF,oF,oF,oF,oF,oF,oF,oF,oF,oF,oF,oF,oF,oT,oT],[0,1],[]),(9,fA 6 (tT 14),[],[(9,6)]),(10,tA 3 (fA 3 (tT 15)),[],[(9,6),(16,8)]),(10,tA 3 (fA 3 (tT 16)),[],[(9,1),(9,6),(16,8)]),(10,tA 3 (fA 3 (tT 17)),[],[(9,1),(9,6),(16,8)]),(10,tT 24,[],[(9,1),(9,6),(12,7),(16,8),(21,1)])] [_,_,_,_,_,_,_,_,_,_,_,_,_,_,_,_,_,_,_,_,_,_,_,_,_] ⟨[(66,.i v.1),(65,.i p0.2.2.2.length),(64,.f qT p0.2.2.2),(10,.h 0),(9,.h 1),(8,.q 2 0),(4,.q 3 0),(2,.q 4 0),(1,.f qI p1)],[(0,MTB flr3 3 none (kput v.2.1 g.2.1 b8)),(1,MTC y5c 112 none (kput v.2.2 g.2.1 b7)),(2,.bx 277 [lN,lI p0.1.length,lI (W ((p1.length:Int)+1))]),(3,.bx 182 [lI 0,lI 0,lI 0,lN,lN,lN,lN,lI 0]),(4,.bx 60 (lx60 p0))],10⟩ ⟨zM R,O.faP y3F Z R R,zB nag3 R,zM R,O.faP y3F Z R R,zB nag3 R,zM R,O.faP y3F Z R R,zB nag3 R,O.luC (k:=g.2.1) 6 yhN R Z R R (.o R) R,O.lg (l':=[lI g.1,lI g.2.1,lI g.2.2]) ag112 Z R (.B R) R R R,O.bsF (r:=qT) (zs:=([g]:List (Int×Int×Int))) bs27 R R Z R R R (.c (.p .k (.p .k .k)) .n) R R R,O.ap 7 underlying27 el112 R R Z R R (.fr R) a3 R,zM R,O.faP y3F Z R R,zB nag3 R,O.luM (k:=g.2.1) 8 ydJ R Z R R (.o R) R,O.faP y1A Z R R,zB nag3 R,O.bsF (r:=qI) (zs:=([g.1]:LI)) bs26 R R Z R R R (.c .k .n) R R R,O.ap 9 underlying26 el3 R R Z R R (.fr R) a4 R,O.enC yhN Z R R R R,O.ex Z R R R,O.esC Z R R R R R R,O.muM (k:=g.2.1) ydJ Z R R (.o R) R R R (fun _ e=>by cases e;rfl),trivial⟩ (by kernel_rfl) R ?_
         exact .blkN (.seqN (.reg (.bi R (.mv R (.nil ((a8 _ (oj hm)).s0 R))))))
      · intro J5;rcases yEt (decide (p0.2.1>64)) with hc|hc
        · refine .know (d:=46) R hc ?_;exact .s2 R R (.s2 R R (.pT R ((J5 true (orT hc).symm).s0 R)))
        · refine .know (d:=46) R hc ?_;exact .fag yF R (.lbg nag27 R (.op (O.len sl27 (Gu.mk R R) R R) R (.bg R (.pF R ((J5 (decide ((p0.2.2.2.length:Int)>256)) (orF hc).symm).s0 R)))))
def y4z(a:Int×LI)(b:LI):Option ((Int×LI)⊕LI):=
 some (.inl (W (a.1+1),b))
def y6v(p0:PbT)(a:Int×LI):Option ((Int×LI)⊕LI):=
 if decide (a.1<(p0.2.1.1.length:Int)) then
  (idx p0.2.1.1 a.1).bind fun b=>
  (yf p0.2.2 b).bind fun c=>
  if(!c) then
   (app a.2 ([b]:LI)).bind fun d=>
   y4z a d
  else
   y4z a a.2
 else
  some (.inr a.2)
def y6q(p0:PbT):Option (CodT×Int):=
 (iter (y6v p0) (0,([]:LI))).bind fun a=>
 (yS p0.2.1 a).bind fun b=>
 some b
theorem y9m{p0:PbT}{r:CodT×Int}(hm:y6q p0=some r):
  F0 197 [.a (lx99 p0)] [] (.tp [.a [lI r.1.1.1,lI r.1.1.2.1,lI r.1.1.2.2.1,lH 0,lH 1,lH 2,lH 3,lI r.1.2.2.2],.i r.2]) [ROW rB 4 r.1.1.2.2.2.1,ROW rE344 344 r.1.1.2.2.2.2,rwI r.1.2.1,rwI r.1.2.2.1]:=by
 refine Fw.mk2 func197 ntmps197 R (fun C=>?_) R;refine .sr (.bo 0 R (.al 1 zz182 R (.an R (.sr (.an R (.seq (.sr (.fa y6p R (.fa yI R (.lb nag26 R (.ln sl26 R (.mv R (.ns (.block (bS hm fun j m hm=>?_)))))))))))))));refine .cut1 (z:= .exit 0) j (fun (j:LI)=>⟨[(4,.h 0),(2,.q 1 0),(1,.q 2 0)],[(0,rwI j),(1,.bx 182 [lI 0,lI 0,lI 0,lN,lN,lN,lN,lI 0]),(2,.bx 99 (lx99 p0))],3⟩) ?_ fun w=>?_
 ·skip
  refine .blkE (.seqN (.sr (.fa y6p R (.lg (lx60 p0.2.1) ag60 R (.B R) R (.mv R (bS hm fun b o hm=> .op (O.caY (r':= .tp [.a [lI b.1.1.1,lI b.1.1.2.1,lI b.1.1.2.2.1,lH 3,lH 4,lH 5,lH 6,lI b.1.2.2.2],.i b.2]) [3,4,5,6] [(0,ROW rB 4 b.1.1.2.2.2.1),(1,ROW rE344 344 b.1.1.2.2.2.2),(2,rwI b.1.2.1),(3,rwI b.1.2.2.1)] (some 7) (y8J o) cf122 R R Z R R ⟨⟨R,LnL.rf⟩,⟨R,.hr R,trivial⟩,trivial⟩ R ⟨.row flr4,.row yhO,.row flr3,.row flr3,trivial⟩ (fun _ _ _ _ h=>h) ⟨⟨_,R,I4⟩,⟨_,R,I4⟩,⟨_,R,I4⟩,⟨_,R,I4⟩,trivial⟩ I3 R) R (.ex R (.ex R (.st ag182.sz R (.an R (.ret ?_)))))))))));cases hm;exact .rr [3,4,5,6] results197 (.cell R R ag182 R (.tmp R .nil)) R I3 ⟨⟨_,R,I4⟩,⟨_,R,I4⟩,⟨_,R,I4⟩,⟨_,R,I4⟩,trivial⟩
 refine .nlg qI 3 4 0 R R (.iter (fun (d:Int×LI)=>⟨[(11,.i d.1),(10,.i p0.2.1.1.length),(9,.f qI p0.2.1.1),(4,.h 0),(2,.q 1 0),(1,.q 2 0)],[(0,rwI d.2),(1,.bx 182 [lI 0,lI 0,lI 0,lN,lN,lN,lN,lI 0]),(2,.bx 99 (lx99 p0))],3⟩) m [(0,2),(2,0)] R ?_);intro d l hm v u;refine .sr (.bi R (.ns (.seq ?_)));refine .cc hm R (fun hm=>?_) fun hm=> .xx ((w _ (u _ (oj hm))).s0 R);refine .sn ?_;refine .join1 (fun (e:LI)=>y4z d e=some l) (fun e=>⟨[(4,.h 0),(11,.i d.1),(10,.i p0.2.1.1.length),(9,.f qI p0.2.1.1),(2,.q 1 0),(1,.q 2 0)],[(0,rwI e),(1,.bx 182 [lI 0,lI 0,lI 0,lN,lN,lN,lN,lI 0]),(2,.bx 99 (lx99 p0))],3⟩) ?_ ?_
 ·intro e hm;exact .reg (.bi R (.mv R (.nil ((v _ (oj hm)).s0 R))))
 ·intro g;refine .block (.sr (bS hm fun x s hm=> .ix sl26 s R (.le nag3 lv3 R (.an R (.sr (.fa y9M R (.lb nag26 R (.mv R (bS hm fun y p hm=> .c0 (yi p) cf41 R (.no R (.ns ?_)))))))))));exact .cc hm R (fun hm=> .reg (.mv R (.mv R (.bf (r:=qI) ([x]:LI) bs26 R (.c .k .n) R (bS hm fun D t hm=> .ap 3 underlying26 el3 R R (.fr R) t (.sa R (.nil (.blkN ((g _ hm).sub [(0,3)] R))))))))) fun hm=> .skip (.blkN ((g _ hm).s0 R))
def yr(p0:PbT):Option Int:=
 (y8Y p0).bind fun a=>
 if(a != 0) then
  some a
 else
  if(p0.1.2.1==0) then
   some 12
  else
   (y6q p0).bind fun b=>
   some b.2
theorem y7B{p0:PbT}{r:Int}(hm:yr p0=some r):
    F0 124 [.a (lx99 p0)] [] (.i r) []:=by
  refine Fw.mk2 func124 ntmps124 R (fun C=>?_) R;refine .sr (.bo 0 R (.an R (.seq (.sr (.lg (lx99 p0) ag99 R (.B R) R (bS hm fun e c hm=> .c0 (ybn c) cf121 R (.an R (.sv R (.bi R (.ns ?_))))))))));refine .cc hm R (fun hm=>?_) fun hm=>?_
  ·refine .sv R (.an R (.ret (.seqR ?_)));cases hm;exact .r0 results124 (.tmp R .nil) R R
  ·refine .sn (.seq (.sr (.fa y6I R (.fa y1r R (.lb nag3 R (.bi R (.ns ?_)))))));refine .cc hm R (fun hm=>?_) fun hm=>?_
   ·refine .sr (.an R (.ret (.seqR ?_)));cases hm;exact .r0 results124 (.tmp R .nil) R R
   ·refine .sn (.sr (.lg (lx99 p0) ag99 R (.B R) R (bS hm fun b d hm=> .cm (r':= .tp [.a [lI b.1.1.1,lI b.1.1.2.1,lI b.1.1.2.2.1,lH 1,lH 2,lH 3,lH 4,lI b.1.2.2.2],.i b.2]) [1,2,3,4] [(0,ROW rB 4 b.1.1.2.2.2.1),(1,ROW rE344 344 b.1.1.2.2.2.2),(2,rwI b.1.2.1),(3,rwI b.1.2.2.1)] (some 5) (y9m d) cf197 R ⟨⟨_,R,I4⟩,⟨_,R,I4⟩,⟨_,R,I4⟩,⟨_,R,I4⟩,trivial⟩ R (.mv R (.ex R (.ex R (.al 5 zz182 R (.st ag182.sz R (.an R (.sv R (.an R (.ret ?_))))))))))));cases hm;exact .r0 results124 (.tmp R .nil) R R
def y3x(p0:PbT)(p1:LI)(a:Int):Option (Int⊕(Unit⊕Int)):=
 if decide (a<(p1.length:Int)) then
  (idx p1 a).bind fun b=>
  (yf p0.1.1 b).bind fun c=>
  if(!c) then
   some (.inr (.inr (9)))
  else
   (yf p0.2.2 b).bind fun d=>
   if(!d) then
    some (.inr (.inr (13)))
   else
    (slc p1 0 a).bind fun f=>
    (yf f b).bind fun e=>
    if e then
     some (.inr (.inr (8)))
    else
     some (.inl (W (a+1)))
 else
  some (.inr (.inl ()))
def y4A(p0:PbT)(p1:LI):Option Int:=
 if decide ((p1.length:Int)>3) then
  some 3
 else
  (iter (y3x p0 p1) 0).bind fun b=>
  match b with
  | .inl c=>
   some 0
  | .inr (a)=>
   some a
theorem ya1{p0:PbT}{p1:LI}{r:Int}(hm:y4A p0 p1=some r):
    F0 259 [.a (lx99 p0),.f qI p1] [] (.i r) []:=by
  refine Fw.mk2 func259 ntmps259 R (fun C=>?_) R;refine .sr (.bo 0 R (.an R (.seq (.sv R (.ln sl26 R (.bi R (.ns ?_)))))));refine .cc hm R (fun hm=>?_) fun hm=>?_
  ·refine .sr (.an R (.ret (.seqR ?_)));cases hm;exact .r0 results259 (.tmp R .nil) R R
  ·refine .sn (.seq (.sv R (.ln sl26 R (.mv R (.ns (.block (bS hm fun s o hm=>?_)))))));refine .cutU (z:= .exit 0) (fun e=> .inl e=s) (fun (e:Unit)=>⟨[],[],0⟩) ?_ fun n=>?_
   · rintro e rfl;dsimp only at hm;refine .blkE (.seqN (.sr (.an R (.ret ?_))));cases hm;exact .r0 results259 (.tmp R .nil) R R
   refine .cutU (z:= .ret) (fun c=> .inr (c)=s) (fun (c:Int)=>⟨[(4,.i c)],[],0⟩) ?_ fun d=>?_
   · rintro c rfl;dsimp only at hm;refine .blkR (.seqR ?_);cases hm;exact .r0 results259 (.tmp R .nil) R R
   refine .iter (fun (g:Int)=>⟨[(12,.i g),(11,.i p1.length),(10,.f qI p1),(2,.q 0 0),(1,.f qI p1)],[(0,.bx 99 (lx99 p0))],1⟩) o [] R ?_;intro g t hm p b;refine .sr (.bi R (.ns (.seq ?_)));refine .cc hm R (fun hm=>?_) fun hm=> .xx ((n _ (b _ (oj hm))).s0 R);refine .sn (.seq (.block (.sv R (bS hm fun x l hm=> .ix sl26 l R (.le nag3 lv3 R (.sa R (.an R (.block (.sr (.fa y6I R (.fa yI R (.lb nag26 R (.mv R (bS hm fun u h hm=> .c0 (yi h) cf41 R (.no R (.an R ?_))))))))))))))));refine .cc hm R (fun hm=> .sr (.an R (.ret (.blkR (.blkR (.seqR (.seqR ((d _ (b _ (oj hm))).s0 R)))))))) fun hm=>?_;refine .sr (.fa y9M R (.lb nag26 R (.mv R (bS hm fun v j hm=> .c0 (yi j) cf41 R (.no R (.an R ?_))))));refine .cc hm R (fun hm=> .sr (.an R (.ret (.blkR (.blkR (.seqR (.seqR ((d _ (b _ (oj hm))).s0 R)))))))) fun hm=>?_;refine .sv R (.mv R (bS hm fun y m hm=> .op (O.sh sl26 Z R R m R) R (.mv R (bS hm fun w k hm=> .c0 (yi k) cf41 R (.an R ?_)))));exact .cc hm R (fun hm=> .sr (.an R (.ret (.blkR (.blkR (.seqR (.seqR ((d _ (b _ (oj hm))).s0 R)))))))) fun hm=> .skip (.blkN (.blkN (.seqN (.reg (.bi R (.mv R (.nil ((p _ (oj hm)).s0 R))))))))
def y1Z(a:Int):Option (Int⊕(Unit⊕Int)):=
 some (.inl (W (a+1)))
def y2a(p0:PbT)(b:CycT)(a:Int):Option (Int⊕(Unit⊕Int)):=
 if decide (a<(([b.1,b.2.1]:List LI).length:Int)) then
  (idx ([b.1,b.2.1]:List LI) a).bind fun d=>
  (y4A p0 d).bind fun c=>
  if(c != 0) then
   some (.inr (.inr (c)))
  else
   some (.inl (W (a+1)))
 else
  some (.inr (.inl ()))
def y3y(p0:PbT)(p1:List CycT)(a:Int):Option (Int⊕(Unit⊕Int)):=
 if decide (a<(p1.length:Int)) then
  (idx p1 a).bind fun b=>
  (iter (y2a p0 b) 0).bind fun c=>
  match c with
  | .inl g=>
   if(b.2.2==(-1)) then
    y1Z a
   else
    (yf p0.1.1 b.2.2).bind fun d=>
    if(!d) then
     some (.inr (.inr (9)))
    else
     (yf p0.2.2 b.2.2).bind fun e=>
     if e then
      some (.inr (.inr (13)))
     else
      y1Z a
  | .inr (f)=>
   some (.inr (.inr (f)))
 else
  some (.inr (.inl ()))
def y4B(p0:PbT)(p1:List CycT):Option Int:=
 (yr p0).bind fun b=>
 if(b != 0) then
  some b
 else
  if decide ((p1.length:Int)>256) then
   some 3
  else
   (iter (y3y p0 p1) 0).bind fun a=>
   match a with
   | .inl d=>
    some 0
   | .inr (c)=>
    some c
theorem ya2{p0:PbT}{p1:List CycT}{r:Int}(hm:y4B p0 p1=some r):
    F0 183 [.a (lx99 p0),.f rE170 p1] [] (.i r) []:=by
  refine Fw.mk2 func183 ntmps183 R (fun C=>?_) R;refine .sr (.bo 0 R (.an R (.seq (.sr (.lg (lx99 p0) ag99 R (.B R) R (bS hm fun V N hm=> .c0 (y7B N) cf124 R (.an R (.sv R (.bi R (.ns ?_))))))))));refine .cc hm R (fun hm=>?_) fun hm=>?_
  ·refine .sv R (.an R (.ret (.seqR ?_)));cases hm;exact .r0 results183 (.tmp R .nil) R R
  ·refine .sn (.seq (.sv R (.ln sl102 R (.bi R (.ns ?_)))));refine .cc hm R (fun hm=>?_) fun hm=>?_
   ·refine .sr (.an R (.ret (.seqR ?_)));cases hm;exact .r0 results183 (.tmp R .nil) R R
   ·refine .sn (.seq (.sv R (.ln sl102 R (.mv R (.ns (.block (bS hm fun u w hm=>?_)))))));refine .cutU (z:= .exit 0) (fun p=> .inl p=u) (fun (p:Unit)=>⟨[],[],0⟩) ?_ fun K=>?_
    · rintro p rfl;dsimp only at hm;refine .blkE (.seqN (.sr (.an R (.ret ?_))));cases hm;exact .r0 results183 (.tmp R .nil) R R
    refine .cutU (z:= .ret) (fun g=> .inr (g)=u) (fun (g:Int)=>⟨[(4,.i g)],[],0⟩) ?_ fun k=>?_
    · rintro g rfl;dsimp only at hm;refine .blkR (.seqR ?_);cases hm;exact .r0 results183 (.tmp R .nil) R R
    refine .iter (fun (d:Int)=>⟨[(21,.i d),(20,.i p1.length),(19,.f rE170 p1),(2,.q 0 0)],[(0,.bx 99 (lx99 p0))],1⟩) w [] R ?_;intro d t hm I e;refine .sr (.bi R (.ns (.seq ?_)));refine .cc hm R (fun hm=>?_) fun hm=> .xx ((K _ (e _ (oj hm))).s0 R);refine .sn ?_;refine .join0 (y1Z d=some t) (⟨[(21,.i d),(20,.i p1.length),(19,.f rE170 p1),(2,.q 0 0)],[(0,.bx 99 (lx99 p0))],1⟩) ?_ ?_
    · intro hm;exact .reg (.bi R (.mv R (.nil ((I _ (oj hm)).s0 R))))
    · intro j;refine .block (.sr (bS hm fun b G hm=> .ix sl102 G R (.lg [lF qI b.1,lF qI b.2.1,lI b.2.2] ag170 R (.E lv170) R (.al 1 zz170 R (.st ag170.sz R (.ns (.seq (.sr (.fa ycH R (.lb nag26 R (.fa ycI R (.lb nag26 R (.op (O.bsF (r:=(rL qI)) (zs:=([b.1,b.2.1]:List LI)) bs74 R R Z R R R (.c .l (.c .l .n)) R R R) R (.ln sl74 R (.mv R (.ns (.block (bS hm fun v x hm=>?_))))))))))))))))));refine .cutU (z:= .exit 2) (fun s=> .inl s=v) (fun (s:Unit)=>⟨[(7,.q 0 0),(21,.i d),(20,.i p1.length),(19,.f rE170 p1),(2,.q 1 0)],[(0,.bx 170 [lF qI b.1,lF qI b.2.1,lI b.2.2]),(1,.bx 99 (lx99 p0))],2⟩) ?_ fun L=>?_
      · rintro s rfl;dsimp only at hm;refine .blkE (.seqN (.block (.sr (.fa y8H R (.lb nag3 R (.bi R (.an R ?_)))))));refine .cc hm R (fun hm=> .skip (.blkN (.blkN ((j hm).sub [(0,1)] R)))) fun hm=>?_;refine .sr (.fa y6I R (.fa yI R (.lb nag26 R (.fa y8H R (.lb nag3 R (bS hm fun Q y hm=> .c0 (yi y) cf41 R (.no R (.an R ?_))))))));refine .cc hm R (fun hm=> .sr (.an R (.ret (.blkR (.blkR (.seqR (.seqR ((k _ (e _ (oj hm))).s0 R)))))))) fun hm=>?_;refine .sr (.fa y9M R (.lb nag26 R (.fa y8H R (.lb nag3 R (bS hm fun S D hm=> .c0 (yi D) cf41 R (.an R ?_))))));exact .cc hm R (fun hm=> .sr (.an R (.ret (.blkR (.blkR (.seqR (.seqR ((k _ (e _ (oj hm))).s0 R)))))))) fun hm=> .skip (.blkN (.blkN ((j hm).sub [(0,1)] R)))
      refine .cutU (z:= .ret) (fun h=> .inr (h)=v) (fun (h:Int)=>⟨[(4,.i h)],[],0⟩) ?_ fun M=>?_
      · rintro h rfl;dsimp only at hm;exact .blkR (.seqR (.blkR (.seqR (.seqR ((k _ (e _ (oj hm))).s0 R)))))
      refine .iter (fun (o:Int)=>⟨[(31,.i o),(30,.i (([b.1,b.2.1]:List LI).length:Int)),(29,.f (rL qI) ([b.1,b.2.1]:List LI)),(7,.q 0 0),(21,.i d),(20,.i p1.length),(19,.f rE170 p1),(2,.q 1 0)],[(0,.bx 170 [lF qI b.1,lF qI b.2.1,lI b.2.2]),(1,.bx 99 (lx99 p0))],2⟩) x [(0,1),(1,0)] R ?_;intro o P hm J m;refine .sr (.bi R (.ns (.seq ?_)));refine .cc hm R (fun hm=>?_) fun hm=> .xx ((L _ (m _ (oj hm))).s0 R);refine .sn (.seq (.block (.sr (bS hm fun U H hm=> .ix sl74 H R (.le nag26 lv26 R (.an R (.sr (.lg (lx99 p0) ag99 R (.B R) R (.mv R (bS hm fun T F hm=> .c0 (ya1 F) cf259 R (.an R (.sv R (.bi R (.ns ?_))))))))))))));exact .cc hm R (fun hm=> .sv R (.an R (.ret (.blkR (.seqR (.seqR ((M _ (m _ (oj hm))).s0 R))))))) fun hm=> .skip (.blkN (.seqN (.reg (.bi R (.mv R (.nil ((J _ (oj hm)).s0 R)))))))
def y3V(p0:Int×Int×Int×List Bool×(List (Int×Int)))(a:Int):Option (Int⊕(Unit⊕Unit)):=
 if decide (a<3) then
  (idx ([p0.1,p0.2.1,p0.2.2.1]:LI) a).bind fun b=>
  if((decide (b<0))||(decide (b>256))) then
   some (.inr (.inr (())))
  else
   some (.inl (W (a+1)))
 else
  some (.inr (.inl ()))
def y4V(p0:Int×Int×Int×List Bool×(List (Int×Int))):Option Int:=
 (iter (y3V p0) 0).bind fun a=>
 match a with
 | .inl b=>
  if((p0.2.2.2.1.length:Int) != p0.2.2.1) then
   some 4
  else
   if decide ((p0.2.2.2.2.length:Int)>2048) then
    some 3
   else
    some 0
 | .inr (c)=>
  some 2
theorem yac{p0:Int×Int×Int×List Bool×(List (Int×Int))}{r:Int}(hm:y4V p0=some r):
    F0 324 [.a (lx180 p0)] [] (.i r) []:=by
  refine Fw.mk2 func324 ntmps324 R (fun C=>?_) R;refine .sr (.bo 0 R (.an R (.seq (.sr (.fa yal R (.lb nag3 R (.fa yam R (.lb nag3 R (.fa ybf R (.lb nag3 R (.bu [lI p0.1,lI p0.2.1,lI p0.2.2.1] pl408 R (.mv R (.ns (.block (bS hm fun s o hm=>?_)))))))))))))));refine .cutU (z:= .exit 0) (fun l=> .inl l=s) (fun (l:Unit)=>⟨[(1,.q 0 0)],[(0,.bx 180 (lx180 p0))],1⟩) ?_ fun K8=>?_
  · rintro l rfl;dsimp only at hm;refine .blkE (.seqN (.seq (.block (.sr (.fa ygu R (.lb y2r R (.ln sl177 R (.fa ybf R (.lb nag3 R (.bi R (.an R ?_)))))))))));refine .cc hm R (fun hm=>?_) fun hm=>?_
    ·refine .sr (.an R (.ret (.blkR (.seqR ?_))));cases hm;exact .r0 results324 (.tmp R .nil) R R
    ·refine .sr (.fa yan R (.lb y7K R (.ln sl178 R (.bi R (.an R ?_)))));refine .cc hm R (fun hm=>?_) fun hm=>?_
     ·refine .sr (.an R (.ret (.blkR (.seqR ?_))));cases hm;exact .r0 results324 (.tmp R .nil) R R
     ·refine .skip (.blkN (.seqN (.sr (.an R (.ret ?_)))));cases hm;exact .r0 results324 (.tmp R .nil) R R
  refine .cutU (z:= .ret) (fun m=> .inr (m)=s) (fun (m:Unit)=>⟨[(2,.i 2)],[],0⟩) ?_ fun n=>?_
  · rintro m rfl;dsimp only at hm;refine .blkR (.seqR ?_);cases hm;exact .r0 results324 (.tmp R .nil) R R
  refine .iter (fun (e:Int)=>⟨[(12,.i e),(11,.g [lI p0.1,lI p0.2.1,lI p0.2.2.1]),(1,.q 0 0)],[(0,.bx 180 (lx180 p0))],1⟩) o [] R ?_;intro e t hm p j;refine .sr (.bi R (.ns (.seq ?_)));refine .cc hm R (fun hm=>?_) fun hm=> .xx ((K8 _ (j _ (oj hm))).s0 R);refine .sn (.seq (.block (.sr (bS hm fun c k hm=> .op (O.ixA (xs:=([p0.1,p0.2.1,p0.2.2.1]:LI)) nag3 underlying408 Z R R R k R) R (.an R (.sv R (.bi R (.mv R ?_))))))));refine .cut 3 (fun (f:Bool)=>((decide (c<0))||(decide (c>256)))=f) (fun f=>⟨[(20,.b f),(12,.i e),(11,.g [lI p0.1,lI p0.2.1,lI p0.2.2.1]),(1,.q 0 0)],[(0,.bx 180 (lx180 p0))],1⟩) ?_ ?_
  · rintro _ rfl;exact .ns (.cc hm R (fun hm=> .sr (.an R (.ret (.blkR (.seqR (.seqR ((n _ (j _ (oj hm))).s0 R))))))) fun hm=> .skip (.blkN (.seqN (.reg (.bi R (.mv R (.nil ((p _ (oj hm)).s0 R))))))))
  · intro h;rcases yEt (decide (c<0)) with hc|hc
    · refine .know (d:=17) R hc ?_;exact .s2 R R (.pT R ((h true (orT hc).symm).s0 R))
    · refine .know (d:=17) R hc ?_;exact .mg R (.bg R (.pF R ((h (decide (c>256)) (orF hc).symm).s0 R)))
def y6d(p0:Bool)(p1:Bool):Option Bool:=
 some p1
theorem y9r{p1:Bool}{r:Bool}(hm:y6d p0 p1=some r):
  F0 347 [.b p0,.b p1] [] (.b r) []:=by
 refine Fw.mk2 func347 ntmps347 R (fun C=>?_) R;refine .sr (.an R (.sv R (.an R (.ret ?_))));cases hm;exact .r0 results347 (.tmp R .nil) R R
def y6e(p0:Bool)(p1:Bool):Option Bool:=
 some (!p1)
theorem y9s{p1:Bool}{r:Bool}(hm:y6e p0 p1=some r):
  F0 348 [.b p0,.b p1] [] (.b r) []:=by
 refine Fw.mk2 func348 ntmps348 R (fun C=>?_) R;refine .sr (.an R (.sv R (.no R (.an R (.ret ?_)))));cases hm;exact .r0 results348 (.tmp R .nil) R R
def y6f(p0:Bool)(p1:Bool):Option Bool:=
 some (p0&&p1)
theorem y9t{p1:Bool}{r:Bool}(hm:y6f p0 p1=some r):
  F0 349 [.b p0,.b p1] [] (.b r) []:=by
 refine Fw.mk2 func349 ntmps349 R (fun C=>?_) R;refine .sr (.an R (.sv R (.mv R ?_)));refine .cut 2 (fun (a:Bool)=>(p0&&p1)=a) (fun a=>⟨[(8,.b a)],[],0⟩) ?_ ?_
 ·rintro _ rfl;refine .an R (.ret ?_);cases hm;exact .r0 results349 (.tmp R .nil) R R
 ·intro c;rcases yEt p0 with hc|hc
  ·refine .know (d:=6) R hc ?_;exact .mg R (.pT R ((c p1 (andT hc).symm).s0 R))
  ·refine .know (d:=6) R hc ?_;exact .sk R (.pF R ((c false (andF hc).symm).s0 R))
def y6g(p0:Bool)(p1:Bool):Option Bool:=
 some (p0&&(!p1))
theorem y9u{p1:Bool}{r:Bool}(hm:y6g p0 p1=some r):
  F0 350 [.b p0,.b p1] [] (.b r) []:=by
 refine Fw.mk2 func350 ntmps350 R (fun C=>?_) R;refine .sr (.an R (.sv R (.mv R ?_)));refine .cut 3 (fun (a:Bool)=>(p0&&(!p1))=a) (fun a=>⟨[(9,.b a)],[],0⟩) ?_ ?_
 ·rintro _ rfl;refine .an R (.ret ?_);cases hm;exact .r0 results350 (.tmp R .nil) R R
 ·intro c;rcases yEt p0 with hc|hc
  ·refine .know (d:=6) R hc ?_;exact .mg R (.op (O.not (Gu.mk R R) R R) R (.pT R ((c (!p1) (andT hc).symm).s0 R)))
  ·refine .know (d:=6) R hc ?_;exact .s2 R R (.pF R ((c false (andF hc).symm).s0 R))
def y6h(p0:Bool)(p1:Bool):Option Bool:=
 some (p0||p1)
theorem y9v{p1:Bool}{r:Bool}(hm:y6h p0 p1=some r):
  F0 351 [.b p0,.b p1] [] (.b r) []:=by
 refine Fw.mk2 func351 ntmps351 R (fun C=>?_) R;refine .sr (.an R (.sv R (.mv R ?_)));refine .cut 2 (fun (a:Bool)=>(p0||p1)=a) (fun a=>⟨[(8,.b a)],[],0⟩) ?_ ?_
 ·rintro _ rfl;refine .an R (.ret ?_);cases hm;exact .r0 results351 (.tmp R .nil) R R
 ·intro c;rcases yEt p0 with hc|hc
  ·refine .know (d:=6) R hc ?_;exact .sk R (.pT R ((c true (orT hc).symm).s0 R))
  ·refine .know (d:=6) R hc ?_;exact .mg R (.pF R ((c p1 (orF hc).symm).s0 R))
def y6i(p0:Bool)(p1:Bool):Option Bool:=
 some (p0||(!p1))
theorem y9w{p1:Bool}{r:Bool}(hm:y6i p0 p1=some r):
  F0 352 [.b p0,.b p1] [] (.b r) []:=by
 refine Fw.mk2 func352 ntmps352 R (fun C=>?_) R;refine .sr (.an R (.sv R (.mv R ?_)));refine .cut 3 (fun (a:Bool)=>(p0||(!p1))=a) (fun a=>⟨[(9,.b a)],[],0⟩) ?_ ?_
 ·rintro _ rfl;refine .an R (.ret ?_);cases hm;exact .r0 results352 (.tmp R .nil) R R
 ·intro c;rcases yEt p0 with hc|hc
  ·refine .know (d:=6) R hc ?_;exact .s2 R R (.pT R ((c true (orT hc).symm).s0 R))
  ·refine .know (d:=6) R hc ?_;exact .mg R (.op (O.not (Gu.mk R R) R R) R (.pF R ((c (!p1) (orF hc).symm).s0 R)))
def y6j(p0:Bool)(p1:Bool):Option Bool:=
 some p0
theorem y9x{p1:Bool}{r:Bool}(hm:y6j p0 p1=some r):
  F0 353 [.b p0,.b p1] [] (.b r) []:=by
 refine Fw.mk2 func353 ntmps353 R (fun C=>?_) R;refine .sr (.an R (.sv R (.an R (.ret ?_))));cases hm;exact .r0 results353 (.tmp R .nil) R R
def y6k(p0:Bool)(p1:Bool):Option Bool:=
 some (!p0)
theorem y9y{p1:Bool}{r:Bool}(hm:y6k p0 p1=some r):
  F0 354 [.b p0,.b p1] [] (.b r) []:=by
 refine Fw.mk2 func354 ntmps354 R (fun C=>?_) R;refine .sr (.an R (.sv R (.no R (.an R (.ret ?_)))));cases hm;exact .r0 results354 (.tmp R .nil) R R
def y6l(p0:Bool)(p1:Bool):Option Bool:=
 some (p1||p0)
theorem y9z{p1:Bool}{r:Bool}(hm:y6l p0 p1=some r):
  F0 355 [.b p0,.b p1] [] (.b r) []:=by
 refine Fw.mk2 func355 ntmps355 R (fun C=>?_) R;refine .sr (.an R (.sv R (.mv R ?_)));refine .cut 2 (fun (a:Bool)=>(p1||p0)=a) (fun a=>⟨[(8,.b a)],[],0⟩) ?_ ?_
 ·rintro _ rfl;refine .an R (.ret ?_);cases hm;exact .r0 results355 (.tmp R .nil) R R
 ·intro c;rcases yEt p1 with hc|hc
  ·refine .know (d:=6) R hc ?_;exact .sk R (.pT R ((c true (orT hc).symm).s0 R))
  ·refine .know (d:=6) R hc ?_;exact .mg R (.pF R ((c p0 (orF hc).symm).s0 R))
def y5F(p0:Bool)(p1:Bool):Option Bool:=
 some (p1&&(!p0))
theorem y9g{p1:Bool}{r:Bool}(hm:y5F p0 p1=some r):
  F0 356 [.b p0,.b p1] [] (.b r) []:=by
 refine Fw.mk2 func356 ntmps356 R (fun C=>?_) R;refine .sr (.an R (.sv R (.mv R ?_)));refine .cut 3 (fun (a:Bool)=>(p1&&(!p0))=a) (fun a=>⟨[(9,.b a)],[],0⟩) ?_ ?_
 ·rintro _ rfl;refine .an R (.ret ?_);cases hm;exact .r0 results356 (.tmp R .nil) R R
 ·intro c;rcases yEt p1 with hc|hc
  ·refine .know (d:=6) R hc ?_;exact .mg R (.op (O.not (Gu.mk R R) R R) R (.pT R ((c (!p0) (andT hc).symm).s0 R)))
  ·refine .know (d:=6) R hc ?_;exact .s2 R R (.pF R ((c false (andF hc).symm).s0 R))
def y5G(p0:Bool):Option Bool:=
 some true
theorem y9h{r:Bool}(hm:y5G p0=some r):
  F0 357 [.b p0] [] (.b r) []:=by
 refine Fw.mk2 func357 ntmps357 R (fun C=>?_) R;refine .sr (.an R (.sr (.an R (.ret ?_))));cases hm;exact .r0 results357 (.tmp R .nil) R R
def y5H(p0:Bool):Option Bool:=
 some p0
theorem y9i{r:Bool}(hm:y5H p0=some r):
  F0 358 [.b p0] [] (.b r) []:=by
 refine Fw.mk2 func358 ntmps358 R (fun C=>?_) R;refine .sr (.an R (.sv R (.an R (.ret ?_))));cases hm;exact .r0 results358 (.tmp R .nil) R R
def y5I(p0:Bool):Option Bool:=
 some (!p0)
theorem y9j{r:Bool}(hm:y5I p0=some r):
  F0 359 [.b p0] [] (.b r) []:=by
 refine Fw.mk2 func359 ntmps359 R (fun C=>?_) R;refine .sr (.an R (.sv R (.no R (.an R (.ret ?_)))));cases hm;exact .r0 results359 (.tmp R .nil) R R
def y1i :Option (List (Int×ByteArray×(Option (Bool→Bool→Option Bool))×(Option (Bool→Bool→Option Bool))×(Option (Bool→Option Bool)))):=
 some ([(1,(⟨#[76,68]⟩:ByteArray),(some y6d),none,none),(2,(⟨#[76,68,78]⟩:ByteArray),(some y6e),none,none),(3,(⟨#[65,78,68]⟩:ByteArray),(some y6f),none,none),(4,(⟨#[65,78,68,78]⟩:ByteArray),(some y6g),none,none),(5,(⟨#[79,82]⟩:ByteArray),(some y6h),none,none),(6,(⟨#[79,82,78]⟩:ByteArray),(some y6i),none,none),(7,(⟨#[83,84]⟩:ByteArray),none,(some y6j),none),(8,(⟨#[83,84,78]⟩:ByteArray),none,(some y6k),none),(9,(⟨#[83]⟩:ByteArray),none,(some y6l),none),(10,(⟨#[82]⟩:ByteArray),none,(some y5F),none),(11,(⟨#[74,77,80]⟩:ByteArray),none,none,(some y5G)),(12,(⟨#[74,77,80,67]⟩:ByteArray),none,none,(some y5H)),(13,(⟨#[74,77,80,67,78]⟩:ByteArray),none,none,(some y5I))]:List (Int×ByteArray×(Option (Bool→Bool→Option Bool))×(Option (Bool→Bool→Option Bool))×(Option (Bool→Option Bool))))
theorem y7M{r:(List (Int×ByteArray×(Option (Bool→Bool→Option Bool))×(Option (Bool→Bool→Option Bool))×(Option (Bool→Option Bool))))}(hm:y1i=some r):
  F0 338 [] [] (.f rE413 r) []:=by
 refine Fw.mk2 func338 ntmps338 R (fun C=>?_) R;refine .sr (.an R (.sr (.bu [lI 1,lV (.string (⟨#[76,68]⟩:ByteArray)),lV (.func (.func 347) #[] #[]),lV .nilFunc,lV .nilFunc] pl413 R (.bu [lI 2,lV (.string (⟨#[76,68,78]⟩:ByteArray)),lV (.func (.func 348) #[] #[]),lV .nilFunc,lV .nilFunc] pl413 R (.bu [lI 3,lV (.string (⟨#[65,78,68]⟩:ByteArray)),lV (.func (.func 349) #[] #[]),lV .nilFunc,lV .nilFunc] pl413 R (.bu [lI 4,lV (.string (⟨#[65,78,68,78]⟩:ByteArray)),lV (.func (.func 350) #[] #[]),lV .nilFunc,lV .nilFunc] pl413 R (.bu [lI 5,lV (.string (⟨#[79,82]⟩:ByteArray)),lV (.func (.func 351) #[] #[]),lV .nilFunc,lV .nilFunc] pl413 R (.bu [lI 6,lV (.string (⟨#[79,82,78]⟩:ByteArray)),lV (.func (.func 352) #[] #[]),lV .nilFunc,lV .nilFunc] pl413 R (.bu [lI 7,lV (.string (⟨#[83,84]⟩:ByteArray)),lV .nilFunc,lV (.func (.func 353) #[] #[]),lV .nilFunc] pl413 R (.bu [lI 8,lV (.string (⟨#[83,84,78]⟩:ByteArray)),lV .nilFunc,lV (.func (.func 354) #[] #[]),lV .nilFunc] pl413 R (.bu [lI 9,lV (.string (⟨#[83]⟩:ByteArray)),lV .nilFunc,lV (.func (.func 355) #[] #[]),lV .nilFunc] pl413 R (.bu [lI 10,lV (.string (⟨#[82]⟩:ByteArray)),lV .nilFunc,lV (.func (.func 356) #[] #[]),lV .nilFunc] pl413 R (.bu [lI 11,lV (.string (⟨#[74,77,80]⟩:ByteArray)),lV .nilFunc,lV .nilFunc,lV (.func (.func 357) #[] #[])] pl413 R (.bu [lI 12,lV (.string (⟨#[74,77,80,67]⟩:ByteArray)),lV .nilFunc,lV .nilFunc,lV (.func (.func 358) #[] #[])] pl413 R (.bu [lI 13,lV (.string (⟨#[74,77,80,67,78]⟩:ByteArray)),lV .nilFunc,lV .nilFunc,lV (.func (.func 359) #[] #[])] pl413 R (.op (O.bsF (r:=rE413) (zs:=([(1,(⟨#[76,68]⟩:ByteArray),(some y6d),none,none),(2,(⟨#[76,68,78]⟩:ByteArray),(some y6e),none,none),(3,(⟨#[65,78,68]⟩:ByteArray),(some y6f),none,none),(4,(⟨#[65,78,68,78]⟩:ByteArray),(some y6g),none,none),(5,(⟨#[79,82]⟩:ByteArray),(some y6h),none,none),(6,(⟨#[79,82,78]⟩:ByteArray),(some y6i),none,none),(7,(⟨#[83,84]⟩:ByteArray),none,(some y6j),none),(8,(⟨#[83,84,78]⟩:ByteArray),none,(some y6k),none),(9,(⟨#[83]⟩:ByteArray),none,(some y6l),none),(10,(⟨#[82]⟩:ByteArray),none,(some y5F),none),(11,(⟨#[74,77,80]⟩:ByteArray),none,none,(some y5G)),(12,(⟨#[74,77,80,67]⟩:ByteArray),none,none,(some y5H)),(13,(⟨#[74,77,80,67,78]⟩:ByteArray),none,none,(some y5I))]:List (Int×ByteArray×(Option (Bool→Bool→Option Bool))×(Option (Bool→Bool→Option Bool))×(Option (Bool→Option Bool))))) bs409 R R Z R R R (.c (.p .k (.p .s (.p (.c2 cf347 (fun _ _ r h=>y9r h) (fun _ _ _ _=>⟨_,_,⟨rfl,rfl⟩,⟨_,_,⟨rfl,rfl⟩,rfl,rfl⟩,rfl⟩) (fun _ _ _ _ h=>h.1)) (.p .z2 .z1)))) (.c (.p .k (.p .s (.p (.c2 cf348 (fun _ _ r h=>y9s h) (fun _ _ _ _=>⟨_,_,⟨rfl,rfl⟩,⟨_,_,⟨rfl,rfl⟩,rfl,rfl⟩,rfl⟩) (fun _ _ _ _ h=>h.1)) (.p .z2 .z1)))) (.c (.p .k (.p .s (.p (.c2 cf349 (fun _ _ r h=>y9t h) (fun _ _ _ _=>⟨_,_,⟨rfl,rfl⟩,⟨_,_,⟨rfl,rfl⟩,rfl,rfl⟩,rfl⟩) (fun _ _ _ _ h=>h.1)) (.p .z2 .z1)))) (.c (.p .k (.p .s (.p (.c2 cf350 (fun _ _ r h=>y9u h) (fun _ _ _ _=>⟨_,_,⟨rfl,rfl⟩,⟨_,_,⟨rfl,rfl⟩,rfl,rfl⟩,rfl⟩) (fun _ _ _ _ h=>h.1)) (.p .z2 .z1)))) (.c (.p .k (.p .s (.p (.c2 cf351 (fun _ _ r h=>y9v h) (fun _ _ _ _=>⟨_,_,⟨rfl,rfl⟩,⟨_,_,⟨rfl,rfl⟩,rfl,rfl⟩,rfl⟩) (fun _ _ _ _ h=>h.1)) (.p .z2 .z1)))) (.c (.p .k (.p .s (.p (.c2 cf352 (fun _ _ r h=>y9w h) (fun _ _ _ _=>⟨_,_,⟨rfl,rfl⟩,⟨_,_,⟨rfl,rfl⟩,rfl,rfl⟩,rfl⟩) (fun _ _ _ _ h=>h.1)) (.p .z2 .z1)))) (.c (.p .k (.p .s (.p .z2 (.p (.c2 cf353 (fun _ _ r h=>y9x h) (fun _ _ _ _=>⟨_,_,⟨rfl,rfl⟩,⟨_,_,⟨rfl,rfl⟩,rfl,rfl⟩,rfl⟩) (fun _ _ _ _ h=>h.1)) .z1)))) (.c (.p .k (.p .s (.p .z2 (.p (.c2 cf354 (fun _ _ r h=>y9y h) (fun _ _ _ _=>⟨_,_,⟨rfl,rfl⟩,⟨_,_,⟨rfl,rfl⟩,rfl,rfl⟩,rfl⟩) (fun _ _ _ _ h=>h.1)) .z1)))) (.c (.p .k (.p .s (.p .z2 (.p (.c2 cf355 (fun _ _ r h=>y9z h) (fun _ _ _ _=>⟨_,_,⟨rfl,rfl⟩,⟨_,_,⟨rfl,rfl⟩,rfl,rfl⟩,rfl⟩) (fun _ _ _ _ h=>h.1)) .z1)))) (.c (.p .k (.p .s (.p .z2 (.p (.c2 cf356 (fun _ _ r h=>y9g h) (fun _ _ _ _=>⟨_,_,⟨rfl,rfl⟩,⟨_,_,⟨rfl,rfl⟩,rfl,rfl⟩,rfl⟩) (fun _ _ _ _ h=>h.1)) .z1)))) (.c (.p .k (.p .s (.p .z2 (.p .z2 (.c1 cf357 (fun _ r h=>y9h h) (fun _ _ _=>⟨_,_,⟨rfl,rfl⟩,rfl,rfl⟩) (fun _ _ _ _ h=>h.1)))))) (.c (.p .k (.p .s (.p .z2 (.p .z2 (.c1 cf358 (fun _ r h=>y9i h) (fun _ _ _=>⟨_,_,⟨rfl,rfl⟩,rfl,rfl⟩) (fun _ _ _ _ h=>h.1)))))) (.c (.p .k (.p .s (.p .z2 (.p .z2 (.c1 cf359 (fun _ r h=>y9j h) (fun _ _ _=>⟨_,_,⟨rfl,rfl⟩,rfl,rfl⟩) (fun _ _ _ _ h=>h.1)))))) .n))))))))))))) R R R) R (.an R (.ret ?_))))))))))))))))))
 cases hm;exact .r0 results338 (.tmp R .nil) R R
def y5d(p0:Int×Int×Int×List Bool×(List (Int×Int))):Option Int:=
 some (W ((W (p0.1+p0.2.1))+p0.2.2.1))
theorem ybo{p0:Int×Int×Int×List Bool×(List (Int×Int))}{r:Int}(hm:y5d p0=some r):
  F0 339 [.a (lx180 p0)] [] (.i r) []:=by
 refine Fw.mk2 func339 ntmps339 R (fun C=>?_) R;refine .sr (.bo 0 R (.an R (.sr (.fa yal R (.lb nag3 R (.fa yam R (.lb nag3 R (.bi R (.fa ybf R (.lb nag3 R (.bi R (.an R (.ret ?_)))))))))))));cases hm;exact .r0 results339 (.tmp R .nil) R R
def yD(p0:Int×Int×Int×List Bool×(List (Int×Int)))(b:Int×Int)(c:Int×ByteArray×(Option (Bool→Bool→Option Bool))×(Option (Bool→Bool→Option Bool))×(Option (Bool→Option Bool)))(a:Bool):Option Int:=
 if a then
  some 2
 else
  if(c.2.2.2.1.isSome&&(decide (b.2<p0.1))) then
   some 19
  else
   some 0
def y2H(p0:Int×Int×Int×List Bool×(List (Int×Int)))(p1:Int):Option Int:=
 (idx p0.2.2.2.2 p1).bind fun a=>
 (y1i).bind fun d=>
 if((decide (a.1<1))||(decide (a.1>(d.length:Int)))) then
  some 11
 else
  (idx d (W (a.1-1))).bind fun b=>
  if b.2.2.2.2.isSome then
   if((decide (a.2≤p1))||(decide (a.2>(p0.2.2.2.2.length:Int)))) then
    some 2
   else
    some 0
  else
   if decide (a.2<0) then
    yD p0 a b true
   else
    (y5d p0).bind fun c=>
    yD p0 a b (decide (a.2≥c))
theorem y8F{p0:Int×Int×Int×List Bool×(List (Int×Int))}{r:Int}(hm:y2H p0 p1=some r):
    F0 325 [.a (lx180 p0),.i p1] [] (.i r) []:=by
  refine Fw.mk2 func325 ntmps325 R (fun C=>?_) R;refine .sr (.bo 0 R (.an R (.sr (.fa yan R (.lb y7K R (.mv R (bS hm fun c y hm=> .ix sl178 y R (.lg [lI c.1,lI c.2] ag344 R (.E lv344) R (.al 1 zz344 R (.st ag344.sz R (.nr (bS hm fun s x hm=> .c0 (y7M x) cf338 R (.an R (.seq (.sr (.fa ycJ R (.lb nag3 R (.bi R (.mv R ?_)))))))))))))))))));refine .cut 6 (fun (t:Bool)=>((decide (c.1<1))||(decide (c.1>(s.length:Int))))=t) (fun t=>⟨[(23,.b t),(6,.f rE413 s),(5,.q 1 0),(2,.q 0 0),(1,.i p1)],[(1,.bx 344 [lI c.1,lI c.2]),(0,.bx 180 (lx180 p0))],2⟩) ?_ ?_
  · rintro _ rfl;refine .ns ?_;refine .cc hm R (fun hm=>?_) fun hm=>?_
    ·refine .sr (.an R (.ret (.seqR ?_)));cases hm;exact .r0 results325 (.tmp R .nil) R R
    ·refine .sn (.sv R (.fa ycJ R (.lb nag3 R (.bi R (bS hm fun g z hm=> .ix sl409 z R (.lg [lI g.1,lV (.string g.2.1),lF2 prog (fun (e:Bool) (c:Bool)=> [.bool e,.bool c]) (fun (r:Bool)=> .bool r) g.2.2.1,lF2 prog (fun (e:Bool) (c:Bool)=> [.bool e,.bool c]) (fun (r:Bool)=> .bool r) g.2.2.2.1,lF1 prog (fun (e:Bool)=> [.bool e]) (fun (r:Bool)=> .bool r) g.2.2.2.2] ag413 R (.E lv413) R (.al 2 zz413 R (.st ag413.sz R (.ns (.seq (.sr (.fa ygv R (.lb yhP R (.op (O.fne1 underlying411 Z R R R) R (.ns ?_)))))))))))))));refine .cc hm R (fun hm=>?_) fun hm=>?_
     ·refine .seq (.sr (.fa y7P R (.lb nag3 R (.mv R (.bi R (.mv R ?_))))));refine .cut 7 (fun (u:Bool)=>((decide (c.2≤p1))||(decide (c.2>(p0.2.2.2.2.length:Int))))=u) (fun u=>⟨[(44,.b u)],[],3⟩) ?_ ?_
      · rintro _ rfl;refine .ns ?_;refine .cc hm R (fun hm=>?_) fun hm=>?_
        ·refine .sr (.an R (.ret (.seqR (.seqR ?_))));cases hm;exact .r0 results325 (.tmp R .nil) R R
        ·refine .sn (.sr (.an R (.ret (.seqR ?_))));cases hm;exact .r0 results325 (.tmp R .nil) R R
      · intro w;rcases yEt (decide (c.2≤p1)) with hc|hc
        · refine .know (d:=37) R hc ?_;exact .s2 R R (.s2 R R (.s2 R R (.pT R ((w true (orT hc).symm).s0 R))))
        · refine .know (d:=37) R hc ?_;exact .fag y7P R (.lbg nag3 R (.fag yan R (.lbg y7K R (.op (O.len sl178 (Gu.mk R R) R R) R (.bg R (.pF R ((w (decide (c.2>(p0.2.2.2.2.length:Int))) (orF hc).symm).s0 R)))))))
     ·refine .sn (.seq ?_);refine .join1 (fun (m:Bool)=>yD p0 c g m=some r) (fun m=>⟨[(54,.b m),(7,.q 0 0),(5,.q 1 0),(2,.q 2 0)],[(0,.bx 413 [lI g.1,lV (.string g.2.1),lF2 prog (fun (e:Bool) (c:Bool)=> [.bool e,.bool c]) (fun (r:Bool)=> .bool r) g.2.2.1,lF2 prog (fun (e:Bool) (c:Bool)=> [.bool e,.bool c]) (fun (r:Bool)=> .bool r) g.2.2.2.1,lF1 prog (fun (e:Bool)=> [.bool e]) (fun (r:Bool)=> .bool r) g.2.2.2.2]),(1,.bx 344 [lI c.1,lI c.2]),(2,.bx 180 (lx180 p0))],3⟩) ?_ ?_
      · intro m hm;refine .cc hm R (fun hm=>?_) fun hm=>?_
        ·refine .sr (.an R (.ret (.seqR ?_)));cases hm;exact .r0 results325 (.tmp R .nil) R R
        ·refine .sn (.seq (.sr (.fa yeg R (.lb ycp R (.op (O.fne2 underlying204 Z R R R) R (.mv R ?_))))));refine .cut 6 (fun (k:Bool)=>(g.2.2.2.1.isSome&&(decide (c.2<p0.1)))=k) (fun k=>⟨[(64,.b k)],[],3⟩) ?_ ?_
         · rintro _ rfl;refine .ns ?_;refine .cc hm R (fun hm=>?_) fun hm=>?_
           ·refine .sr (.an R (.ret (.seqR ?_)));cases hm;exact .r0 results325 (.tmp R .nil) R R
           ·refine .sn (.sr (.an R (.ret ?_)));cases hm;exact .r0 results325 (.tmp R .nil) R R
         · intro n;rcases yEt g.2.2.2.1.isSome with hc|hc
           · refine .know (d:=58) R hc ?_;exact .fag y7P R (.lbg nag3 R (.fag yal R (.lbg nag3 R (.bg R (.pT R ((n (decide (c.2<p0.1)) (andT hc).symm).s0 R))))))
           · refine .know (d:=58) R hc ?_;exact .s2 R R (.s2 R R (.sk R (.pF R ((n false (andF hc).symm).s0 R))))
      · intro o;refine .sub (τ:=⟨[(7,.q 2 0),(5,.q 1 0),(2,.q 0 0)],[(2,.bx 413 [lI g.1,lV (.string g.2.1),lF2 prog (fun (e:Bool) (c:Bool)=> [.bool e,.bool c]) (fun (r:Bool)=> .bool r) g.2.2.1,lF2 prog (fun (e:Bool) (c:Bool)=> [.bool e,.bool c]) (fun (r:Bool)=> .bool r) g.2.2.2.1,lF1 prog (fun (e:Bool)=> [.bool e]) (fun (r:Bool)=> .bool r) g.2.2.2.2]),(1,.bx 344 [lI c.1,lI c.2]),(0,.bx 180 (lx180 p0))],3⟩) ?_ [] R;refine .drP 3 [(3,[]),(3,[oT]),(3,[oT,oT])] [_,_,_] ⟨O.faP y7P Z R R,zB nag3 R,O.bi Z R R R R,trivial⟩ fun j=>?_;rcases ifS hm with ⟨h,hm⟩|⟨h,hm⟩
        · skip
          exact .drF j [(3,tT 3),(3,tT 4),(3,tT 5),(3,tT 4),(3,tA 4 (fA 2 (tT 1))),(3,tT 8),(3,tT 9)] [_,_,_,_,_,_,_] ⟨[(54,.b true),(7,.q 2 0),(5,.q 1 0),(2,.q 0 0)],[(2,.bx 413 [lI g.1,lV (.string g.2.1),lF2 prog (fun (e:Bool) (c:Bool)=> [.bool e,.bool c]) (fun (r:Bool)=> .bool r) g.2.2.1,lF2 prog (fun (e:Bool) (c:Bool)=> [.bool e,.bool c]) (fun (r:Bool)=> .bool r) g.2.2.2.1,lF1 prog (fun (e:Bool)=> [.bool e]) (fun (r:Bool)=> .bool r) g.2.2.2.2]),(1,.bx 344 [lI c.1,lI c.2]),(0,.bx 180 (lx180 p0))],3⟩ ⟨O.kn (zM R) h,zK R,zK R,zK R,zK R,zK R,O.pkT Z R R R R,trivial⟩ (by kernel_rfl) R ((o _ hm).sub [(0,2),(2,0)] R)
        · skip
          exact bS hm fun D p hm=> .drF j [(3,tT 3),(3,tT 4),(3,tT 5),(3,tT 4),(3,tA 4 (fA 2 (tT 1))),(3,tT 8),(3,tT 9)] [_,_,_,_,_,_,_] ⟨[(54,.b (decide (c.2≥D))),(7,.q 2 0),(5,.q 1 0),(2,.q 0 0)],[(2,.bx 413 [lI g.1,lV (.string g.2.1),lF2 prog (fun (e:Bool) (c:Bool)=> [.bool e,.bool c]) (fun (r:Bool)=> .bool r) g.2.2.1,lF2 prog (fun (e:Bool) (c:Bool)=> [.bool e,.bool c]) (fun (r:Bool)=> .bool r) g.2.2.2.1,lF1 prog (fun (e:Bool)=> [.bool e]) (fun (r:Bool)=> .bool r) g.2.2.2.2]),(1,.bx 344 [lI c.1,lI c.2]),(0,.bx 180 (lx180 p0))],3⟩ ⟨O.kn (zM R) h,O.faP y7P (Gu.mk R R) R R,O.ld nag3 (Gu.mk R R) R (.B R) R R,O.lg (l':=(lx180 p0)) ag180 (Gu.mk R R) R (.B R) R R R,O.ca0 (ybo p) cf339 R R (Gu.mk R R) R R R,O.bi (Gu.mk R R) R R R R,O.pkF Z R R R R,trivial⟩ (by kernel_rfl) R ((o _ hm).sub [(0,2),(2,0)] R)
  · intro v;rcases yEt (decide (c.1<1)) with hc|hc
    · refine .know (d:=17) R hc ?_;exact .s2 R R (.s2 R R (.sk R (.pT R ((v true (orT hc).symm).s0 R))))
    · refine .know (d:=17) R hc ?_;exact .fag ycJ R (.lbg nag3 R (.mg R (.op (O.len sl409 (Gu.mk R R) R R) R (.bg R (.pF R ((v (decide (c.1>(s.length:Int))) (orF hc).symm).s0 R))))))
def y3K(p0:Int×Int×Int×List Bool×(List (Int×Int)))(a:Int):Option (Int⊕(Unit⊕Int)):=
 if decide (a<(p0.2.2.2.2.length:Int)) then
  (y2H p0 a).bind fun b=>
  if(b != 0) then
   some (.inr (.inr (b)))
  else
   some (.inl (W (a+1)))
 else
  some (.inr (.inl ()))
def y5e(p0:Int×Int×Int×List Bool×(List (Int×Int))):Option Int:=
 (y4V p0).bind fun a=>
 if(a != 0) then
  some a
 else
  (iter (y3K p0) 0).bind fun b=>
  match b with
  | .inl d=>
   some 0
  | .inr (c)=>
   some c
theorem y8K{p0:Int×Int×Int×List Bool×(List (Int×Int))}{r:Int}(hm:y5e p0=some r):
    F0 313 [.a (lx180 p0)] [] (.i r) []:=by
  refine Fw.mk2 func313 ntmps313 R (fun C=>?_) R;refine .sr (.bo 0 R (.an R (.seq (.sr (.lg (lx180 p0) ag180 R (.B R) R (bS hm fun o j hm=> .c0 (yac j) cf324 R (.an R (.sv R (.bi R (.ns ?_))))))))));refine .cc hm R (fun hm=>?_) fun hm=>?_
  ·refine .sv R (.an R (.ret (.seqR ?_)));cases hm;exact .r0 results313 (.tmp R .nil) R R
  ·refine .sn (.seq (.sr (.fa yan R (.lb y7K R (.ln sl178 R (.mv R (.ns (.block (bS hm fun l h hm=>?_)))))))));refine .cutU (z:= .exit 0) (fun f=> .inl f=l) (fun (f:Unit)=>⟨[],[],0⟩) ?_ fun K8=>?_
   · rintro f rfl;dsimp only at hm;refine .blkE (.seqN (.sr (.an R (.ret ?_))));cases hm;exact .r0 results313 (.tmp R .nil) R R
   refine .cutU (z:= .ret) (fun b=> .inr (b)=l) (fun (b:Int)=>⟨[(2,.i b)],[],0⟩) ?_ fun g=>?_
   · rintro b rfl;dsimp only at hm;refine .blkR (.seqR ?_);cases hm;exact .r0 results313 (.tmp R .nil) R R
   refine .iter (fun (d:Int)=>⟨[(14,.i d),(13,.i p0.2.2.2.2.length),(1,.q 0 0)],[(0,.bx 180 (lx180 p0))],1⟩) h [] R ?_;intro d m hm k c;refine .sr (.bi R (.ns (.seq ?_)));refine .cc hm R (fun hm=>?_) fun hm=> .xx ((K8 _ (c _ (oj hm))).s0 R);refine .sn (.seq (.block (.sv R (.an R (.sr (.lg (lx180 p0) ag180 R (.B R) R (.mv R (bS hm fun n e hm=> .c0 (y8F e) cf325 R (.an R (.sv R (.bi R (.ns ?_))))))))))));exact .cc hm R (fun hm=> .sv R (.an R (.ret (.blkR (.seqR (.seqR ((g _ (c _ (oj hm))).s0 R))))))) fun hm=> .skip (.blkN (.seqN (.reg (.bi R (.mv R (.nil ((k _ (oj hm)).s0 R)))))))
def y5f(p0:Int×Int×Int×List Bool×(List (Int×Int))):Option ((List Bool×List Bool)×Int):=
 (y5e p0).bind fun a=>
 if(a != 0) then
  some ((([]:List Bool),([]:List Bool)),a)
 else
  (mkL p0.2.1 false).bind fun b=>
  (app ([]:List Bool) p0.2.2.2.1).bind fun c=>
  some ((b,c),0)
theorem ybp{p0:Int×Int×Int×List Bool×(List (Int×Int))}{r:(List Bool×List Bool)×Int}(hm:y5f p0=some r):
    F0 288 [.a (lx180 p0)] [] (.tp [.a [lH 0,lH 1],.i r.2]) [ROW rB 4 r.1.1,ROW rB 4 r.1.2]:=by
  refine Fw.mk2 func288 ntmps288 R (fun C=>?_) R;refine .sr (.bo 0 R (.al 1 zz259 R (.an R (.seq (.sr (.lg (lx180 p0) ag180 R (.B R) R (bS hm fun g b hm=> .c0 (y8K b) cf313 R (.an R (.sv R (.bi R (.ns ?_)))))))))));refine .cc hm R (fun hm=>?_) fun hm=>?_
  ·refine .sr (.bu [lN,lN] pl259 R (.mv R (.st ag259.sz R (.an R (.ret (.seqR (.nlb rB 4 1 0 R R (.nlb rB 4 1 1 R R ?_))))))));cases hm;exact .rr [2,3] results288 (.cell R R ag259 R (.tmp R .nil)) R I3 ⟨⟨_,R,I4⟩,⟨_,R,I4⟩,trivial⟩
  ·refine .sn (.seq ?_);refine .sub (τ:=⟨[(2,.q 1 0),(1,.q 0 0)],[(1,.bx 259 [lN,lN]),(0,.bx 180 (lx180 p0))],2⟩) ?_ [] R;refine bS hm fun e c hm=>bS hm fun f d hm=>?_;refine .drz 5 [(3,3)] [(2,[],[],[]),(2,[oT],[],[]),(2,[oT,oT],[],[]),(2,[],[],[]),(2,[],[],[]),(2,[oF,oF,oF,oF,oT],[],[]),(4,fA 3 (tT 3),[],[]),(5,tT 7,[],[(3,3)]),(5,tT 8,[],[(3,3)]),(5,tT 9,[],[(3,3)])] [_,_,_,_,_,_,_,_,_,_] ⟨[(3,.i 0),(2,.q 1 0)],[(1,.bx 259 [lH 2,lH 4]),(2,ROW rB 4 e),(4,ROW rB 4 f)],5⟩ ⟨O.faP yam Z R R,zB nag3 R,O.mk (z:=false) 2 underlying177 zr4 R R Z R R c R,O.b0O (r:=rB) 3 R bs177 R Z R,O.faP ygu Z R R,zB y2r R,O.ap 4 underlying177 el4 R R Z R R (.fr R) d R,O.bu (l:=[lH 2,lH 4]) pl259 R Z R R R,O.st ag259.sz Z R R R R R,O.as Z R R,trivial⟩ (by kernel_rfl) R ?_;refine .seqN (.ret ?_);cases hm;exact .rr [2,4] results288 (.cell R R ag259 R (.tmp R .nil)) R I3 ⟨⟨_,R,I4⟩,⟨_,R,I4⟩,trivial⟩
def y7d(p0:PbT):Option ((Option BenT)×Int):=
 (y6q p0).bind fun a=>
 if(a.2 != 0) then
  some (none,a.2)
 else
  (y5f a.1.1).bind fun b=>
  if(b.2 != 0) then
   some (none,b.2)
  else
   some ((some (p0,a.1,0,b.1)),0)
theorem ybK{p0:PbT}{r:(Option BenT)×Int}(hm:y7d p0=some r):
    F0 260 [.a (lx99 p0)] [] (.tp [.o (lH 0),.i r.2]) [OBX rE261 261 r.1]:=by
  refine Fw.mk2 func260 ntmps260 R (fun C=>?_) R;refine .sr (.bo 0 R (.sa R (.an R (.sr (.lg (lx99 p0) ag99 R (.B R) R (bS hm fun b e hm=> .cm (r':= .tp [.a [lI b.1.1.1,lI b.1.1.2.1,lI b.1.1.2.2.1,lH 1,lH 2,lH 3,lH 4,lI b.1.2.2.2],.i b.2]) [1,2,3,4] [(0,ROW rB 4 b.1.1.2.2.2.1),(1,ROW rE344 344 b.1.1.2.2.2.2),(2,rwI b.1.2.1),(3,rwI b.1.2.2.1)] (some 5) (y9m e) cf197 R ⟨⟨_,R,I4⟩,⟨_,R,I4⟩,⟨_,R,I4⟩,⟨_,R,I4⟩,trivial⟩ R (.mv R (.ex R (.ex R (.al 5 zz182 R (.st ag182.sz R (.an R (.seq (.sv R (.bi R (.ns ?_))))))))))))))));refine .cc hm R (fun hm=>?_) fun hm=>?_
  ·refine .sv R (.sa R (.an R (.ret (.seqR (.nlp rE261 261 2 R ?_)))));cases hm;exact .rr [6] results260 (.tmp R (.tmp R .nil)) R I3 ⟨⟨_,R,I4⟩,trivial⟩
  ·refine .sn (.sr (.fa ycK R (.lg [lI b.1.1.1,lI b.1.1.2.1,lI b.1.1.2.2.1,lH 1,lH 2] ag180 R (.B R) R (bS hm fun d f hm=> .op (O.caY (r':= .tp [.a [lH 6,lH 7],.i d.2]) [6,7] [(0,ROW rB 4 d.1.1),(1,ROW rB 4 d.1.2)] (some 8) (ybp f) cf288 R R Z R R ⟨⟨R,.rf,.rf,.rf,.hr R,.hr R,trivial⟩,trivial⟩ R ⟨.row flr4,.row flr4,trivial⟩ (fun _ _ _ _ h=>h) ⟨⟨_,R,I4⟩,⟨_,R,I4⟩,trivial⟩ I3 R) R (.mv R (.ex R (.ex R (.al 8 zz259 R (.st ag259.sz R (.an R (.seq (.sv R (.bi R (.ns ?_))))))))))))));refine .cc hm R (fun hm=>?_) fun hm=>?_
   ·refine .sv R (.sa R (.an R (.ret (.seqR (.nlp rE261 261 2 R ?_)))));cases hm;exact .rr [9] results260 (.tmp R (.tmp R .nil)) R I3 ⟨⟨_,R,I4⟩,trivial⟩
   ·refine .sn (.sr (.lg (lx99 p0) ag99 R (.B R) R (.lg [lI b.1.1.1,lI b.1.1.2.1,lI b.1.1.2.2.1,lH 1,lH 2,lH 3,lH 4,lI b.1.2.2.2] ag182 R (.B R) R (.lg [lH 6,lH 7] ag259 R (.B R) R (.bu [lF qI p0.1.1,lI p0.1.2.1,lF qI p0.1.2.2.1,lF qT p0.1.2.2.2,lF qI p0.2.1.1,lI p0.2.1.2.1,lF qI p0.2.1.2.2.1,lF qT p0.2.1.2.2.2,lF qI p0.2.2,lI b.1.1.1,lI b.1.1.2.1,lI b.1.1.2.2.1,lH 1,lH 2,lH 3,lH 4,lI b.1.2.2.2,lI 0,lH 6,lH 7] pl261 R (.bo 9 R (.sa R (.an R (.ret (.fz 1 [] [5,9] R R fR R R (.fz 2 [] [5,9] R R fR R R (.fz 3 [] [5,9] R R fR R R (.fz 4 [] [5,9] R R fR R R (.fz 6 [] [8,9] R R fR R R (.fz 7 [] [8,9] R R fR R R (.obx (r:=rE261) 9 R (.p (.p (.p .l (.p .k (.p .l .l))) (.p (.p .l (.p .k (.p .l .l))) .l)) (.p (.p (.p .k (.p .k (.p .k (.p .l .l)))) (.p .l (.p .l .k))) (.p .k (.p .l .l)))) (.cnt 2 R (.c .ph .n) R ?_)))))))))))))))));cases hm;exact .rr [9] results260 (.tmp R (.tmp R .nil)) R I3 ⟨⟨_,R,I4⟩,trivial⟩
def y1D(a:Bool):Option Bool:=
 some a
def y2s(a:Option BenT)(b:Int)(p0:Int×Int×Int):Option Bool:=
 a.bind fun c=>
 if(p0.1==c.2.2.1) then
  y1D (p0.2.1==b)
 else
  y1D false
theorem y9A{j:Option BenT}{f:Int}{p0:Int×Int×Int}{r:Bool}(hm:y2s j f p0=some r):
  F0 316 [.a [lI p0.1,lI p0.2.1,lI p0.2.2],.o (lQ 333 [lK rE261 261 j] 0),.o (lQ 3 [lI f] 0)] [] (.b r) []:=by
 refine Fw.mk2 func316 ntmps316 R (fun C=>?_) R;refine .sr (.bo 0 R (.an R ?_));refine .join1 (fun (e:Bool)=>y1D e=some r) (fun e=>⟨[(4,.b e)],[],0⟩) ?_ ?_
 ·intro e hm;refine .ret ?_;cases hm;exact .r0 results316 (.tmp R .nil) R R
 ·intro g;refine bS hm fun k i hm=> .cnt 1 R (.c (.q (.c (.pd i lv261) .n)) .n) R ?_;refine .sub (τ:=⟨[(3,.q 0 0),(1,.o (lQ 333 [lQ 261 (lx261 k) 0] 0)),(2,.o (lQ 3 [lI f] 0))],[(0,.bx 112 [lI p0.1,lI p0.2.1,lI p0.2.2])],1⟩) ?_ [] R;refine .drP 7 [(1,[]),(1,[oT]),(1,[]),(1,[oF,oF,oT]),(1,[oF,oF,oT,oT]),(1,fA 2 (tT 3)),(1,tT 6)] [_,_,_,_,_,_,_] ⟨O.faP y1A Z R R,zB nag3 R,O.ld y4w Z R .Q R R,O.nc .Q Z R R,O.faQ ycL Z R R,O.ld nag3 Z R .Q R R,O.bi Z R R R R,trivial⟩ fun h=>?_;rcases ifS hm with ⟨d,hm⟩|⟨d,hm⟩
  ·skip
   exact .drF h [(1,tT 7),(1,tT 8),(1,tT 9),(1,tT 8),(1,tT 11),(1,tT 12),(1,tT 13)] [_,_,_,_,_,_,_] ⟨[(4,.b (p0.2.1==f))],[],1⟩ ⟨O.kn (zM R) d,O.faP y3F (Gu.mk R R) R R,O.ld nag3 (Gu.mk R R) R (.B R) R R,O.ld nag3 (Gu.mk R R) R .Q R R,O.bi (Gu.mk R R) R R R R,O.pkT Z R R R R,O.as Z R R,trivial⟩ (by kernel_rfl) R ((g _ hm).s0 R)
  ·skip
   exact .drF h [(1,tT 7),(1,tT 8),(1,tT 9),(1,tT 8),(1,tT 11),(1,tT 12),(1,tT 13)] [_,_,_,_,_,_,_] ⟨[(4,.b false)],[],1⟩ ⟨O.kn (zM R) d,zK R,zK R,zK R,zK R,O.pkF Z R R R R,O.as Z R R,trivial⟩ (by kernel_rfl) R ((g _ hm).s0 R)
def y1v(p0:List (Int×Int×Int))(p1:(Int×Int×Int)→Option Bool)(a:Int):Option (Int⊕(Unit⊕Int)):=
 if decide (a<(p0.length:Int)) then
  (idx p0 a).bind fun c=>
  (p1 c).bind fun b=>
  if b then
   some (.inr (.inr (a)))
  else
   some (.inl (W (a+1)))
 else
  some (.inr (.inl ()))
def yE(p0:List (Int×Int×Int))(p1:(Int×Int×Int)→Option Bool):Option Int:=
 (iter (y1v p0 p1) 0).bind fun a=>
 match a with
 | .inl c=>
  some (-1)
 | .inr (b)=>
  some b
theorem y4q{p0:List (Int×Int×Int)}{p1:(Int×Int×Int)→Option Bool}{r:Int}(hm:yE p0 p1=some r):
  F0 203 [.f qT p0,.o (lW prog (fun (x:(Int×Int×Int))=> [.a [lI x.1,lI x.2.1,lI x.2.2]]) (fun (r:Bool)=> .b r) p1)] [] (.i r) []:=by
 refine Fw.mk2 func203 ntmps203 R (fun C=>?_) R;refine .sr (.an R (.seq (.sv R (.ln sl27 R (.mv R (.ns (.block (bS hm fun p m hm=>?_))))))));refine .cutU (z:= .exit 0) (fun k=> .inl k=p) (fun (k:Unit)=>⟨[],[],0⟩) ?_ fun K8=>?_
 ·rintro k rfl;dsimp only at hm;refine .blkE (.seqN (.sr (.an R (.ret ?_))));cases hm;exact .r0 results203 (.tmp R .nil) R R
 refine .cutU (z:= .ret) (fun d=> .inr (d)=p) (fun (d:Int)=>⟨[(4,.i d)],[],0⟩) ?_ fun l=>?_
 ·rintro d rfl;dsimp only at hm;refine .blkR (.seqR ?_);cases hm;exact .r0 results203 (.tmp R .nil) R R
 refine .iter (fun (g:Int)=>⟨[(8,.i g),(7,.i p0.length),(0,.f qT p0),(1,.o (lW prog (fun (x:(Int×Int×Int))=> [.a [lI x.1,lI x.2.1,lI x.2.2]]) (fun (r:Bool)=> .b r) p1))],[],0⟩) m [] R ?_;intro g q hm n e;refine .sr (.bi R (.ns (.seq ?_)));refine .cc hm R (fun hm=>?_) fun hm=> .xx ((K8 _ (e _ (oj hm))).s0 R);refine .sn (.seq (.block (.sv R (.an R (.sv R (.mv R (.mv R (bS hm fun c j hm=> .ix sl27 j R (.lg [lI c.1,lI c.2.1,lI c.2.2] ag112 R (.E lv112) R (bS hm fun s h hm=>?_))))))))));refine .op (O.fv (y:=c) R R R Z R h R R) R ?_;exact .ns (.cc hm R (fun hm=> .sv R (.an R (.ret (.blkR (.seqR (.seqR ((l _ (e _ (oj hm))).s0 R))))))) fun hm=> .skip (.blkN (.seqN (.reg (.bi R (.mv R (.nil ((n _ (oj hm)).s0 R))))))))
def y1N(p0:BenT)(p1:Int):Option Int:=
 (yE p0.1.1.2.2.2 (y2s (some p0) p1)).bind fun a=>
 if decide (a<0) then
  some (-1)
 else
  (some p0).bind fun b=>
  (idx b.1.1.2.2.2 a).bind fun c=>
  some c.2.2
theorem y6m{p0:BenT}{r:Int}(hm:y1N p0 p1=some r):
    F0 297 [.o (lQ 261 (lx261 p0) 0),.i p1] [] (.i r) []:=by
  refine Fw.mk2 func297 ntmps297 R (fun C=>?_) R;refine .sr (.bo 0 R (.bo 1 R (.an R (.sr (.lb y4w R (.op (O.nc .Q Z R R) R (.fq y8l R (.fq y6I R (.fq yF R (.lq nag27 R (.fz 0 [2] [] R R fB R R (.fz 1 [3] [] R R fB R R (.cnt 2 R (.c (.q (.c (.pk (r:=rE261) (.p (.p (.p .l (.p .k (.p .l .l))) (.p (.p .l (.p .k (.p .l .l))) .l)) (.p (.p (.p .k (.p .k (.p .k (.p .l .l)))) (.p .l (.p .l .k))) (.p .k (.p .l .l))))) .n)) .n) R (.op (O.mf (args:=(fun (x:(Int×Int×Int))=> [.a [lI x.1,lI x.2.1,lI x.2.2]])) (res:=(fun (r:Bool)=> .b r)) (m:=(y2s (some p0) p1)) cf316 (fun x r h=>y9A h) (fun _=>R) R Z R R) R (bS hm fun g d hm=> .c0 (y4q d) cf203 R (.an R (.seq (.sv R (.bi R (.ns ?_))))))))))))))))))));refine .cc hm R (fun hm=>?_) fun hm=>?_
  ·refine .sr (.an R (.ret (.seqR ?_)));cases hm;exact .r0 results297 (.tmp R .nil) R R
  ·refine .sn (.sr (.lq y4w R (bS hm fun j e hm=> .cnt 16 R (.c (.pd e lv261) .n) R (.op (O.nc .Q Z R R) R (.fq y8l R (.fq y6I R (.fq yF R (.lq nag27 R (.mv R (bS hm fun s f hm=> .ix sl27 f R (.fe y3l R (.le nag3 lv112 R (.an R (.ret ?_))))))))))))));cases hm;exact .r0 results297 (.tmp R .nil) R R
def y2I(p0:BenT)(b:Int)(a:Int):Option (Bool×BenT):=
 some (decide (b≥0),p0.1,p0.2.1,a,p0.2.2.2)
def y2y(p0:BenT)(p1:Int):Option (Bool×BenT):=
 (y1N p0 p1).bind fun a=>
 if decide (a≥0) then
  y2I p0 a a
 else
  y2I p0 a p0.2.2.1
theorem y6L{p0:BenT}{r:Bool×BenT}(hm:y2y p0 p1=some r):
  Fw prog 263 ⟨1,[0]⟩ [.o (lP 0 0),.i p1] [.bx 261 (lx261 p0)] (.b r.1) [.bx 261 (lx261 r.2)]:=by
 refine Fw.mk2 func263 ntmps263 R (fun C=>?_) R;refine .sr (.an R (.sv R (.mv R (bS hm fun e d hm=> .op (O.caZ (y6m d) cf297 R R Z R ⟨⟨R,(.q R LnL.rf),trivial⟩,⟨R,LnL.rf⟩,trivial⟩ (fun _ _ _ _ _ h=>h) R) R (.an R ?_)))));refine .join1 (fun (a:Int)=>y2I p0 e a=some r) (fun a=>⟨[(5,.i e)],[(0,.bx 261 [lF qI p0.1.1.1,lI p0.1.1.2.1,lF qI p0.1.1.2.2.1,lF qT p0.1.1.2.2.2,lF qI p0.1.2.1.1,lI p0.1.2.1.2.1,lF qI p0.1.2.1.2.2.1,lF qT p0.1.2.1.2.2.2,lF qI p0.1.2.2,lI p0.2.1.1.1,lI p0.2.1.1.2.1,lI p0.2.1.1.2.2.1,lF rB p0.2.1.1.2.2.2.1,lF rE344 p0.2.1.1.2.2.2.2,lF qI p0.2.1.2.1,lF qI p0.2.1.2.2.1,lI p0.2.1.2.2.2,lI a,lF rB p0.2.2.2.1,lF rB p0.2.2.2.2])],1⟩) ?_ ?_
 ·intro a hm;refine .sv R (.bi R (.an R (.ret ?_)));cases hm;exact .rr [0] results263 (.tmp R .nil) R I3 ⟨⟨_,R,I4⟩,trivial⟩
 ·intro c;refine .sv R (.bi R (.ns ?_));exact .cc hm R (fun hm=> .reg (.mv R (.mv R (.op (O.nc .B Z R R) R (.fa ycL R (.st nag3.sz R (.nil ((c _ hm).s0 R)))))))) fun hm=> .skip ((c _ hm).s0 R)
def y7C(p0:LI)(p1:LI):Option Int:=
 (y1H p0 32).bind fun a=>
 if(a != 0) then
  some a
 else
  (yV p0 p1).bind fun b=>
  if(!b) then
   some 9
  else
   some 0
theorem yct{p0:LI}{p1:LI}{r:Int}(hm:y7C p0 p1=some r):
    F0 340 [.f qI p0,.f qI p1] [] (.i r) []:=by
  refine Fw.mk2 func340 ntmps340 R (fun C=>?_) R;refine .sr (.an R (.seq (.sv R (bS hm fun c a hm=> .c0 (y4e a) cf111 R (.an R (.sv R (.bi R (.ns ?_))))))));refine .cc hm R (fun hm=>?_) fun hm=>?_
  ·refine .sv R (.an R (.ret (.seqR ?_)));cases hm;exact .r0 results340 (.tmp R .nil) R R
  ·refine .sn (.seq (.sv R (.mv R (bS hm fun d b hm=> .c0 (y7R b) cf105 R (.no R (.ns ?_))))));refine .cc hm R (fun hm=>?_) fun hm=>?_
   ·refine .sr (.an R (.ret (.seqR ?_)));cases hm;exact .r0 results340 (.tmp R .nil) R R
   ·refine .sn (.sr (.an R (.ret ?_)));cases hm;exact .r0 results340 (.tmp R .nil) R R
def y4C(p0:CodT)(p1:LI)(a:Int×List Bool):Option ((Int×List Bool)⊕(List Bool)):=
 if decide (a.1<(p0.2.1.length:Int)) then
  (idx p0.2.1 a.1).bind fun c=>
  (yq p1 c).bind fun b=>
  (idx a.2 a.1).bind fun e=>
  (upd a.2 a.1 b).bind fun d=>
  some (.inl (W (a.1+1),d))
 else
  some (.inr a.2)
def y7o(p0:CodT)(p1:LI):Option (List Bool×Int):=
 (y7C p1 p0.2.1).bind fun b=>
 if(b != 0) then
  some (([]:List Bool),b)
 else
  (mkL (p0.2.1.length:Int) false).bind fun c=>
  (iter (y4C p0 p1) (0,c)).bind fun a=>
  some (a,0)
theorem ycb{p0:CodT}{p1:LI}{r:List Bool×Int}(hm:y7o p0 p1=some r):
    F0 326 [.a (lx182 p0),.f qI p1] [] (.tp [.h 0,.i r.2]) [ROW rB 4 r.1]:=by
  refine Fw.mk2 func326 ntmps326 R (fun C=>?_) R;refine .sr (.bo 0 R (.sa R (.an R (.seq (.sv R (.fa yeh R (.lb nag26 R (bS hm fun x p hm=> .c0 (yct p) cf340 R (.an R (.sv R (.bi R (.ns ?_))))))))))));refine .cc hm R (fun hm=>?_) fun hm=>?_
  ·refine .sv R (.sa R (.an R (.ret (.seqR (.nlg rB 4 4 0 R R ?_)))));cases hm;exact .rr [1] results326 (.tmp R (.tmp R .nil)) R I3 ⟨⟨_,R,I4⟩,trivial⟩
  ·refine .sn (.sr (.fa yeh R (.lb nag26 R (.ln sl26 R (bS hm fun y q hm=> .op (O.mk (z:=false) 1 underlying177 zr4 R R Z R R q R) R (.an R (.seq (.sr (.fa yeh R (.lb nag26 R (.ln sl26 R (.mv R (.ns (.block (bS hm fun e g hm=>?_)))))))))))))));refine .cut1 (z:= .exit 0) e (fun (e:List Bool)=>⟨[(7,.h 0)],[(0,ROW rB 4 e)],1⟩) ?_ fun o=>?_
   · skip
     refine .blkE (.seqN (.sv R (.sa R (.an R (.ret ?_)))));cases hm;exact .rr [0] results326 (.tmp R (.tmp R .nil)) R I3 ⟨⟨_,R,I4⟩,trivial⟩
   refine .iter (fun (c:Int×List Bool)=>⟨[(24,.i c.1),(23,.i p0.2.1.length),(22,.f qI p0.2.1),(7,.h 0),(1,.f qI p1)],[(0,ROW rB 4 c.2)],1⟩) g [(0,1)] R ?_;intro c t hm n m;refine .sr (.bi R (.ns (.seq ?_)));exact .cc hm R (fun hm=> .sn (.seq (.block (.sv R (bS hm fun u k hm=> .ix sl26 k R (.le nag3 lv3 R (.sa R (.an R (.reg (.mv R (.mv R (.mv R (.mv R (bS hm fun s j hm=> .c0 (yC j) cf69 R (bS hm fun v d hm=> .op (O.ir sl177 Z R R R d R) R (bS hm fun w l hm=> .op (O.su (z:=s) nag4.sz Z R R d l R R R lv4 R .b) R (.nil (.blkN (.seqN (.reg (.bi R (.mv R (.nil ((n _ (oj hm)).s0 R)))))))))))))))))))))))) fun hm=> .xx ((o _ (m _ (oj hm))).s0 R)
def y5J(p0:List Bool)(p1:Int):Option (List Bool):=if p0= []∧0≤p1∧p1≤100000 then some [] else none
theorem Row.as_at{w:World}{B k':Nat}{tag tag':Nat→Nat}{k:Nat}{t:TypeId}{sz:Nat}{v:Value}{n:Nat}{cs:List Value}(h:Row w B tag k t sz v n cs)(ht:∀b,B≤b→b<w.heap.size→tag' b=k'):Row w 0 tag' k' t sz v n cs:=
 ⟨h.1,h.2.imp id fun⟨b,off,cap,cur,h1,h2,h3⟩=>⟨b,off,cap,cur,h1,⟨h2.heap,ht b h2.base h2.lt,yZl _⟩,h3⟩⟩
theorem ginfo_bool :(prog.info? 4).map (fun i=>(i.zero,i.size,i.bytes))=some (some (.bool false),1,1):=by kernel_rfl
theorem yj6(n:Nat)(w:World)(hn:n≤100000):
  Calls prog 362 #[.slice none 0 0,.int .i64 n] w (Ret w fun u w'=>Row w' w.heap.size (fun _=>1) 1 4 1 u 0 []):=by
 obtain⟨i0,hi,hz0,hz1,hz2⟩:=info_parts ginfo_bool
 go_enter func362,ntmps362
 by_cases h0:n=0
 ·subst h0
  go_wp2
  go_ret
  exact⟨_,rfl,Row.nil _ _ _ _ _ _,Below.refl _ _⟩
 ·have h1:(0:Int)<(n:Int):=by omega
  have hge:=grownCap_ge w n 0 4;have hcm:=grownCap_le_maxLen w n 0 4 (by unfold maxLen;omega);have hr:=fun ty=>Lib.run_append_nil_zeros (P:=prog) w 177 3 ty 4 i0 (.bool false) .i64 .i64 underlying177 underlying3 hi hz0 n (by omega) (by rw [hz1];decide) (by omega) (by rw [hz2];omega);have hsz:(Builtin.zeroCells (Value.bool false).cells n++Builtin.zeroCells (Value.bool false).cells (grownCap w n 0 4-n)).size=grownCap w n 0 4:=by
   rw [Array.size_append,size_zeroCells,size_zeroCells];simp [Value.cells];omega
  generalize Builtin.zeroCells (Value.bool false).cells n++Builtin.zeroCells (Value.bool false).cells (grownCap w n 0 4-n)=cs at *;generalize grownCap w n 0 4=cap at *
  go_wp2_with (at_builtin;refine Lib.wpList_append_run _ rfl _ _ 177 3 rfl _ _ rfl rfl _ _ (hr _) ?_)
  go_ret
  refine⟨_,rfl,⟨by simp,.inr ⟨w.heap.size,0,cap,cs,rfl,⟨heap_alloc_new _ _,rfl,yNr _⟩,yZl _,hcm,by omega,by simp⟩⟩,(by (repeat (first | with_reducible exact Below.refl _ _|with_reducible exact Below.refl _ _|(with_reducible refine yge ?_ Below.refl _ _ (by first | omega|(simp;done)|(simp;omega)|(simp at *;omega)))|(with_reducible refine Below.alloc ?_ (by first | omega|(simp;done)|(simp;omega)|(simp at *;omega)) _)|(with_reducible refine Below.drew ?_)|(with_reducible refine Below.setCell ?_ (by first | omega|(simp;done)|(simp;omega)|(simp at *;omega)) _))))⟩
theorem ybL{s:Sig}{p0:List Bool}{u0:Nat}{r:List Bool}(hm:y5J p0 p1=some r):
  Calls prog 362 #[.slice none 0 0,.int .i64 p1] s.w (RetS No s fun v s'=>∃(a1:Option Addr) (c1:Nat),v= .slice a1 r.length c1∧RowT rB s' u0 4 a1 c1 r):=by
 unfold y5J at hm;split at hm
 ·rename_i hc;cases hm;obtain⟨_,h1,h2⟩:=hc;obtain⟨n,rfl⟩:∃n:Nat,p1=n:=⟨p1.toNat,by omega⟩;have hn:n≤100000:=by omega
  have hg:Calls prog 362 #[.slice none 0 0,.int .i64 n] s.w (Ret s.w fun u w'=>Row w' s.w.heap.size (fun _=>1) 1 4 1 u 0 []):=yj6 n s.w hn;refine hg.mono fun en w' hh=>?_;obtain⟨u,rfl,hrow,hbel⟩:=hh;obtain⟨a1,c1,rfl⟩:=hrow.val;refine⟨_,⟨w',fun b=>if b<s.w.heap.size then s.tag b else u0⟩,rfl,rfl,Below.mv hbel (fun b hb=>iP hb),a1,c1,rfl,[],hrow.as_at fun b h3 h4=>iN (by omega),rfl⟩
 ·cases hm
def y6r(p0:LI)(p1:Int):Option LI:=if p0= []∧0≤p1∧p1≤100000 then some [] else none
theorem ginfo_int :(prog.info? 3).map (fun i=>(i.zero,i.size,i.bytes))=some (some (.int .i64 0),1,8):=by kernel_rfl
theorem yhW(n:Nat)(w:World)(hn:n≤100000):
  Calls prog 296 #[.slice none 0 0,.int .i64 n] w (Ret w fun u w'=>Row w' w.heap.size (fun _=>1) 1 3 1 u 0 []):=by
 obtain⟨i0,hi,hz0,hz1,hz2⟩:=info_parts ginfo_int
 go_enter func296,ntmps296
 by_cases h0:n=0
 ·subst h0
  go_wp2
  go_ret
  exact⟨_,rfl,Row.nil _ _ _ _ _ _,Below.refl _ _⟩
 ·have h1:(0:Int)<(n:Int):=by omega
  have hge:=grownCap_ge w n 0 3;have hcm:=grownCap_le_maxLen w n 0 3 (by unfold maxLen;omega);have hr:=fun ty=>Lib.run_append_nil_zeros (P:=prog) w 26 3 ty 3 i0 (.int .i64 0) .i64 .i64 underlying26 underlying3 hi hz0 n (by omega) (by rw [hz1];decide) (by omega) (by rw [hz2];omega);have hsz:(Builtin.zeroCells (Value.int .i64 0).cells n++Builtin.zeroCells (Value.int .i64 0).cells (grownCap w n 0 3-n)).size=grownCap w n 0 3:=by
   rw [Array.size_append,size_zeroCells,size_zeroCells];simp [Value.cells];omega
  generalize Builtin.zeroCells (Value.int .i64 0).cells n++Builtin.zeroCells (Value.int .i64 0).cells (grownCap w n 0 3-n)=cs at *;generalize grownCap w n 0 3=cap at *
  go_wp2_with (at_builtin;refine Lib.wpList_append_run _ rfl _ _ 26 3 rfl _ _ rfl rfl _ _ (hr _) ?_)
  go_ret
  refine⟨_,rfl,⟨by simp,.inr ⟨w.heap.size,0,cap,cs,rfl,⟨heap_alloc_new _ _,rfl,yNr _⟩,yZl _,hcm,by omega,by simp⟩⟩,(by (repeat (first | with_reducible exact Below.refl _ _|with_reducible exact Below.refl _ _|(with_reducible refine yge ?_ Below.refl _ _ (by first | omega|(simp;done)|(simp;omega)|(simp at *;omega)))|(with_reducible refine Below.alloc ?_ (by first | omega|(simp;done)|(simp;omega)|(simp at *;omega)) _)|(with_reducible refine Below.drew ?_)|(with_reducible refine Below.setCell ?_ (by first | omega|(simp;done)|(simp;omega)|(simp at *;omega)) _))))⟩
theorem ycc{s:Sig}{p0:LI}{u0:Nat}{r:LI}(hm:y6r p0 p1=some r):
  Calls prog 296 #[.slice none 0 0,.int .i64 p1] s.w (RetS No s fun v s'=>∃(a1:Option Addr) (c1:Nat),v= .slice a1 r.length c1∧RowT (rK .i64) s' u0 3 a1 c1 r):=by
 unfold y6r at hm;split at hm
 ·rename_i hc;cases hm;obtain⟨_,h1,h2⟩:=hc;obtain⟨n,rfl⟩:∃n:Nat,p1=n:=⟨p1.toNat,by omega⟩;have hn:n≤100000:=by omega
  have hg:Calls prog 296 #[.slice none 0 0,.int .i64 n] s.w (Ret s.w fun u w'=>Row w' s.w.heap.size (fun _=>1) 1 3 1 u 0 []):=yhW n s.w hn;refine hg.mono fun en w' hh=>?_;obtain⟨u,rfl,hrow,hbel⟩:=hh;obtain⟨a1,c1,rfl⟩:=hrow.val;refine⟨_,⟨w',fun b=>if b<s.w.heap.size then s.tag b else u0⟩,rfl,rfl,Below.mv hbel (fun b hb=>iP hb),a1,c1,rfl,[],hrow.as_at fun b h3 h4=>iN (by omega),rfl⟩
 ·cases hm
theorem ybM{p0:List Bool}{r:List Bool}(hm:y5J p0 p1=some r):Fw prog 362 ⟨0,[]⟩ [.o (lV (.slice none 0 0)),.i p1] [] (.h 0) [ROW rB 4 r]:=
 ⟨fun ts β s vs ht _ _ _ ⟨v,us,h,⟨v2,us2,h2,hu,e3⟩,e2⟩ _=>by
  have hu:us2= []:=hu;have h:v= .slice none 0 0:=h.1;have h2:v2= .int .i64 p1:=h2.1;subst hu e3 e2 h h2;obtain⟨t,rfl⟩:∃t,ts= [t]:=by
   match ts,ht with
   | [t],_=>exact⟨t,rfl⟩
  exact Calls.mono (ybL (u0:=t) hm) fun en w' ⟨v,s',e1,e2,m,a,c,hv,hr⟩=>⟨v,s',e1,e2,m.no,fun _=>v,fun i hi=>(by cases hi),⟨rfl,by rw [hv];rfl⟩,fun i o ho=>by
   match i,ho with
   | 0,ho=>cases ho;exact⟨a,c,hv,hr⟩⟩⟩
theorem ycd{p0:LI}{r:LI}(hm:y6r p0 p1=some r):Fw prog 296 ⟨0,[]⟩ [.o (lV (.slice none 0 0)),.i p1] [] (.h 0) [ROW qI 3 r]:=
 ⟨fun ts β s vs ht _ _ _ ⟨v,us,h,⟨v2,us2,h2,hu,e3⟩,e2⟩ _=>by
  have hu:us2= []:=hu;have h:v= .slice none 0 0:=h.1;have h2:v2= .int .i64 p1:=h2.1;subst hu e3 e2 h h2;obtain⟨t,rfl⟩:∃t,ts= [t]:=by
   match ts,ht with
   | [t],_=>exact⟨t,rfl⟩
  exact Calls.mono (ycc (u0:=t) hm) fun en w' ⟨v,s',e1,e2,m,a,c,hv,hr⟩=>⟨v,s',e1,e2,m.no,fun _=>v,fun i hi=>(by cases hi),⟨rfl,by rw [hv];rfl⟩,fun i o ho=>by
   match i,ho with
   | 0,ho=>cases ho;exact⟨a,c,hv,hr⟩⟩⟩
theorem yce{p0:LI}{r:LI}(hm:y2A p0=some r):Fw prog 60 ⟨1,[0]⟩ [.h 0] [ROW qI 3 p0] (.tp []) [ROW qI 3 r]:=
 ⟨fun ts β s vs ht _ _ hp ⟨v,us,h,hu,e2⟩ ho=>by
  have hu:us= []:=hu;subst hu;subst e2;obtain⟨t,rfl⟩:∃t,ts= [t]:=by
   match ts,ht with
   | [t],_=>exact⟨t,rfl⟩
  obtain⟨a,c,e,h2⟩:=ho 0 _ rfl;have hv:v= .slice a p0.length c:=h.1.trans e;subst hv;have hl:r.length=p0.length:=by
   unfold y2A at hm;split at hm
   ·rw [←ySi hm];exact(y6H _).length_eq
   ·cases hm
  exact Calls.mono (y9l (hp t (.head _)) h2 hm) fun en w' ⟨v,s',e1,e2,m,hv,hr⟩=>⟨v,s',e1,e2,m.weak fun t' ht'=>⟨0,.head _,by rw [show t'=t from ht'];rfl⟩,β,fun _ _=>rfl,⟨[],rfl,hv⟩,fun i o ho=>by
   match i,ho with
   | 0,ho=>cases ho;exact⟨a,c,by rw [e,hl],hr⟩⟩⟩
def y2k(p0:List (List Bool))(a:Int×List Bool):Option ((Int×List Bool)⊕(List Bool)):=
 if decide (a.1<(p0.length:Int)) then
  (idx p0 a.1).bind fun b=>
  (app a.2 b).bind fun c=>
  some (.inl (W (a.1+1),c))
 else
  some (.inr a.2)
def y6W(b:Int×Int)(a:Int):Option ((Int×Int)⊕Int):=
 some (.inl (W (b.1+1),a))
def y2l(p0:List (List Bool))(a:Int×Int):Option ((Int×Int)⊕Int):=
 if decide (a.1<(p0.length:Int)) then
  (idx p0 a.1).bind fun b=>
  if decide ((W (a.2+(b.length:Int)))<0) then
   none
  else
   y6W a (W (a.2+(b.length:Int)))
 else
  some (.inr a.2)
def y6w(p0:List (List Bool)):Option (List Bool):=
 (iter (y2l p0) (0,0)).bind fun c=>
 (y5J ([]:List Bool) c).bind fun b=>
 (iter (y2k p0) (0,b)).bind fun a=>
 some a
theorem yaX{p0:List (List Bool)}{r:List Bool}(hm:y6w p0=some r):
  F0 360 [.f (rL rB) p0] [] (.h 0) [ROW rB 4 r]:=by
 refine Fw.mk2 func360 ntmps360 R (fun C=>?_) R;refine .sr (.an R (.sr (.an R (.seq (.sv R (.ln sl425 R (.mv R (.ns (.block (bS hm fun p u hm=>?_))))))))));refine .cut1 (z:= .exit 0) p (fun (p:Int)=>⟨[(3,.i p),(0,.f (rL rB) p0)],[],0⟩) ?_ fun s=>?_
 ·skip
  refine .blkE (.seqN (.sv R (bS hm fun x j hm=> .cm (r':= .h 0) [0] [(0,ROW rB 4 x)] (some 1) (ybM j) cf362 R ⟨⟨_,R,I4⟩,trivial⟩ R (.an R (.seq (.sv R (.ln sl425 R (.mv R (.ns (.block (bS hm fun d g hm=>?_)))))))))));refine .cut1 (z:= .exit 2) d (fun (d:List Bool)=>⟨[(6,.h 0)],[(0,ROW rB 4 d)],1⟩) ?_ fun t=>?_
  ·skip
   refine .blkE (.seqN (.sv R (.an R (.ret ?_))));cases hm;exact .rr [0] results360 (.tmp R .nil) R I3 ⟨⟨_,R,I4⟩,trivial⟩
  refine .iter (fun (b:Int×List Bool)=>⟨[(27,.i b.1),(26,.i p0.length),(25,.f (rL rB) p0),(6,.h 0)],[(0,ROW rB 4 b.2)],1⟩) g [] R ?_;intro b y hm o n;refine .sr (.bi R (.ns (.seq ?_)));exact .cc hm R (fun hm=> .sn (.seq (.block (.sr (bS hm fun B k hm=> .ix sl425 k R (.le y2r lv177 R (.an R (.reg (.mv R (.mv R (bS hm fun D l hm=> .ap 1 underlying177 el4 R R (.fr R) l (.sa R (.nil (.blkN (.seqN (.reg (.bi R (.mv R (.nil ((o _ (oj hm)).sub [(0,1)] R)))))))))))))))))))) fun hm=> .xx ((t _ (n _ (oj hm))).s0 R)
 refine .iter (fun (a:Int×Int)=>⟨[(11,.i a.1),(10,.i p0.length),(9,.f (rL rB) p0),(3,.i a.2),(0,.f (rL rB) p0)],[],0⟩) u [] R ?_;intro a q hm w v;refine .sr (.bi R (.ns (.seq ?_)));refine .cc hm R (fun hm=>?_) fun hm=> .xx ((s _ (v _ (oj hm))).s0 R);refine .sn ?_;refine .join1 (fun (c:Int)=>y6W a c=some q) (fun c=>⟨[(3,.i c),(11,.i a.1),(10,.i p0.length),(9,.f (rL rB) p0),(0,.f (rL rB) p0)],[],0⟩) ?_ ?_
 ·intro c hm;exact .reg (.bi R (.mv R (.nil ((w _ (oj hm)).s0 R))))
 ·intro e;refine .block (.sr (bS hm fun E m hm=> .ix sl425 m R (.le y2r lv177 R (.an R (.sv R (.mv R (.ln sl177 R (.bi R (.an R (.sv R (.bi R (.ns ?_))))))))))));refine .cc hm R (fun hm=>?_) fun hm=> .skip (.blkN ((e _ hm).s0 R));refine .reg ?_;cases hm
def y6R(p0:Int×Int×Int×List Bool×(List (Int×Int)))(p1:List Bool×List Bool)(p2:List Bool):Option (List Bool×Int):=
 (y5e p0).bind fun a=>
 if(a != 0) then
  some (([]:List Bool),a)
 else
  if((((p2.length:Int) != p0.1)||((p1.1.length:Int) != p0.2.1))||((p1.2.length:Int) != p0.2.2.1)) then
   some (([]:List Bool),4)
  else
   (y6w ([p2,p1.1,p1.2]:List (List Bool))).bind fun b=>
   some (b,0)
theorem ybq{p0:Int×Int×Int×List Bool×(List (Int×Int))}{p1:List Bool×List Bool}{p2:List Bool}{r:List Bool×Int}(hm:y6R p0 p1 p2=some r):
    F0 341 [.a (lx180 p0),.a [lF rB p1.1,lF rB p1.2],.f rB p2] [] (.tp [.h 0,.i r.2]) [ROW rB 4 r.1]:=by
  refine Fw.mk2 func341 ntmps341 R (fun C=>?_) R;refine .sr (.bo 0 R (.bo 1 R (.sa R (.an R (.seq (.sr (.lg (lx180 p0) ag180 R (.B R) R (bS hm fun s m hm=> .c0 (y8K m) cf313 R (.an R (.sv R (.bi R (.ns ?_))))))))))));refine .cc hm R (fun hm=>?_) fun hm=>?_
  ·refine .sv R (.sa R (.an R (.ret (.seqR (.nlg rB 4 6 0 R R ?_)))));cases hm;exact .rr [2] results341 (.tmp R (.tmp R .nil)) R I3 ⟨⟨_,R,I4⟩,trivial⟩
  ·refine .sn (.seq (.sv R (.ln sl177 R (.fa yal R (.lb nag3 R (.bi R (.mv R ?_)))))));refine .cut 7 (fun (e:Bool)=>(((p2.length:Int) != p0.1)||((p1.1.length:Int) != p0.2.1))=e) (fun e=>⟨[(26,.b e),(4,.q 1 0),(3,.q 0 0),(2,.f rB p2)],[(1,.bx 259 [lF rB p1.1,lF rB p1.2]),(0,.bx 180 (lx180 p0))],2⟩) ?_ ?_
   · rintro _ rfl;refine .mv R ?_;refine .cut 7 (fun (g:Bool)=>((((p2.length:Int) != p0.1)||((p1.1.length:Int) != p0.2.1))||((p1.2.length:Int) != p0.2.2.1))=g) (fun g=>⟨[(34,.b g),(4,.q 1 0),(2,.f rB p2)],[(1,.bx 259 [lF rB p1.1,lF rB p1.2])],2⟩) ?_ ?_
     · rintro _ rfl;refine .ns ?_;refine .cc hm R (fun hm=>?_) fun hm=>?_
       ·refine .sr (.sa R (.an R (.ret (.seqR (.nlg rB 4 6 0 R R ?_)))));cases hm;exact .rr [2] results341 (.tmp R (.tmp R .nil)) R I3 ⟨⟨_,R,I4⟩,trivial⟩
       ·refine .sn (.sv R (.fa ybg R (.lb y2r R (.fa ycM R (.lb y2r R (.op (O.bsF (r:=(rL rB)) (zs:=([p2,p1.1,p1.2]:List (List Bool))) bs425 R R Z R R R (.c .l (.c .l (.c .l .n))) R R R) R (bS hm fun p o hm=> .cm (r':= .h 2) [2] [(0,ROW rB 4 p)] (some 3) (yaX o) cf360 R ⟨⟨_,R,I4⟩,trivial⟩ R (.sa R (.an R (.ret ?_))))))))));cases hm;exact .rr [2] results341 (.tmp R (.tmp R .nil)) R I3 ⟨⟨_,R,I4⟩,trivial⟩
     · intro k;rcases yEt (((p2.length:Int) != p0.1)||((p1.1.length:Int) != p0.2.1)) with hc|hc
       · refine .know (d:=27) R hc ?_;exact .s2 R R (.s2 R R (.s2 R R (.pT R ((k true (orT hc).symm).s0 R))))
       · refine .know (d:=27) R hc ?_;exact .fag ycM R (.lbg y2r R (.op (O.len sl177 (Gu.mk R R) R R) R (.fag ybf R (.lbg nag3 R (.bg R (.pF R ((k ((p1.2.length:Int) != p0.2.2.1) (orF hc).symm).s0 R)))))))
   · intro j;rcases yEt ((p2.length:Int) != p0.1) with hc|hc
     · refine .know (d:=19) R hc ?_;exact .s2 R R (.s2 R R (.s2 R R (.pT R ((j true (orT hc).symm).s0 R))))
     · refine .know (d:=19) R hc ?_;exact .fag ybg R (.lbg y2r R (.op (O.len sl177 (Gu.mk R R) R R) R (.fag yam R (.lbg nag3 R (.bg R (.pF R ((j ((p1.1.length:Int) != p0.2.1) (orF hc).symm).s0 R)))))))
def y1O(p0:Int×Int×Int×List Bool×(List (Int×Int)))(n:(List (Int×ByteArray×(Option (Bool→Bool→Option Bool))×(Option (Bool→Bool→Option Bool))×(Option (Bool→Option Bool)))))(a:List Bool×Int×Bool×LI):Option ((List Bool×Int×Bool×LI)⊕(List Bool×LI)):=
 if decide (a.2.1<(p0.2.2.2.2.length:Int)) then
  (app a.2.2.2 ([a.2.1]:LI)).bind fun d=>
  (idx p0.2.2.2.2 a.2.1).bind fun b=>
  (idx n (W (b.1-1))).bind fun c=>
  if c.2.2.1.isSome then
   (idx a.1 b.2).bind fun k=>
   c.2.2.1.bind fun e=>
   (e a.2.2.1 k).bind fun h=>
   some (.inl (a.1,W (a.2.1+1),h,d))
  else
   if c.2.2.2.1.isSome then
    (idx a.1 b.2).bind fun l=>
    c.2.2.2.1.bind fun f=>
    (f a.2.2.1 l).bind fun i=>
    (idx a.1 b.2).bind fun o=>
    (upd a.1 b.2 i).bind fun m=>
    some (.inl (m,W (a.2.1+1),a.2.2.1,d))
   else
    c.2.2.2.2.bind fun g=>
    (g a.2.2.1).bind fun j=>
    if j then
     some (.inl (a.1,b.2,a.2.2.1,d))
    else
     some (.inl (a.1,W (a.2.1+1),a.2.2.1,d))
 else
  some (.inr (a.1,a.2.2.2))
def y7e(p0:Int×Int×Int×List Bool×(List (Int×Int)))(p1:List Bool):Option (LI×List Bool):=
 (y1i).bind fun b=>
 (iter (y1O p0 b) (p1,0,false,([]:LI))).bind fun a=>
 some (a.2,a.1)
theorem ybN{p0:Int×Int×Int×List Bool×(List (Int×Int))}{p1:List Bool}{r:LI×List Bool}(hm:y7e p0 p1=some r):
    Fw prog 342 ⟨1,[0]⟩ [.a (lx180 p0),.h 0] [ROW rB 4 p1] (.h 1) [ROW rB 4 r.2,rwI r.1]:=by
  refine Fw.mk2 func342 ntmps342 R (fun C=>?_) R;refine .sr (.bo 1 R (.an R (.sr (bS hm fun v L hm=> .c0 (y7M L) cf338 R (.an R (.sr (.an R (.sr (.an R (.seq (.sr (.an R (.block (bS hm fun o w hm=>?_))))))))))))));refine .cut1 (z:= .exit 0) o (fun (o:List Bool×LI)=>⟨[(6,.h 1)],[(0,ROW rB 4 o.1),(1,rwI o.2)],2⟩) ?_ fun K=>?_
  · skip
    refine .blkE (.seqN (.sv R (.an R (.ret ?_))));cases hm;exact .rr [0,1] results342 (.tmp R .nil) R I3 ⟨⟨_,R,I4⟩,⟨_,R,I4⟩,trivial⟩
  refine .nlg qI 3 6 0 R R (.iter (fun (d:List Bool×Int×Bool×LI)=>⟨[(8,.i d.2.1),(7,.b d.2.2.1),(6,.h 1),(5,.f rE413 v),(2,.q 2 0),(1,.h 0)],[(0,ROW rB 4 d.1),(1,rwI d.2.2.2),(2,.bx 180 (lx180 p0))],3⟩) w [(1,2),(2,1)] R ?_);intro d T hm m J;refine .seq (.sv R (.fa yan R (.lb y7K R (.ln sl178 R (.bi R (.ns ?_))))));refine .cc hm R (fun hm=>?_) fun hm=> .xx ((K _ (J _ (oj hm))).s0 R);refine .sn (.block (.sv R (.mv R (.bf (r:=qI) ([d.2.1]:LI) bs26 R (.c .k .n) R (bS hm fun p F hm=> .ap 3 underlying26 el3 R R (.fr R) F (.an R (.sr (.fa yan R (.lb y7K R (.mv R (bS hm fun l G hm=> .ix sl178 G R (.lg [lI l.1,lI l.2] ag344 R (.E lv344) R (.al 4 zz344 R (.st ag344.sz R (.nr (.mv R (.fa ycJ R (.lb nag3 R (.bi R (bS hm fun e H hm=> .ix sl409 H R (.lg [lI e.1,lV (.string e.2.1),lF2 prog (fun (g:Bool) (j:Bool)=> [.bool g,.bool j]) (fun (r:Bool)=> .bool r) e.2.2.1,lF2 prog (fun (g:Bool) (j:Bool)=> [.bool g,.bool j]) (fun (r:Bool)=> .bool r) e.2.2.2.1,lF1 prog (fun (g:Bool)=> [.bool g]) (fun (r:Bool)=> .bool r) e.2.2.2.2] ag413 R (.E lv413) R (.al 5 zz413 R (.st ag413.sz R (.nr ?_))))))))))))))))))))))));refine .mv R (.bi R (.an R (.block (.sr (.fa ygw R (.lb ycp R (.op (O.fne2 underlying204 Z R R R) R (.an R ?_))))))));refine .cc hm R (fun hm=>?_) fun hm=>?_
  ·refine .sub (τ:=⟨[(8,.i (W (d.2.1+1))),(10,.q 5 0),(9,.q 4 0),(6,.h 3),(7,.b d.2.2.1),(5,.f rE413 v),(2,.q 2 0),(1,.h 0)],[(0,ROW rB 4 d.1),(5,.bx 413 [lI e.1,lV (.string e.2.1),lF2 prog (fun (g:Bool) (j:Bool)=> [.bool g,.bool j]) (fun (r:Bool)=> .bool r) e.2.2.1,lF2 prog (fun (g:Bool) (j:Bool)=> [.bool g,.bool j]) (fun (r:Bool)=> .bool r) e.2.2.2.1,lF1 prog (fun (g:Bool)=> [.bool g]) (fun (r:Bool)=> .bool r) e.2.2.2.2]),(4,.bx 344 [lI l.1,lI l.2]),(3,rwI p),(2,.bx 180 (lx180 p0))],6⟩) ?_ [] R;refine bS hm fun P s hm=>bS hm fun U ef31 hm=>bS hm fun M x hm=>?_;refine .drg 6 [(6,[]),(6,[oT]),(6,[]),(6,[]),(6,[]),(6,[oF,oF,oF,oF,oT]),(6,fA 3 (tT 3)),(6,fA 3 (tT 4)),(6,tT 8),(6,tT 9)] [_,_,_,_,_,_,_,_,_,_] ⟨[(7,.b M),(8,.i (W (d.2.1+1))),(6,.h 3),(5,.f rE413 v),(2,.q 2 0),(1,.h 0)],[(0,ROW rB 4 d.1),(3,rwI p),(2,.bx 180 (lx180 p0))],6⟩ ⟨O.faP ygw Z R R,zB ycp R,zM R,zM R,O.faP y7P Z R R,zB nag3 R,O.ir sl177 Z R R R s R,O.ld nag4 Z R (.R R s lv4) R R,O.fh2 (y:=d.2.2.1) (z:=P) R R R Z R ef31 x R R,O.as Z R R,trivial⟩ (by kernel_rfl) R ?_;exact .blkN (.blkN ((m _ (oj hm)).sub [(1,3)] R))
  ·refine .sr (.fa yeg R (.lb ycp R (.op (O.fne2 underlying204 Z R R R) R (.an R ?_))));refine .cc hm R (fun hm=>?_) fun hm=>?_
   ·refine .sub (τ:=⟨[(8,.i (W (d.2.1+1))),(10,.q 5 0),(9,.q 4 0),(6,.h 3),(7,.b d.2.2.1),(5,.f rE413 v),(2,.q 2 0),(1,.h 0)],[(0,ROW rB 4 d.1),(5,.bx 413 [lI e.1,lV (.string e.2.1),lF2 prog (fun (g:Bool) (j:Bool)=> [.bool g,.bool j]) (fun (r:Bool)=> .bool r) e.2.2.1,lF2 prog (fun (g:Bool) (j:Bool)=> [.bool g,.bool j]) (fun (r:Bool)=> .bool r) e.2.2.2.1,lF1 prog (fun (g:Bool)=> [.bool g]) (fun (r:Bool)=> .bool r) e.2.2.2.2]),(4,.bx 344 [lI l.1,lI l.2]),(3,rwI p),(2,.bx 180 (lx180 p0))],6⟩) ?_ [] R;refine bS hm fun Q t hm=>bS hm fun V ef34 hm=>bS hm fun N B hm=>bS hm fun a0 u hm=>bS hm fun S I hm=>?_;refine .drg 6 [(6,[]),(6,[]),(6,[oF,oT]),(6,[]),(6,[oF,oF,oF,oT]),(6,[]),(6,[]),(6,[]),(6,[oF,oF,oF,oF,oF,oF,oF,oT]),(6,fA 6 (tT 3)),(6,fA 6 (tT 4)),(6,fA 3 (tT 8)),(6,tT 12),(6,tT 13)] [_,_,_,_,_,_,_,_,_,_,_,_,_,_] ⟨[(8,.i (W (d.2.1+1))),(6,.h 3),(7,.b d.2.2.1),(5,.f rE413 v),(2,.q 2 0),(1,.h 0)],[(0,ROW rB 4 S),(3,rwI p),(2,.bx 180 (lx180 p0))],6⟩ ⟨zM R,O.faP y7P Z R R,zB nag3 R,O.faP yeg Z R R,zB ycp R,zM R,zM R,O.faP y7P Z R R,zB nag3 R,O.ir sl177 Z R R R t R,O.ld nag4 Z R (.R R t lv4) R R,O.fh2 (y:=d.2.2.1) (z:=Q) R R R Z R ef34 B R R,O.ir sl177 Z R R R u R,O.su (z:=N) nag4.sz Z R R u I R R R lv4 R .b,trivial⟩ (by kernel_rfl) R ?_;exact .blkN (.blkN ((m _ (oj hm)).sub [(1,3)] R))
   ·refine .sr (.fa ygv R (.lb yhP R (.mv R (bS hm fun X ef38 hm=>bS hm fun Y D hm=> .op (O.fh1 (y:=d.2.2.1) R R R Z R ef38 D R R) R (.an R ?_)))));exact .cc hm R (fun hm=> .reg (.fa y7P R (.lb nag3 R (.sa R (.nil (.blkN (.blkN ((m _ (oj hm)).sub [(1,3)] R)))))))) fun hm=> .skip (.blkN (.blkN ((m _ (oj hm)).sub [(1,3)] R)))
def y6S(p0:Int×Int×Int×List Bool×(List (Int×Int)))(p1:List Bool):Option (List Bool×List Bool):=
 (slc3 p1 p0.1 (W (p0.1+p0.2.1)) (W (p0.1+p0.2.1))).bind fun a=>
 (slc3 p1 (W (p0.1+p0.2.1)) (p1.length:Int) (p1.length:Int)).bind fun b=>
 some (a,b)
theorem ybr{p0:Int×Int×Int×List Bool×(List (Int×Int))}{p1:List Bool}{r:(List Bool×List Bool)}(hm:y6S p0 p1=some r):
  F0 343 [.a (lx180 p0),.f rB p1] [] (.g [lF rB r.1,lF rB r.2]) []:=by
 refine Fw.mk2 func343 ntmps343 R (fun C=>?_) R;refine .sr (.bo 0 R (.al 1 zz259 R (.nr (.fa yal R (.lb nag3 R (.fa yam R (.lb nag3 R (.bi R (.an R (.seq ?_))))))))));refine .sub (τ:=⟨[(5,.i (W (p0.1+p0.2.1))),(4,.q 1 0),(2,.q 0 0),(1,.f rB p1)],[(1,.bx 259 [lN,lN]),(0,.bx 180 (lx180 p0))],2⟩) ?_ [] R;refine bS hm fun d b hm=>bS hm fun e c hm=>?_;refine .drg 2 [(2,[]),(2,[]),(2,[oF,oT]),(2,[]),(2,[]),(2,tT 5),(2,[]),(2,[]),(2,[]),(2,[oF,oF,oF,oF,oF,oF,oF,oF,oT]),(2,[]),(2,[oF,oF,oF,oF,oF,oF,oF,oF,oF,oF,oT]),(2,fA 6 (tT 6)),(2,tT 13),(2,tT 14)] [_,_,_,_,_,_,_,_,_,_,_,_,_,_,_] ⟨[(4,.q 1 0)],[(1,.bx 259 [lF rB d,lF rB e])],2⟩ ⟨zM R,O.faP yal Z R R,zB nag3 R,zM R,zM R,O.s3 sl177 Z R R R R b R,zM R,zM R,zM R,O.len sl177 Z R R,zM R,O.len sl177 Z R R,O.s3 sl177 Z R R R R c R,O.bu (l:=[lF rB d,lF rB e]) pl259 R Z R R R,O.st ag259.sz Z R R R R R,trivial⟩ (by kernel_rfl) R ?_;refine .seqN (.ret ?_);cases hm;exact .r0 results343 (.cell R R ag259 R .nil) R R
def y5K(p0:Int×Int×Int×List Bool×(List (Int×Int)))(p1:List Bool×List Bool)(p2:List Bool):Option ((List Bool×List Bool)×Int):=
 (y6R p0 p1 p2).bind fun a=>
 if(a.2 != 0) then
  some ((([]:List Bool),([]:List Bool)),a.2)
 else
  (y7e p0 a.1).bind fun b=>
  (y6S p0 b.2).bind fun c=>
  some (c,0)
theorem ybO{p0:Int×Int×Int×List Bool×(List (Int×Int))}{p1:List Bool×List Bool}{p2:List Bool}{r:(List Bool×List Bool)×Int}(hm:y5K p0 p1 p2=some r):
    F0 327 [.a (lx180 p0),.a [lF rB p1.1,lF rB p1.2],.f rB p2] [] (.tp [.a [lF rB r.1.1,lF rB r.1.2],.i r.2]) []:=by
  refine Fw.mk2 func327 ntmps327 R (fun C=>?_) R;refine .sr (.bo 0 R (.bo 1 R (.al 2 zz259 R (.an R (.sr (.lg (lx180 p0) ag180 R (.B R) R (.lg [lF rB p1.1,lF rB p1.2] ag259 R (.B R) R (.mv R (bS hm fun g b hm=> .cm (r':= .tp [.h 3,.i g.2]) [3] [(0,ROW rB 4 g.1)] (some 4) (ybq b) cf341 R ⟨⟨_,R,I4⟩,trivial⟩ R (.mv R (.ex R (.ex R (.sa R (.an R (.seq (.sv R (.bi R (.ns ?_))))))))))))))))));refine .cc hm R (fun hm=>?_) fun hm=>?_
  ·refine .sr (.bu [lN,lN] pl259 R (.mv R (.st ag259.sz R (.an R (.ret (.seqR (.cno 2 R (.c (.nf (r:=rB)) (.c (.nf (r:=rB)) .n)) R ?_)))))));cases hm;exact .r0 results327 (.cell R R ag259 R (.tmp R .nil)) R R
  ·refine .sn (.sr (.lg (lx180 p0) ag180 R (.B R) R (.mv R (bS hm fun j d hm=> .cm (r':= .h 4) [3,4] [(0,ROW rB 4 j.2),(1,rwI j.1)] (some 5) (ybN d) cf342 R ⟨⟨_,R,I4⟩,⟨_,R,I4⟩,trivial⟩ R (.nr (.lg (lx180 p0) ag180 R (.B R) R (.mv R (.fz 3 [25] [] R R fR R R (bS hm fun k e hm=> .c0 (ybr e) cf343 R (.st ag259.sz R (.an R (.ret ?_))))))))))));cases hm;exact .r0 results327 (.cell R R ag259 R (.tmp R .nil)) R R
def y7f(p0:CodT)(p1:List Bool×List Bool)(p2:LI):Option ((List Bool×List Bool)×Int):=
 (y7o p0 p2).bind fun a=>
 if(a.2 != 0) then
  some ((([]:List Bool),([]:List Bool)),a.2)
 else
  (y5K p0.1 p1 a.1).bind fun b=>
  some b
theorem ycW{p0:CodT}{p1:List Bool×List Bool}{p2:LI}{r:(List Bool×List Bool)×Int}(hm:y7f p0 p1 p2=some r):
    F0 314 [.a (lx182 p0),.a [lF rB p1.1,lF rB p1.2],.f qI p2] [] (.tp [.a [lF rB r.1.1,lF rB r.1.2],.i r.2]) []:=by
  refine Fw.mk2 func314 ntmps314 R (fun C=>?_) R;refine .sr (.bo 0 R (.bo 1 R (.al 2 zz259 R (.an R (.sr (.lg (lx182 p0) ag182 R (.B R) R (.mv R (bS hm fun e b hm=> .cm (r':= .tp [.h 3,.i e.2]) [3] [(0,ROW rB 4 e.1)] (some 4) (ycb b) cf326 R ⟨⟨_,R,I4⟩,trivial⟩ R (.mv R (.ex R (.ex R (.sa R (.an R (.seq (.sv R (.bi R (.ns ?_)))))))))))))))));refine .cc hm R (fun hm=>?_) fun hm=>?_
  ·refine .sr (.bu [lN,lN] pl259 R (.mv R (.st ag259.sz R (.an R (.ret (.seqR (.cno 2 R (.c (.nf (r:=rB)) (.c (.nf (r:=rB)) .n)) R ?_)))))));cases hm;exact .r0 results314 (.cell R R ag259 R (.tmp R .nil)) R R
  ·refine .sn (.sr (.fa ycK R (.lg (lx180 p0.1) ag180 R (.B R) R (.lg [lF rB p1.1,lF rB p1.2] ag259 R (.B R) R (.mv R (.fz 3 [23] [] R R fR R R (bS hm fun g d hm=> .c0 (ybO d) cf327 R (.ex R (.ex R (.st ag259.sz R (.an R (.ret ?_))))))))))));cases hm;exact .r0 results314 (.cell R R ag259 R (.tmp R .nil)) R R
def y3n(p0:BenT)(c:(List Bool×List Bool)×Int)(a:List Bool)(b:List Bool):Option (Int×BenT):=
 some (c.2,p0.1,p0.2.1,p0.2.2.1,a,b)
def y1P(a:Int×LI)(b:LI):Option ((Int×LI)⊕LI):=
 some (.inl (W (a.1+1),b))
def y1Q(p0:BenT)(p1:LI)(a:Int×LI):Option ((Int×LI)⊕LI):=
 if decide (a.1<(p1.length:Int)) then
  (idx p1 a.1).bind fun b=>
  (yf p0.1.2.1.1 b).bind fun c=>
  if c then
   (app a.2 ([b]:LI)).bind fun d=>
   y1P a d
  else
   y1P a a.2
 else
  some (.inr a.2)
def yW(p0:BenT)(p1:LI):Option (Int×BenT):=
 (iter (y1Q p0 p1) (0,([]:LI))).bind fun b=>
 (y2A b).bind fun c=>
 (y7f p0.2.1 p0.2.2.2 c).bind fun a=>
 if(a.2==0) then
  y3n p0 a a.1.1 a.1.2
 else
  y3n p0 a p0.2.2.2.1 p0.2.2.2.2
theorem y5L{p0:BenT}{p1:LI}{r:Int×BenT}(hm:yW p0 p1=some r):
  Fw prog 289 ⟨1,[0]⟩ [.o (lP 0 0),.f qI p1] [.bx 261 (lx261 p0)] (.i r.1) [.bx 261 (lx261 r.2)]:=by
 refine Fw.mk2 func289 ntmps289 R (fun C=>?_) R;refine .sr (.an R (.sr (.an R (.seq (.sv R (.ln sl26 R (.mv R (.ns (.block (bS hm fun p u hm=>?_))))))))));refine .cut1 (z:= .exit 0) p (fun (p:LI)=>⟨[(5,.h 1),(0,.q 0 0)],[(0,.bx 261 (lx261 p0)),(1,rwI p)],2⟩) ?_ fun G=>?_
 ·skip
  refine .blkE (.seqN (.sv R (bS hm fun t v hm=> .cm (r':= .tp []) [1] [(0,rwI t)] none (yce v) cf60 R ⟨⟨_,R,I4⟩,trivial⟩ R (.ns (.seq (.fz 1 [29,5] [] R R fR R R ?_))))));refine .sub (τ:=⟨[(5,.f qI t),(0,.q 0 0)],[(0,.bx 261 (lx261 p0))],2⟩) ?_ [] R;refine bS hm fun a w hm=>?_;refine .drz 3 [(13,2)] [(2,[],[],[]),(2,[oT],[],[]),(2,[oT,oT],[],[]),(2,tT 3,[],[]),(2,[],[],[]),(2,[oF,oF,oF,oF,oT],[],[]),(2,[oF,oF,oF,oF,oT,oT],[],[]),(2,fA 4 (tT 3),[],[]),(2,[],[],[]),(2,tT 9,[],[]),(2,tT 10,[],[]),(2,tT 11,[],[]),(2,tT 11,[],[]),(2,[],[],[]),(3,tA 12 (fA 1 (tT 1)),[],[]),(3,tT 15,[],[(13,2)])] [_,_,_,_,_,_,_,_,_,_,_,_,_,_,_,_] ⟨[(9,.i a.2),(8,.q 2 0),(0,.q 0 0)],[(0,.bx 261 (lx261 p0)),(2,.bx 259 [lF rB a.1.1,lF rB a.1.2])],3⟩ ⟨zM R,O.nc .B Z R R,O.faP ycN Z R R,O.lg (l':=(lx182 p0.2.1)) ag182 Z R (.B R) R R R,zM R,O.nc .B Z R R,O.faP ybh Z R R,O.lg (l':=[lF rB p0.2.2.2.1,lF rB p0.2.2.2.2]) ag259 Z R (.B R) R R R,zM R,O.ca0 (ycW w) cf314 R R Z R R R,zM R,O.ex Z R R R,O.ex Z R R R,O.al 2 R zz259 R Z R,O.st ag259.sz Z R R R R R,O.as Z R R,trivial⟩ (by kernel_rfl) R ?_;refine .seqN ?_;refine .join2 (fun (d:List Bool) (e:List Bool)=>y3n p0 a d e=some r) (fun d e=>⟨[(9,.i a.2)],[(0,.bx 261 [lF qI p0.1.1.1,lI p0.1.1.2.1,lF qI p0.1.1.2.2.1,lF qT p0.1.1.2.2.2,lF qI p0.1.2.1.1,lI p0.1.2.1.2.1,lF qI p0.1.2.1.2.2.1,lF qT p0.1.2.1.2.2.2,lF qI p0.1.2.2,lI p0.2.1.1.1,lI p0.2.1.1.2.1,lI p0.2.1.1.2.2.1,lF rB p0.2.1.1.2.2.2.1,lF rE344 p0.2.1.1.2.2.2.2,lF qI p0.2.1.2.1,lF qI p0.2.1.2.2.1,lI p0.2.1.2.2.2,lI p0.2.2.1,lF rB d,lF rB e])],1⟩) ?_ ?_
  ·intro d e hm;refine .sv R (.an R (.ret ?_));cases hm;exact .rr [0] results289 (.tmp R .nil) R I3 ⟨⟨_,R,I4⟩,trivial⟩
  ·intro j;refine .sv R (.bi R (.ns ?_));exact .cc hm R (fun hm=> .reg (.mv R (.lg [lF rB a.1.1,lF rB a.1.2] ag259 R (.B R) R (.op (O.nc .B Z R R) R (.fa ybh R (.st ag259.sz R (.nil ((j _ _ hm).s0 R)))))))) fun hm=> .skip ((j _ _ hm).s0 R)
 refine .nlg qI 3 5 0 R R (.iter (fun (b:Int×LI)=>⟨[(12,.i b.1),(11,.i p1.length),(10,.f qI p1),(5,.h 1),(0,.q 0 0)],[(0,.bx 261 (lx261 p0)),(1,rwI b.2)],2⟩) u [] R ?_);intro b s hm F E;refine .sr (.bi R (.ns (.seq ?_)));refine .cc hm R (fun hm=>?_) fun hm=> .xx ((G _ (E _ (oj hm))).s0 R);refine .sn ?_;refine .join1 (fun (g:LI)=>y1P b g=some s) (fun g=>⟨[(5,.h 1),(12,.i b.1),(11,.i p1.length),(10,.f qI p1),(0,.q 0 0)],[(0,.bx 261 (lx261 p0)),(1,rwI g)],2⟩) ?_ ?_
 ·intro g hm;exact .reg (.bi R (.mv R (.nil ((F _ (oj hm)).s0 R))))
 ·intro m;refine .block (.sr (bS hm fun H y hm=> .ix sl26 y R (.le nag3 lv3 R (.an R (.sv R (.op (O.nc .B Z R R) R (.fa y8l R (.fa y6p R (.fa yI R (.lb nag26 R (.mv R (bS hm fun I x hm=> .c0 (yi x) cf41 R (.ns ?_)))))))))))));exact .cc hm R (fun hm=> .reg (.mv R (.mv R (.bf (r:=qI) ([H]:LI) bs26 R (.c .k .n) R (bS hm fun J D hm=> .ap 2 underlying26 el3 R R (.fr R) D (.sa R (.nil (.blkN ((m _ hm).sub [(1,2)] R))))))))) fun hm=> .skip (.blkN ((m _ hm).s0 R))
def y5Q(p0:CodT)(p1:List Bool×List Bool):Option Int:=
 if(((p1.1.length:Int) != p0.1.2.1)||((p1.2.length:Int) != p0.1.2.2.1)) then
  some 4
 else
  some 0
theorem y8s{p0:CodT}{p1:List Bool×List Bool}{r:Int}(hm:y5Q p0 p1=some r):
    F0 315 [.a (lx182 p0),.a [lF rB p1.1,lF rB p1.2]] [] (.i r) []:=by
  refine Fw.mk2 func315 ntmps315 R (fun C=>?_) R;refine .sr (.bo 0 R (.bo 1 R (.an R (.seq (.sr (.fa ybg R (.lb y2r R (.ln sl177 R (.fa ycK R (.fa yam R (.lb nag3 R (.bi R (.mv R ?_)))))))))))));refine .cut 8 (fun (c:Bool)=>(((p1.1.length:Int) != p0.1.2.1)||((p1.2.length:Int) != p0.1.2.2.1))=c) (fun c=>⟨[(20,.b c)],[],2⟩) ?_ ?_
  · rintro _ rfl;refine .ns ?_;refine .cc hm R (fun hm=>?_) fun hm=>?_
    ·refine .sr (.an R (.ret (.seqR ?_)));cases hm;exact .r0 results315 (.tmp R .nil) R R
    ·refine .sn (.sr (.an R (.ret ?_)));cases hm;exact .r0 results315 (.tmp R .nil) R R
  · intro e;rcases yEt ((p1.1.length:Int) != p0.1.2.1) with hc|hc
    · refine .know (d:=12) R hc ?_;exact .s2 R R (.s2 R R (.s2 R R (.sk R (.pT R ((e true (orT hc).symm).s0 R)))))
    · refine .know (d:=12) R hc ?_;exact .fag ycM R (.lbg y2r R (.op (O.len sl177 (Gu.mk R R) R R) R (.fag ycK R (.fag ybf R (.lbg nag3 R (.bg R (.pF R ((e ((p1.2.length:Int) != p0.1.2.2.1) (orF hc).symm).s0 R))))))))
def y4f(a:Int×LI)(b:LI):Option ((Int×LI)⊕LI):=
 some (.inl (W (a.1+1),b))
def y4g(p0:CodT)(p1:List Bool×List Bool)(a:Int×LI):Option ((Int×LI)⊕LI):=
 if decide (a.1<(p0.2.2.1.length:Int)) then
  (idx p0.2.2.1 a.1).bind fun b=>
  (idx p1.1 a.1).bind fun c=>
  if c then
   (app a.2 ([b]:LI)).bind fun d=>
   y4f a d
  else
   y4f a a.2
 else
  some (.inr a.2)
def y4h(p0:CodT)(p1:List Bool×List Bool):Option (LI×Int):=
 (y5Q p0 p1).bind fun b=>
 if(b != 0) then
  some (([]:LI),b)
 else
  (iter (y4g p0 p1) (0,([]:LI))).bind fun a=>
  some (a,0)
theorem ybP{p0:CodT}{p1:List Bool×List Bool}{r:LI×Int}(hm:y4h p0 p1=some r):
    F0 290 [.a (lx182 p0),.a [lF rB p1.1,lF rB p1.2]] [] (.tp [.h 0,.i r.2]) [rwI r.1]:=by
  refine Fw.mk2 func290 ntmps290 R (fun C=>?_) R;refine .sr (.bo 0 R (.bo 1 R (.sa R (.an R (.seq (.sr (.lg (lx182 p0) ag182 R (.B R) R (.lg [lF rB p1.1,lF rB p1.2] ag259 R (.B R) R (bS hm fun D v hm=> .c0 (y8s v) cf315 R (.an R (.sv R (.bi R (.ns ?_)))))))))))));refine .cc hm R (fun hm=>?_) fun hm=>?_
  ·refine .sv R (.sa R (.an R (.ret (.seqR (.nlg qI 3 4 0 R R ?_)))));cases hm;exact .rr [2] results290 (.tmp R (.tmp R .nil)) R I3 ⟨⟨_,R,I4⟩,trivial⟩
  ·refine .sn (.sr (.an R (.seq (.sr (.fa ygx R (.lb nag26 R (.ln sl26 R (.mv R (.ns (.block (bS hm fun g l hm=>?_)))))))))));refine .cut1 (z:= .exit 0) g (fun (g:LI)=>⟨[(7,.h 0)],[(0,rwI g)],1⟩) ?_ fun u=>?_
   · skip
     refine .blkE (.seqN (.sv R (.sa R (.an R (.ret ?_)))));cases hm;exact .rr [0] results290 (.tmp R (.tmp R .nil)) R I3 ⟨⟨_,R,I4⟩,trivial⟩
   refine .nlg qI 3 7 0 R R (.iter (fun (b:Int×LI)=>⟨[(19,.i b.1),(18,.i p0.2.2.1.length),(17,.f qI p0.2.2.1),(7,.h 0),(3,.q 1 0)],[(0,rwI b.2),(1,.bx 259 [lF rB p1.1,lF rB p1.2])],2⟩) l [(0,2)] R ?_);intro b j hm t s;refine .sr (.bi R (.ns (.seq ?_)));refine .cc hm R (fun hm=>?_) fun hm=> .xx ((u _ (s _ (oj hm))).s0 R);refine .sn ?_;refine .join1 (fun (d:LI)=>y4f b d=some j) (fun d=>⟨[(7,.h 0),(19,.i b.1),(18,.i p0.2.2.1.length),(17,.f qI p0.2.2.1),(3,.q 1 0)],[(0,rwI d),(1,.bx 259 [lF rB p1.1,lF rB p1.2])],2⟩) ?_ ?_
   · intro d hm;exact .reg (.bi R (.mv R (.nil ((t _ (oj hm)).s0 R))))
   · intro e;refine .block (.sv R (bS hm fun w m hm=> .ix sl26 m R (.le nag3 lv3 R (.sa R (.an R (.sr (.fa ybg R (.lb y2r R (.mv R (bS hm fun x o hm=> .ix sl177 o R (.le nag4 lv4 R (.ns ?_))))))))))));exact .cc hm R (fun hm=> .reg (.mv R (.mv R (.bf (r:=qI) ([w]:LI) bs26 R (.c .k .n) R (bS hm fun y p hm=> .ap 2 underlying26 el3 R R (.fr R) p (.sa R (.nil (.blkN ((e _ hm).sub [(0,2)] R))))))))) fun hm=> .skip (.blkN ((e _ hm).s0 R))
def y5y(p0:BenT)(p1:Int)(p2:LI):Option Bool:=
 (y1N p0 p1).bind fun c=>
 (if decide (c≥0) then
  (yf p2 p1).bind fun d=>
  (if d then
   some true
  else
   (yf p0.1.2.1.1 p1).bind fun e=>
   some (!e)).bind fun b=>
  some b
 else
  some false).bind fun a=>
 some a
theorem yaA{p0:BenT}{p2:LI}{r:Bool}(hm:y5y p0 p1 p2=some r):
  F0 292 [.o (lQ 261 (lx261 p0) 0),.i p1,.f qI p2] [] (.b r) []:=by
 refine Fw.mk2 func292 ntmps292 R (fun C=>?_) R;refine .sr (.an R (.sv R (.mv R (bS hm fun p j hm=> .c0 (y6m j) cf297 R (.bi R (.mv R (bS hm fun m eb2 hm=>?_)))))));refine .cut 15 (fun (a:Bool)=>m=a) (fun a=>⟨[(26,.b a)],[],0⟩) ?_ ?_
 ·rintro _ rfl;refine .an R (.ret ?_);cases hm;exact .r0 results292 (.tmp R .nil) R R
 ·intro e;rcases ifS eb2 with ⟨hc,hm⟩|⟨hc,hm⟩
  ·refine .know (d:=11) R hc ?_;refine .mg R (.mg R (bS hm fun q k hm=> .op (O.ca0 (yi k) cf41 R R (Gu.mk R R) R R R) R (.mg R (bS hm fun h eb6 hm=>?_))));refine .cut 10 (fun (c:Bool)=>h=c) (fun c=>⟨[(25,.b c),(11,.b true)],[],0⟩) ?_ ?_
   ·rintro _ rfl;exact .pT R ((e h (oj hm)).s0 R)
   ·intro g;rcases ifS eb6 with ⟨hc,hm⟩|⟨hc,hm⟩
    ·refine .know (d:=15) R hc ?_;exact .s2 R R (.s2 R R (.s2 R R (.s2 R R (.sk R (.op (O.pkT (Gu.mk R R) R R R R) R ((g true (oj hm)).s0 R))))))
    ·refine .know (d:=15) R hc ?_;exact .mg R (.op (O.nc .Q (Gu.mk R R) R R) R (.op (O.faQ y8l (Gu.mk R R) R R) R (.op (O.faQ y6p (Gu.mk R R) R R) R (.op (O.faQ yI (Gu.mk R R) R R) R (.op (O.ld nag26 (Gu.mk R R) R .Q R R) R (.mg R (bS hm fun n l hm=> .op (O.ca0 (yi l) cf41 R R (Gu.mk R R) R R R) R (.op (O.not (Gu.mk R R) R R) R (.op (O.pkF (Gu.mk R R) R R R R) R ((g (!n) (oj hm)).s0 R))))))))))
  ·refine .know (d:=11) R hc ?_;exact .s2 R R (.s2 R R (.su R (.su R (.su R (.su R (.su R (.su R (.su R (.su R (.su R (.sk R (.pF R ((e false (oj hm)).s0 R)))))))))))))
def yU(a:Option BenT)(b:StpT)(p0:Int):Option Bool:=
 a.bind fun d=>
 (y5y d p0 b.2.2.1).bind fun c=>
 some c
theorem y9B{e:Option BenT}{f:StpT}{p0:Int}{r:Bool}(hm:yU e f p0=some r):
  F0 291 [.i p0,.o (lQ 333 [lK rE261 261 e] 0),.o (lQ 174 (lx174 f) 0)] [] (.b r) []:=by
 refine Fw.mk2 func291 ntmps291 R (fun C=>?_) R;refine .sr (.an R (.sr (.lq y4w R (.mv R (.fq yei R (.lq nag26 R (bS hm fun h d hm=> .cnt 5 R (.c (.pd d lv261) .n) R (bS hm fun g a hm=> .c0 (yaA a) cf292 R (.an R (.ret ?_))))))))));cases hm;exact .r0 results291 (.tmp R .nil) R R
def y1w(a:BenT×Int×Bool×LI)(d:BenT)(b:Bool)(c:LI):Option ((BenT×Int×Bool×LI)⊕(BenT×Bool×LI)):=
 some (.inl (d,W (a.2.1+1),b,c))
def y3W(p1:LI)(p2:Int)(a:BenT×Int×Bool×LI):Option ((BenT×Int×Bool×LI)⊕(BenT×Bool×LI)):=
 if decide (a.2.1<(p1.length:Int)) then
  (idx p1 a.2.1).bind fun c=>
  (y2y a.1 c).bind fun b=>
  if b.1 then
   (app a.2.2.2 ([c]:LI)).bind fun f=>
   (if a.2.2.1 then
    (y1N b.2 p2).bind fun e=>
    some (decide (e≥0))
   else
    some false).bind fun d=>
   y1w a b.2 d f
  else
   y1w a b.2 a.2.2.1 a.2.2.2
 else
  some (.inr (a.1,a.2.2))
def y4W(p0:BenT)(p1:LI)(p2:Int):Option (LI×Bool×BenT):=
 (iter (y3W p1 p2) (p0,0,(p2 != (-1)),([]:LI))).bind fun a=>
 some (a.2.2,a.2.1,a.1)
theorem yad{p0:BenT}{p1:LI}{r:LI×Bool×BenT}(hm:y4W p0 p1 p2=some r):
  Fw prog 293 ⟨1,[0]⟩ [.o (lP 0 0),.f qI p1,.i p2] [.bx 261 (lx261 p0)] (.tp [.h 1,.b r.2.1]) [.bx 261 (lx261 r.2.2),rwI r.1]:=by
 refine Fw.mk2 func293 ntmps293 R (fun C=>?_) R;refine .sr (.sa R (.an R (.sv R (.bi R (.an R (.seq (.sv R (.ln sl26 R (.mv R (.ns (.block (bS hm fun e v hm=>?_))))))))))));refine .cut1 (z:= .exit 0) e (fun (e:BenT×Bool×LI)=>⟨[(7,.b e.2.1),(6,.h 1)],[(0,.bx 261 (lx261 e.1)),(1,rwI e.2.2)],2⟩) ?_ fun F=>?_
 ·skip
  refine .blkE (.seqN (.sv R (.mv R (.sa R (.an R (.ret ?_))))));cases hm;exact .rr [0,1] results293 (.tmp R (.tmp R .nil)) R I3 ⟨⟨_,R,I4⟩,⟨_,R,I4⟩,trivial⟩
 refine .nlg qI 3 6 0 R R (.iter (fun (a:BenT×Int×Bool×LI)=>⟨[(14,.i a.2.1),(13,.i p1.length),(12,.f qI p1),(7,.b a.2.2.1),(6,.h 1),(0,.q 0 0),(2,.i p2)],[(0,.bx 261 (lx261 a.1)),(1,rwI a.2.2.2)],2⟩) v [] R ?_);intro a t hm E D;refine .sr (.bi R (.ns (.seq ?_)));refine .cc hm R (fun hm=>?_) fun hm=> .xx ((F _ (D _ (oj hm))).s0 R);refine .sn ?_;refine .join3 (fun (l:BenT) (g:Bool) (j:LI)=>y1w a l g j=some t) (fun l g j=>⟨[(7,.b g),(6,.h 1),(14,.i a.2.1),(13,.i p1.length),(12,.f qI p1),(0,.q 0 0),(2,.i p2)],[(0,.bx 261 (lx261 l)),(1,rwI j)],2⟩) ?_ ?_
 ·intro l g j hm;exact .reg (.bi R (.mv R (.nil ((E _ (oj hm)).s0 R))))
 ·intro m;refine .block (.sr (bS hm fun I y hm=> .ix sl26 y R (.le nag3 lv3 R (.an R (.sv R (.mv R (bS hm fun p w hm=> .cm (r':= .b p.1) [0] [(0,.bx 261 (lx261 p.2))] none (y6L w) cf263 R ⟨⟨_,R,I4⟩,trivial⟩ R (.ns ?_))))))));refine .cc hm R (fun hm=>?_) fun hm=> .skip (.blkN ((m _ _ _ hm).s0 R));refine .sv R (.mv R (.bf (r:=qI) ([I]:LI) bs26 R (.c .k .n) R (bS hm fun J B hm=> .ap 2 underlying26 el3 R R (.fr R) B (.an R (.reg (.mv R (.mv R (bS hm fun G eb32 hm=>?_))))))));refine .cut 5 (fun (s:Bool)=>G=s) (fun s=>⟨[(31,.b s),(6,.h 2),(14,.i a.2.1),(13,.i p1.length),(12,.f qI p1),(0,.q 0 0),(2,.i p2)],[(0,.bx 261 (lx261 p.2)),(2,rwI J)],3⟩) ?_ ?_
  ·rintro _ rfl;exact .sa R (.nil (.blkN ((m _ _ _ hm).sub [(1,2)] R)))
  ·intro u;rcases ifS eb32 with ⟨hc,hm⟩|⟨hc,hm⟩
   ·refine .know (d:=26) R hc ?_;exact .mg R (.mg R (bS hm fun H x hm=> .op (O.caZ (y6m x) cf297 R R (Gu.mk R R) R ⟨⟨R,(.q R LnL.rf),trivial⟩,⟨R,LnL.rf⟩,trivial⟩ (fun _ _ _ _ _ h=>h) R) R (.bg R (.pT R ((u (decide (H≥0)) (oj hm)).s0 R)))))
   ·refine .know (d:=26) R hc ?_;exact .s2 R R (.s2 R R (.pF R ((u false (oj hm)).s0 R)))
def y5g(a:Int×Int×Int)(b:Int)(c:Int):Option ((Int×Int×Int)⊕(Int×Int)):=
 some (.inl (W (a.1+1),b,c))
def y5h(b:List Bool)(a:Int×Int×Int):Option ((Int×Int×Int)⊕(Int×Int)):=
 if decide (a.1<(b.length:Int)) then
  (idx b a.1).bind fun c=>
  if c then
   y5g a (W (a.2.1+1)) a.1
  else
   y5g a a.2.1 a.2.2
 else
  some (.inr a.2)
def y7D(p0:CodT)(p1:List Bool×List Bool):Option (Int×Int):=
 (y5Q p0 p1).bind fun b=>
 if(b != 0) then
  some (0,b)
 else
  (slc p1.2 0 p0.2.2.2).bind fun c=>
  (iter (y5h c) (0,0,0)).bind fun a=>
  if(a.1 != 1) then
   some (0,22)
  else
   some (a.2,0)
theorem ycu{p0:CodT}{p1:List Bool×List Bool}{r:Int×Int}(hm:y7D p0 p1=some r):
    F0 294 [.a (lx182 p0),.a [lF rB p1.1,lF rB p1.2]] [] (.tp [.i r.1,.i r.2]) []:=by
  refine Fw.mk2 func294 ntmps294 R (fun C=>?_) R;refine .sr (.bo 0 R (.bo 1 R (.sa R (.an R (.seq (.sr (.lg (lx182 p0) ag182 R (.B R) R (.lg [lF rB p1.1,lF rB p1.2] ag259 R (.B R) R (bS hm fun t p hm=> .c0 (y8s p) cf315 R (.an R (.sv R (.bi R (.ns ?_)))))))))))));refine .cc hm R (fun hm=>?_) fun hm=>?_
  ·refine .sv R (.sa R (.an R (.ret (.seqR ?_))));cases hm;exact .r0 results294 (.tmp R (.tmp R .nil)) R R
  ·refine .sn (.sr (.an R (.seq (.sr (.fa ycM R (.lb y2r R (.fa ykh R (.lb nag3 R (bS hm fun j q hm=> .op (O.sh sl177 Z R R q R) R (.ln sl177 R (.mv R (.ns (.block (bS hm fun e k hm=>?_))))))))))))));refine .cut1 (z:= .exit 0) e (fun (e:Int×Int)=>⟨[(7,.i e.1),(4,.i e.2)],[],0⟩) ?_ fun o=>?_
   · skip
     refine .blkE (.seqN (.seq (.sv R (.bi R (.ns ?_)))));refine .cc hm R (fun hm=>?_) fun hm=>?_
     ·refine .sr (.sa R (.an R (.ret (.seqR ?_))));cases hm;exact .r0 results294 (.tmp R (.tmp R .nil)) R R
     ·refine .sn (.sv R (.sa R (.an R (.ret ?_))));cases hm;exact .r0 results294 (.tmp R (.tmp R .nil)) R R
   refine .iter (fun (b:Int×Int×Int)=>⟨[(22,.i b.1),(21,.i j.length),(20,.f rB j),(7,.i b.2.1),(4,.i b.2.2)],[],0⟩) k [] R ?_;intro b h hm n m;refine .sr (.bi R (.ns (.seq ?_)));refine .cc hm R (fun hm=>?_) fun hm=> .xx ((o _ (m _ (oj hm))).s0 R);refine .sn ?_;refine .join2 (fun (c:Int) (d:Int)=>y5g b c d=some h) (fun c d=>⟨[(7,.i c),(4,.i d),(22,.i b.1),(21,.i j.length),(20,.f rB j)],[],0⟩) ?_ ?_
   · intro c d hm;exact .reg (.bi R (.mv R (.nil ((n _ (oj hm)).s0 R))))
   · intro g;refine .block (.sv R (bS hm fun s l hm=> .ix sl177 l R (.le nag4 lv4 R (.sa R (.an R (.sv R (.ns ?_)))))));exact .cc hm R (fun hm=> .reg (.mv R (.mv R (.bi R (.sa R (.sa R (.nil (.blkN ((g _ _ hm).s0 R))))))))) fun hm=> .skip (.blkN ((g _ _ hm).s0 R))
def y7g(p0:CodT)(p1:List Bool×List Bool):Option (Bool×Int):=
 (y5Q p0 p1).bind fun a=>
 if(a != 0) then
  some (false,a)
 else
  (idx p1.1 (p0.2.2.1.length:Int)).bind fun b=>
  some (b,0)
theorem ybQ{p0:CodT}{p1:List Bool×List Bool}{r:Bool×Int}(hm:y7g p0 p1=some r):
    F0 295 [.a (lx182 p0),.a [lF rB p1.1,lF rB p1.2]] [] (.tp [.b r.1,.i r.2]) []:=by
  refine Fw.mk2 func295 ntmps295 R (fun C=>?_) R;refine .sr (.bo 0 R (.bo 1 R (.sa R (.an R (.seq (.sr (.lg (lx182 p0) ag182 R (.B R) R (.lg [lF rB p1.1,lF rB p1.2] ag259 R (.B R) R (bS hm fun e c hm=> .c0 (y8s c) cf315 R (.an R (.sv R (.bi R (.ns ?_)))))))))))));refine .cc hm R (fun hm=>?_) fun hm=>?_
  ·refine .sv R (.sa R (.an R (.ret (.seqR ?_))));cases hm;exact .r0 results295 (.tmp R (.tmp R .nil)) R R
  ·refine .sn (.sr (.fa ybg R (.lb y2r R (.fa ygx R (.lb nag26 R (.ln sl26 R (bS hm fun f d hm=> .ix sl177 d R (.le nag4 lv4 R (.sa R (.an R (.ret ?_)))))))))));cases hm;exact .r0 results295 (.tmp R (.tmp R .nil)) R R
end
end Go.Proofs.YtfdeiphkmjdifaaGreatDoor
