/- Parts of the proof, without what nothing here names. -/
import Derived.Test.YtfdeiphkmjdifaaGreatDoorProg
import Derived.Test.YtfdeiphkmjdifaaGreatDoorKm5
set_option maxRecDepth 100000
set_option maxHeartbeats 8000000
namespace Go.Proofs.YtfdeiphkmjdifaaGreatDoor
section
open Go.Proofs.Tryz Go Go.RowKit
noncomputable section
def y1o(a:Int×LI)(b:LI):Option ((Int×LI)⊕LI):=
 some (.inl (W (a.1+1),b))
def y1p(b:List Bool)(a:Int×LI):Option ((Int×LI)⊕LI):=
 if decide (a.1<(b.length:Int)) then
  (idx b a.1).bind fun c=>
  if c then
   (app a.2 ([a.1]:LI)).bind fun d=>
   y1o a d
  else
   y1o a a.2
 else
  some (.inr a.2)
def yK(a:Int×List Bool)(b:List Bool):Option ((Int×List Bool)⊕(List Bool)):=
 some (.inl (W (a.1+1),b))
def y1q(p0:LI×Int×LI×LI×EdgL)(p2:LI)(a:Int×List Bool):Option ((Int×List Bool)⊕(List Bool)):=
 if decide (a.1<(p0.2.2.2.2.length:Int)) then
  (idx p0.2.2.2.2 a.1).bind fun b=>
  (idx a.2 b.1).bind fun f=>
  (if f then
   (if ((p2.length:Int)==0) then
    some true
   else
    (yw p2 b.2.1).bind fun e=>
    some e).bind fun d=>
   some d
  else
   some false).bind fun c=>
  if c then
   (idx a.2 b.2.2).bind fun h=>
   (upd a.2 b.2.2 true).bind fun g=>
   yK a g
  else
   yK a a.2
 else
  some (.inr a.2)
def y1r(p0:LI×Int×LI×LI×EdgL)(p2:LI)(a:Int×List Bool):Option ((Int×List Bool)⊕(List Bool)):=
 if decide (a.1<p0.2.1) then
  (iter (y1q p0 p2) (0,a.2)).bind fun b=>
  some (.inl (W (a.1+1),b))
 else
  some (.inr a.2)
def y1s(p1:LI)(a:Int×List Bool):Option ((Int×List Bool)⊕(List Bool)):=
 if decide (a.1<(p1.length:Int)) then
  (idx p1 a.1).bind fun b=>
  (idx a.2 b).bind fun d=>
  (upd a.2 b true).bind fun c=>
  some (.inl (W (a.1+1),c))
 else
  some (.inr a.2)
def yJ(p0:LI×Int×LI×LI×EdgL)(p1:LI)(p2:LI):Option LI:=
 (mkL p0.2.1 false).bind fun d=>
 (iter (y1s p1) (0,d)).bind fun c=>
 (iter (y1r p0 p2) (0,c)).bind fun a=>
 (iter (y1p a) (0,([]:LI))).bind fun b=>
 some b
theorem y5u{p0:LI×Int×LI×LI×EdgL}{p1:LI}{p2:LI}{r:LI}(hm:yJ p0 p1 p2=some r):
  F0 98 [.a (lx29 p0),.f qI p1,.f qI p2] [] (.h 0) [rwI r]:=by
 refine Fw.mk2 func98 ntmps98 R (fun C=>?_) R;refine .sr (.bo 0 R (.an R (.sr (.fa y2j R (.lb nag3 R (bS hm fun x1 b0 hm=> .op (O.mk (z:=false) 1 underlying177 zr4 R R Z R R b0 R) R (.an R (.seq (.sv R (.ln sl26 R (.mv R (.ns (.block (bS hm fun o9 a9 hm=>?_))))))))))))));refine .cut1 (z:= .exit 0) o9 (fun (o9:List Bool)=>⟨[(7,.h 0),(3,.q 1 0),(2,.f qI p2)],[(0,ROW rB 4 o9),(1,.bx 29 (lx29 p0))],2⟩) ?_ fun a4=>?_
 ·skip
  refine .blkE (.seqN (.seq (.sr (.fa y2j R (.lb nag3 R (.mv R (.ns (.block (bS hm fun m P hm=>?_)))))))));refine .cut1 (z:= .exit 2) m (fun (m:List Bool)=>⟨[(7,.h 0)],[(0,ROW rB 4 m)],1⟩) ?_ fun a5=>?_
  ·skip
   refine .blkE (.seqN (.sr (.an R (.seq (.sv R (.lh sl177 R (.mv R (.ns (.block (bS hm fun y Q hm=>?_))))))))));refine .cut1 (z:= .exit 6) y (fun (y:LI)=>⟨[(12,.h 0)],[(0,rwI y)],1⟩) ?_ fun a6=>?_
   ·skip
    refine .blkE (.seqN (.sv R (.an R (.ret ?_))));cases hm;exact .rr [0] results98 (.tmp R .nil) R I3 ⟨⟨_,R,I4⟩,trivial⟩
   refine .nlg qI 3 12 0 R R (.iter (fun (l:Int×LI)=>⟨[(63,.i l.1),(62,.i m.length),(61,.h 0),(12,.h 1)],[(0,ROW rB 4 m),(1,rwI l.2)],2⟩) Q [] R ?_);intro l J hm a2 Y;refine .sr (.bi R (.ns (.seq ?_)));refine .cc hm R (fun hm=>?_) fun hm=> .xx ((a6 _ (Y _ (oj hm))).sub [(0,1)] R);refine .sn ?_;refine .join1 (fun (p:LI)=>y1o l p=some J) (fun p=>⟨[(12,.h 0),(63,.i l.1),(62,.i m.length),(61,.h 1)],[(0,rwI p),(1,ROW rB 4 m)],2⟩) ?_ ?_
   ·intro p hm;exact .reg (.bi R (.mv R (.nil ((a2 _ (oj hm)).sub [(0,1),(1,0)] R))))
   ·intro t;refine .block (.sv R (bS hm fun b9 v hm=> .op (O.ir sl177 Z R R R v R) R (.op (O.ld nag4 Z R (.R R v lv4) R R) R (.sa R (.an R (.sv R (.ns ?_)))))));exact .cc hm R (fun hm=> .reg (.mv R (.mv R (.bf (r:=qI) ([l.1]:LI) bs26 R (.c .k .n) R (bS hm fun c0 U hm=> .ap 2 underlying26 el3 R R (.fr R) U (.sa R (.nil (.blkN ((t _ hm).sub [(0,2),(1,0)] R))))))))) fun hm=> .skip (.blkN ((t _ hm).sub [(0,1),(1,0)] R))
  refine .iter (fun (g:Int×List Bool)=>⟨[(30,.i g.1),(29,.i p0.2.1),(7,.h 0),(3,.q 1 0),(2,.f qI p2)],[(0,ROW rB 4 g.2),(1,.bx 29 (lx29 p0))],2⟩) P [] R ?_;intro g b4 hm a1 X;refine .sr (.bi R (.ns (.seq ?_)));refine .cc hm R (fun hm=>?_) fun hm=> .xx ((a5 _ (X _ (oj hm))).s0 R);refine .sn (.seq (.block (.sr (.fa y1D R (.lb nag27 R (.ln sl27 R (.mv R (.ns (.block (bS hm fun B S hm=>?_))))))))));refine .cut1 (z:= .exit 4) B (fun (B:List Bool)=>⟨[(30,.i g.1),(29,.i p0.2.1),(7,.h 0),(3,.q 1 0),(2,.f qI p2)],[(0,ROW rB 4 B),(1,.bx 29 (lx29 p0))],2⟩) ?_ fun a7=>?_
  ·skip
   exact .blkE (.blkN (.seqN (.reg (.bi R (.mv R (.nil ((a1 _ (oj hm)).s0 R)))))))
  refine .iter (fun (e:Int×List Bool)=>⟨[(35,.i e.1),(34,.i p0.2.2.2.2.length),(33,.f qT p0.2.2.2.2),(30,.i g.1),(29,.i p0.2.1),(7,.h 0),(3,.q 1 0),(2,.f qI p2)],[(0,ROW rB 4 e.2),(1,.bx 29 (lx29 p0))],2⟩) S [] R ?_;intro e K hm a3 a0;refine .sr (.bi R (.ns (.seq ?_)));refine .cc hm R (fun hm=>?_) fun hm=> .xx ((a7 _ (a0 _ (oj hm))).s0 R);refine .sn ?_;refine .join1 (fun (s:List Bool)=>yK e s=some K) (fun s=>⟨[(35,.i e.1),(34,.i p0.2.2.2.2.length),(33,.f qT p0.2.2.2.2),(30,.i g.1),(29,.i p0.2.1),(7,.h 0),(3,.q 1 0),(2,.f qI p2)],[(0,ROW rB 4 s),(1,.bx 29 (lx29 p0))],2⟩) ?_ ?_
  ·intro s hm;exact .reg (.bi R (.mv R (.nil ((a3 _ (oj hm)).s0 R))))
  ·intro u;refine .block (.sr (bS hm fun j V hm=> .ix sl27 V R (.lg [lI j.1,lI j.2.1,lI j.2.2] ag112 R (.E lv112) R (.al 2 zz112 R (.st ag112.sz R (.nr (.mv R (.fa yG R (.lb nag3 R (bS hm fun c1 w hm=> .op (O.ir sl177 Z R R R w R) R (.op (O.ld nag4 Z R (.R R w lv4) R R) R (.mv R (bS hm fun a8 eb91 hm=>?_)))))))))))));refine .cut 10 (fun (F:Bool)=>a8=F) (fun F=>⟨[(54,.b F),(11,.q 2 0),(35,.i e.1),(34,.i p0.2.2.2.2.length),(33,.f qT p0.2.2.2.2),(30,.i g.1),(29,.i p0.2.1),(7,.h 0),(3,.q 1 0),(2,.f qI p2)],[(2,.bx 112 [lI j.1,lI j.2.1,lI j.2.2]),(0,ROW rB 4 e.2),(1,.bx 29 (lx29 p0))],3⟩) ?_ ?_
   ·rintro _ rfl;exact .ns (.cc hm R (fun hm=> .reg (.mv R (.fa y1w R (.lb nag3 R (bS hm fun c2 x hm=> .op (O.ir sl177 Z R R R x R) R (bS hm fun c3 W hm=> .op (O.su (z:=true) nag4.sz Z R R x W R R R lv4 R .b) R (.nil (.blkN ((u _ hm).s0 R))))))))) fun hm=> .skip (.blkN ((u _ hm).s0 R)))
   ·intro L;rcases ifS eb91 with ⟨hc,hm⟩|⟨hc,hm⟩
    ·refine .know (d:=44) R hc ?_;refine .mg R (.op (O.len sl26 (Gu.mk R R) R R) R (.bg R (.mg R (bS hm fun N eb96 hm=>?_))));refine .cut 5 (fun (G:Bool)=>N=G) (fun G=>⟨[(53,.b G),(44,.b true),(11,.q 2 0),(35,.i e.1),(34,.i p0.2.2.2.2.length),(33,.f qT p0.2.2.2.2),(30,.i g.1),(29,.i p0.2.1),(7,.h 0),(3,.q 1 0),(2,.f qI p2)],[(2,.bx 112 [lI j.1,lI j.2.1,lI j.2.2]),(0,ROW rB 4 e.2),(1,.bx 29 (lx29 p0))],3⟩) ?_ ?_
     ·rintro _ rfl;exact .pT R ((L N (oj hm)).s0 R)
     ·intro M;rcases ifS eb96 with ⟨hc,hm⟩|⟨hc,hm⟩
      ·refine .know (d:=48) R hc ?_;exact .s2 R R (.s2 R R (.op (O.pkT (Gu.mk R R) R R R R) R ((M true (oj hm)).s0 R)))
      ·refine .know (d:=48) R hc ?_;exact .mg R (.fag y1v R (.lbg nag3 R (bS hm fun b3 T hm=> .op (O.ca0 (y2P T) cf41 R R (Gu.mk R R) R R R) R (.op (O.pkF (Gu.mk R R) R R R R) R ((M b3 (oj hm)).s0 R)))))
    ·refine .know (d:=44) R hc ?_;exact .s2 R R (.s2 R R (.su R (.su R (.su R (.su R (.sk R (.pF R ((L false (oj hm)).s0 R))))))))
 refine .iter (fun (D:Int×List Bool)=>⟨[(20,.i D.1),(19,.i p1.length),(18,.f qI p1),(7,.h 0),(3,.q 1 0),(2,.f qI p2)],[(0,ROW rB 4 D.2),(1,.bx 29 (lx29 p0))],2⟩) a9 [(0,1),(1,0)] R ?_;intro D b5 hm b2 b1;refine .sr (.bi R (.ns (.seq ?_)));exact .cc hm R (fun hm=> .sn (.seq (.block (.sr (bS hm fun b6 H hm=> .ix sl26 H R (.le nag3 lv3 R (.an R (.reg (.mv R (.mv R (bS hm fun b7 o hm=> .op (O.ir sl177 Z R R R o R) R (bS hm fun b8 I hm=> .op (O.su (z:=true) nag4.sz Z R R o I R R R lv4 R .b) R (.nil (.blkN (.seqN (.reg (.bi R (.mv R (.nil ((b2 _ (oj hm)).s0 R)))))))))))))))))))) fun hm=> .xx ((a4 _ (b1 _ (oj hm))).s0 R)
def y2b(a:LI×Int×LI×LI×EdgL)(p0:Int):Option Bool:=
 (yw a.2.2.2.1 p0).bind fun b=>
 some b
theorem y7z{c:LI×Int×LI×LI×EdgL}{p0:Int}{r:Bool}(hm:y2b c p0=some r):
  F0 99 [.i p0,.o (lQ 29 (lx29 c) 0)] [] (.b r) []:=by
 refine Fw.mk2 func99 ntmps99 R (fun C=>?_) R;refine .sr (.an R (.sr (.fq y5f R (.lq nag26 R (.mv R (bS hm fun d a hm=> .c0 (y2P a) cf41 R (.an R (.ret ?_))))))));cases hm;exact .r0 results99 (.tmp R .nil) R R
def y2w(p0:LI)(p1:Int→Option Bool)(a:Int):Option (Int⊕(Unit⊕Int)):=
 if decide (a<(p0.length:Int)) then
  (idx p0 a).bind fun c=>
  (p1 c).bind fun b=>
  if b then
   some (.inr (.inr (a)))
  else
   some (.inl (W (a+1)))
 else
  some (.inr (.inl ()))
def y4n(p0:LI)(p1:Int→Option Bool):Option Int:=
 (iter (y2w p0 p1) 0).bind fun a=>
 match a with
 | .inl c=>
  some (-1)
 | .inr (b)=>
  some b
theorem y8j{p0:LI}{p1:Int→Option Bool}{r:Int}(hm:y4n p0 p1=some r):
  F0 109 [.f qI p0,.o (lW prog (fun (x:Int)=> [.i x]) (fun (r:Bool)=> .b r) p1)] [] (.i r) []:=by
 refine Fw.mk2 func109 ntmps109 R (fun C=>?_) R;refine .sr (.an R (.seq (.sv R (.ln sl26 R (.mv R (.ns (.block (bS hm fun m k hm=>?_))))))));refine .cutU (z:= .exit 0) (fun h=> .inl h=m) (fun (h:Unit)=>⟨[],[],0⟩) ?_ fun K8=>?_
 ·rintro h rfl;dsimp only at hm;refine .blkE (.seqN (.sr (.an R (.ret ?_))));cases hm;exact .r0 results109 (.tmp R .nil) R R
 refine .cutU (z:= .ret) (fun a=> .inr (a)=m) (fun (a:Int)=>⟨[(4,.i a)],[],0⟩) ?_ fun j=>?_
 ·rintro a rfl;dsimp only at hm;refine .blkR (.seqR ?_);cases hm;exact .r0 results109 (.tmp R .nil) R R
 refine .iter (fun (d:Int)=>⟨[(8,.i d),(7,.i p0.length),(0,.f qI p0),(1,.o (lW prog (fun (x:Int)=> [.i x]) (fun (r:Bool)=> .b r) p1))],[],0⟩) k [] R ?_;intro d p hm l c;refine .sr (.bi R (.ns (.seq ?_)));refine .cc hm R (fun hm=>?_) fun hm=> .xx ((K8 _ (c _ (oj hm))).s0 R);refine .sn (.seq (.block (.sv R (.an R (.sv R (.mv R (.mv R (bS hm fun n g hm=> .ix sl26 g R (.le nag3 lv3 R (bS hm fun q e hm=>?_))))))))));refine .op (O.fv (y:=n) R R R Z R e R R) R ?_;exact .ns (.cc hm R (fun hm=> .sv R (.an R (.ret (.blkR (.seqR (.seqR ((j _ (c _ (oj hm))).s0 R))))))) fun hm=> .skip (.blkN (.seqN (.reg (.bi R (.mv R (.nil ((l _ (oj hm)).s0 R))))))))
def yL(p0:LI)(p1:Int→Option Bool):Option Bool:=
 (y4n p0 p1).bind fun a=>
 some (decide (a≥0))
theorem y4F{p0:LI}{p1:Int→Option Bool}{r:Bool}(hm:yL p0 p1=some r):
  F0 39 [.f qI p0,.o (lW prog (fun (x:Int)=> [.i x]) (fun (r:Bool)=> .b r) p1)] [] (.b r) []:=by
 refine Fw.mk2 func39 ntmps39 R (fun C=>?_) R;refine .sr (.an R (.sv R (.mv R (bS hm fun c a hm=> .c0 (y8j a) cf109 R (.bi R (.an R (.ret ?_)))))));cases hm;exact .r0 results39 (.tmp R .nil) R R
def y1N(a:Int×LI)(b:LI):Option ((Int×LI)⊕LI):=
 some (.inl (W (a.1+1),b))
def y1O(p0:LI×Int×LI×LI×EdgL)(c:LI)(a:Int×LI):Option ((Int×LI)⊕LI):=
 if decide (a.1<(c.length:Int)) then
  (idx c a.1).bind fun b=>
  (yJ p0 ([b]:LI) ([]:LI)).bind fun d=>
  (yL d (y2b p0)).bind fun e=>
  if(!e) then
   (app a.2 ([b]:LI)).bind fun f=>
   y1N a f
  else
   y1N a a.2
 else
  some (.inr a.2)
def y1A(p0:LI×Int×LI×LI×EdgL):Option LI:=
 (yJ p0 p0.2.2.1 ([]:LI)).bind fun b=>
 (iter (y1O p0 b) (0,([]:LI))).bind fun a=>
 some a
theorem y8I{p0:LI×Int×LI×LI×EdgL}{r:LI}(hm:y1A p0=some r):
  F0 30 [.a (lx29 p0)] [] (.h 0) [rwI r]:=by
 refine Fw.mk2 func30 ntmps30 R (fun C=>?_) R;refine .sr (.bo 0 R (.fz 0 [1] [] R R fB R R (.an R (.sr (.an R (.seq (.sr (.lg (lx29 p0) ag29 R .Q R (.fq y5e R (.lq nag26 R (bS hm fun l D hm=> .op (O.cac (r':= .h 1) [1] [(0,rwI l)] (some 2) (y5u D) cf98 R R Z R R ⟨⟨R,.rf⟩,⟨R,.rf⟩,⟨R,(.c (.nf (r:=qI)) .n)⟩,trivial⟩ R ⟨⟨_,R,I4⟩,trivial⟩ I3 R) R (.lh sl26 R (.mv R (.ns (.block (bS hm fun j s hm=>?_))))))))))))))));refine .cut1 (z:= .exit 0) j (fun (j:LI)=>⟨[(3,.h 0)],[(0,rwI j)],1⟩) ?_ fun B=>?_
 ·skip
  refine .blkE (.seqN (.sv R (.an R (.ret ?_))));cases hm;exact .rr [0] results30 (.tmp R .nil) R I3 ⟨⟨_,R,I4⟩,trivial⟩
 refine .nlg qI 3 3 0 R R (.iter (fun (d:Int×LI)=>⟨[(11,.i d.1),(10,.i l.length),(9,.h 0),(3,.h 1),(1,.o (lQ 29 (lx29 p0) 0))],[(0,rwI l),(1,rwI d.2)],2⟩) s [(0,1),(1,2)] R ?_);intro d p hm y w;refine .sr (.bi R (.ns (.seq ?_)));refine .cc hm R (fun hm=>?_) fun hm=> .xx ((B _ (w _ (oj hm))).sub [(0,1)] R);refine .sn ?_;refine .join1 (fun (e:LI)=>y1N d e=some p) (fun e=>⟨[(3,.h 0),(11,.i d.1),(10,.i l.length),(9,.h 1),(1,.o (lQ 29 (lx29 p0) 0))],[(0,rwI e),(1,rwI l)],2⟩) ?_ ?_
 ·intro e hm;exact .reg (.bi R (.mv R (.nil ((y _ (oj hm)).sub [(0,1),(1,0)] R))))
 ·intro f;refine .block (.sr (bS hm fun q g hm=> .op (O.ir sl26 Z R R R g R) R (.op (O.ld nag3 Z R (.R R g lv3) R R) R (.an R (.sr (.lg (lx29 p0) ag29 R .Q R (.mv R (.bf (r:=qI) ([q]:LI) bs26 R (.c .k .n) R (bS hm fun E t hm=> .op (O.cac (r':= .h 2) [2] [(0,rwI E)] (some 3) (y5u t) cf98 R R Z R R ⟨⟨R,.rf⟩,⟨R,.rf⟩,⟨R,(.c (.nf (r:=qI)) .n)⟩,trivial⟩ R ⟨⟨_,R,I4⟩,trivial⟩ I3 R) R (.op (O.mf (args:=(fun (x:Int)=> [.i x])) (res:=(fun (r:Bool)=> .b r)) (m:=(y2b p0)) cf99 (fun x r h=>y7z h) (fun _=>R) R Z R R) R (bS hm fun F u hm=> .op (O.caZ (y4F u) cf39 R R Z R ⟨⟨R,.hr R,trivial⟩,⟨R,LnL.rf⟩,trivial⟩ (fun _ _ _ _ _ h=>h) R) R (.no R (.ns ?_)))))))))))));exact .cc hm R (fun hm=> .reg (.mv R (.mv R (.bf (r:=qI) ([q]:LI) bs26 R (.c .k .n) R (bS hm fun G v hm=> .ap 3 underlying26 el3 R R (.fr R) v (.sa R (.nil (.blkN ((f _ hm).sub [(0,3),(1,0)] R))))))))) fun hm=> .skip (.blkN ((f _ hm).sub [(0,1),(1,0)] R))
def y2T(p0:List AutT):Option Int:=
 (y2A p0).bind fun a=>
 if(a != 0) then
  some a
 else
  if decide ((p0.length:Int)>6) then
   some 3
  else
   some 0
theorem y7A{p0:List AutT}{r:Int}(hm:y2T p0=some r):
    F0 100 [.f rE60 p0] [] (.i r) []:=by
  refine Fw.mk2 func100 ntmps100 R (fun C=>?_) R;refine .sr (.an R (.seq (.sv R (bS hm fun b a hm=> .c0 (y4q a) cf48 R (.an R (.sv R (.bi R (.ns ?_))))))));refine .cc hm R (fun hm=>?_) fun hm=>?_
  ·refine .sv R (.an R (.ret (.seqR ?_)));cases hm;exact .r0 results100 (.tmp R .nil) R R
  ·refine .sn (.seq (.sv R (.ln sl49 R (.bi R (.ns ?_)))));refine .cc hm R (fun hm=>?_) fun hm=>?_
   ·refine .sr (.an R (.ret (.seqR ?_)));cases hm;exact .r0 results100 (.tmp R .nil) R R
   ·refine .sn (.sr (.an R (.ret ?_)));cases hm;exact .r0 results100 (.tmp R .nil) R R
def y2x(p0:List AutT)(p1:LI)(a:Int×(List AutT)):Option ((Int×(List AutT))⊕(List AutT)):=
 if decide (a.1<(p1.length:Int)) then
  (idx p1 a.1).bind fun b=>
  (idx p0 b).bind fun c=>
  (app a.2 ([c]:List AutT)).bind fun d=>
  some (.inl (W (a.1+1),d))
 else
  some (.inr a.2)
def y3m(p0:List AutT)(p1:LI):Option (Bool×Int):=
 (iter (y2x p0 p1) (0,([]:List AutT))).bind fun b=>
 (y3v b).bind fun a=>
 some a.2
theorem y8k{p0:List AutT}{p1:LI}{r:Bool×Int}(hm:y3m p0 p1=some r):
  F0 101 [.f rE60 p0,.f qI p1] [] (.tp [.b r.1,.i r.2]) []:=by
 refine Fw.mk2 func101 ntmps101 R (fun C=>?_) R;refine .sr (.sa R (.an R (.sr (.an R (.seq (.sv R (.ln sl26 R (.mv R (.ns (.block (bS hm fun o s hm=>?_)))))))))));refine .cut1 (z:= .exit 0) o (fun (o:(List AutT))=>⟨[(6,.h 0)],[(0,ROW rE60 60 o)],1⟩) ?_ fun q=>?_
 ·skip
  refine .blkE (.seqN (.sv R (.fz 0 [27] [] R R fR R R (bS hm fun w e hm=> .c0 (y5K e) cf19 R (.mv R (.ex R (.ex R (.ex R (.sa R (.sa R (.an R (.sv R (.mv R (.sa R (.an R (.ret ?_))))))))))))))));cases hm;exact .r0 results101 (.tmp R (.tmp R .nil)) R R
 refine .nlg rE60 60 6 0 R R (.iter (fun (a:Int×(List AutT))=>⟨[(14,.i a.1),(13,.i p1.length),(12,.f qI p1),(6,.h 0),(0,.f rE60 p0)],[(0,ROW rE60 60 a.2)],1⟩) s [] R ?_);intro a v hm u t;refine .sr (.bi R (.ns (.seq ?_)));exact .cc hm R (fun hm=> .sn (.seq (.block (.sr (bS hm fun x g hm=> .ix sl26 g R (.le nag3 lv3 R (.an R (.reg (.mv R (.mv R (.mv R (bS hm fun d j hm=> .ix sl49 j R (.lg (lx60 d) ag60 R (.E lv60) R (.op (O.bsF (r:=rE60) (zs:=([d]:List AutT)) bs49 R R Z R R R (.c (.p .l (.p .k (.p .l .l))) .n) R R R) R (bS hm fun y m hm=> .ap 1 underlying49 el60 R R (.fr R) m (.sa R (.nil (.blkN (.seqN (.reg (.bi R (.mv R (.nil ((u _ (oj hm)).sub [(0,1)] R)))))))))))))))))))))))) fun hm=> .xx ((q _ (t _ (oj hm))).s0 R)
def y2i(p0:List AutT)(p1:LI)(a:Int×(List AutT)):Option ((Int×(List AutT))⊕(List AutT)):=
 if decide (a.1<(p1.length:Int)) then
  (idx p1 a.1).bind fun b=>
  (idx p0 b).bind fun c=>
  (app a.2 ([c]:List AutT)).bind fun d=>
  some (.inl (W (a.1+1),d))
 else
  some (.inr a.2)
def y2L(p0:List AutT)(p1:LI):Option Bool:=
 (iter (y2i p0 p1) (0,([]:List AutT))).bind fun d=>
 (yE d).bind fun a=>
 if(a.2.2 != 0) then
  some false
 else
  (yX a.1).bind fun b=>
  (y1A b.1).bind fun c=>
  some ((c.length:Int)==0)
theorem y7o{p0:List AutT}{p1:LI}{r:Bool}(hm:y2L p0 p1=some r):
    F0 32 [.f rE60 p0,.f qI p1] [] (.b r) []:=by
  refine Fw.mk2 func32 ntmps32 R (fun C=>?_) R;refine .sr (.an R (.sr (.an R (.seq (.sv R (.ln sl26 R (.mv R (.ns (.block (bS hm fun v x hm=>?_))))))))));refine .cut1 (z:= .exit 0) v (fun (v:(List AutT))=>⟨[(5,.h 0)],[(0,ROW rE60 60 v)],1⟩) ?_ fun w=>?_
  · skip
    refine .blkE (.seqN (.sv R (.fz 0 [28] [] R R fR R R (bS hm fun e m hm=> .cm (r':= .tp [.a [lH 1,lI e.1.2.1,lH 2,lH 3],.h 4,.i e.2.2]) [1,2,3,4] [(0,rwI e.1.1),(1,rwI e.1.2.2.1),(2,ROW qT 112 e.1.2.2.2),(3,ROW (rL qI) 26 e.2.1)] (some 5) (y5J m) cf79 R ⟨⟨_,R,I4⟩,⟨_,R,I4⟩,⟨_,R,I4⟩,⟨_,R,I4⟩,trivial⟩ R (.mv R (.ex R (.ex R (.ex R (.al 5 zz60 R (.st ag60.sz R (.sa R (.an R (.seq (.sv R (.bi R (.ns ?_))))))))))))))));refine .cc hm R (fun hm=>?_) fun hm=>?_
    ·refine .sr (.an R (.ret (.seqR ?_)));cases hm;exact .r0 results32 (.tmp R .nil) R R
    ·refine .sn (.sr (.lg [lH 1,lI e.1.2.1,lH 2,lH 3] ag60 R (.B R) R (.fz 1 [36] [5] R R fR R R (.fz 2 [36] [5] R R fR R R (.fz 3 [36] [5] R R fR R R (bS hm fun d o hm=> .cm (r':= .tp [.a [lH 6,lI d.1.2.1,lF qI d.1.2.2.1,lH 7,lH 8],.i d.2]) [6,7,8] [(0,rwI d.1.1),(1,rwI d.1.2.2.2.1),(2,ROW qT 112 d.1.2.2.2.2)] (some 9) (y4Y o) cf74 R ⟨⟨_,R,I4⟩,⟨_,R,I4⟩,⟨_,R,I4⟩,trivial⟩ R (.mv R (.ex R (.ex R (.al 9 zz29 R (.st ag29.sz R (.an R (.sr (.lg [lH 6,lI d.1.2.1,lF qI d.1.2.2.1,lH 7,lH 8] ag29 R (.B R) R (bS hm fun F q hm=> .op (O.caY (r':= .h 10) [10] [(0,rwI F)] (some 11) (y8I q) cf30 R R Z R R ⟨⟨R,.hr R,.rf,.rf,.hr R,.hr R,trivial⟩,trivial⟩ R ⟨.row flr3,trivial⟩ (fun _ _ _ _ h=>h) ⟨⟨_,R,I4⟩,trivial⟩ I3 R) R (.lh sl26 R (.bi R (.an R (.ret ?_)))))))))))))))))));cases hm;exact .r0 results32 (.tmp R .nil) R R
  refine .nlg rE60 60 5 0 R R (.iter (fun (g:Int×(List AutT))=>⟨[(15,.i g.1),(14,.i p1.length),(13,.f qI p1),(5,.h 0),(0,.f rE60 p0)],[(0,ROW rE60 60 g.2)],1⟩) x [] R ?_);intro g G hm D y;refine .sr (.bi R (.ns (.seq ?_)));exact .cc hm R (fun hm=> .sn (.seq (.block (.sr (bS hm fun H s hm=> .ix sl26 s R (.le nag3 lv3 R (.an R (.reg (.mv R (.mv R (.mv R (bS hm fun j t hm=> .ix sl49 t R (.lg (lx60 j) ag60 R (.E lv60) R (.op (O.bsF (r:=rE60) (zs:=([j]:List AutT)) bs49 R R Z R R R (.c (.p .l (.p .k (.p .l .l))) .n) R R R) R (bS hm fun I u hm=> .ap 1 underlying49 el60 R R (.fr R) u (.sa R (.nil (.blkN (.seqN (.reg (.bi R (.mv R (.nil ((D _ (oj hm)).sub [(0,1)] R)))))))))))))))))))))))) fun hm=> .xx ((w _ (y _ (oj hm))).s0 R)
def y5N(b:Int×LI)(a:LI):Option ((Int×LI)⊕LI):=
 some (.inl (W (b.1+1),a))
def yax(p0:Int)(a:Int×LI):Option ((Int×LI)⊕LI):=
 if decide (a.1<32) then
  (ng a.1).bind fun _=>
  if((IntKind.u32.wrap (((BitVec.ofInt 32 (p0.fdiv (2 ^ (min a.1.toNat 32))) &&& BitVec.ofInt 32 1).toNat:Int)))==1) then
   (app a.2 ([a.1]:LI)).bind fun b=>
   y5N a b
  else
   y5N a a.2
 else
  some (.inr a.2)
def y9p(p0:Int):Option LI:=
 (iter (yax p0) (0,([]:LI))).bind fun a=>
 some a
theorem yaV{p0:Int}{r:LI}(hm:y9p p0=some r):
  F0 102 [.o (lV (.int .u32 p0))] [] (.h 0) [rwI r]:=by
 refine Fw.mk2 func102 ntmps102 R (fun C=>?_) R;refine .sr (.an R (.sr (.an R (.seq (.sv R (.ns (.block (bS hm fun f l hm=>?_))))))));refine .cut1 (z:= .exit 0) f (fun (f:LI)=>⟨[(3,.h 0)],[(0,rwI f)],1⟩) ?_ fun j=>?_
 ·skip
  refine .blkE (.seqN (.sv R (.an R (.ret ?_))));cases hm;exact .rr [0] results102 (.tmp R .nil) R I3 ⟨⟨_,R,I4⟩,trivial⟩
 refine .nlg qI 3 3 0 R R (.iter (fun (a:Int×LI)=>⟨[(5,.i a.1),(3,.h 0),(0,.o (lV (.int .u32 p0)))],[(0,rwI a.2)],1⟩) l [] R ?_);intro a g hm p m;refine .sr (.bi R (.ns (.seq ?_)));refine .cc hm R (fun hm=>?_) fun hm=> .xx ((j _ (m _ (oj hm))).s0 R);refine .sn ?_;refine .join1 (fun (b:LI)=>y5N a b=some g) (fun b=>⟨[(3,.h 0),(5,.i a.1),(0,.o (lV (.int .u32 p0)))],[(0,rwI b)],1⟩) ?_ ?_
 ·intro b hm;exact .reg (.bi R (.mv R (.nil ((p _ (oj hm)).s0 R))))
 ·intro d;refine .block (.sv R (.an R (.sv R (.mv R (bS hm fun _ q hm=> .op (O.shr Z R R (y7H q) R) R (.bi R (.bi R (.ns ?_))))))));exact .cc hm R (fun hm=> .reg (.mv R (.mv R (.bf (r:=qI) ([a.1]:LI) bs26 R (.c .k .n) R (bS hm fun s e hm=> .ap 1 underlying26 el3 R R (.fr R) e (.sa R (.nil (.blkN ((d _ hm).sub [(0,1)] R))))))))) fun hm=> .skip (.blkN ((d _ hm).s0 R))
def y4c(p0:LI)(p1:LI):Option Int:=
 (yk (p0.length:Int) (p1.length:Int)).bind fun a=>
 (y3H p0 p1).bind fun b=>
 (y3O ([a,b]:LI)).bind fun c=>
 some c
theorem y7B{p0:LI}{p1:LI}{r:Int}(hm:y4c p0 p1=some r):
  F0 103 [.f qI p0,.f qI p1] [] (.i r) []:=by
 refine Fw.mk2 func103 ntmps103 R (fun C=>?_) R;refine .sr (.an R (.sv R (.ln sl26 R (.mv R (.ln sl26 R (bS hm fun e a hm=> .c0 (yp a) cf65 R (.mv R (.mv R (bS hm fun g b hm=> .c0 (y4m b) cf36 R (.bf (r:=qI) ([e,g]:LI) bs26 R (.c .k (.c .k .n)) R (bS hm fun h d hm=> .c0 (y5C d) cf64 R (.an R (.ret ?_)))))))))))));cases hm;exact .r0 results103 (.tmp R .nil) R R
def y5O(p0:LI)(p1:LI):Option Bool:=
 (y3S p0 p1).bind fun a=>
 some ((a.length:Int)==0)
theorem ya6{p0:LI}{p1:LI}{r:Bool}(hm:y5O p0 p1=some r):
  F0 105 [.f qI p0,.f qI p1] [] (.b r) []:=by
 refine Fw.mk2 func105 ntmps105 R (fun C=>?_) R;refine .sr (.an R (.sv R (.mv R (bS hm fun c a hm=> .cm (r':= .h 0) [0] [(0,rwI c)] (some 1) (y5s a) cf77 R ⟨⟨_,R,I4⟩,trivial⟩ R (.lh sl26 R (.bi R (.an R (.ret ?_))))))));cases hm;exact .r0 results105 (.tmp R .nil) R R
def yZ(a:LI)(p0:LI):Option Bool:=
 (y5O p0 a).bind fun b=>
 some b
theorem y7C{c:LI}{p0:LI}{r:Bool}(hm:yZ c p0=some r):
  F0 104 [.f qI p0,.o (lQ 26 [lF qI c] 0)] [] (.b r) []:=by
 refine Fw.mk2 func104 ntmps104 R (fun C=>?_) R;refine .sr (.an R (.sv R (.lq nag26 R (bS hm fun d a hm=> .c0 (ya6 a) cf105 R (.an R (.ret ?_))))));cases hm;exact .r0 results104 (.tmp R .nil) R R
def y1C(p0:List LI)(p1:LI→Option Bool)(a:Int):Option (Int⊕(Unit⊕Int)):=
 if decide (a<(p0.length:Int)) then
  (idx p0 a).bind fun c=>
  (p1 c).bind fun b=>
  if b then
   some (.inr (.inr (a)))
  else
   some (.inl (W (a+1)))
 else
  some (.inr (.inl ()))
def y3B(p0:List LI)(p1:LI→Option Bool):Option Int:=
 (iter (y1C p0 p1) 0).bind fun a=>
 match a with
 | .inl c=>
  some (-1)
 | .inr (b)=>
  some b
theorem y6F{p0:List LI}{p1:LI→Option Bool}{r:Int}(hm:y3B p0 p1=some r):
  F0 108 [.f (rL qI) p0,.o (lW prog (fun (x:LI)=> [.f qI x]) (fun (r:Bool)=> .b r) p1)] [] (.i r) []:=by
 refine Fw.mk2 func108 ntmps108 R (fun C=>?_) R;refine .sr (.an R (.seq (.sv R (.ln sl74 R (.mv R (.ns (.block (bS hm fun m k hm=>?_))))))));refine .cutU (z:= .exit 0) (fun h=> .inl h=m) (fun (h:Unit)=>⟨[],[],0⟩) ?_ fun K8=>?_
 ·rintro h rfl;dsimp only at hm;refine .blkE (.seqN (.sr (.an R (.ret ?_))));cases hm;exact .r0 results108 (.tmp R .nil) R R
 refine .cutU (z:= .ret) (fun a=> .inr (a)=m) (fun (a:Int)=>⟨[(4,.i a)],[],0⟩) ?_ fun j=>?_
 ·rintro a rfl;dsimp only at hm;refine .blkR (.seqR ?_);cases hm;exact .r0 results108 (.tmp R .nil) R R
 refine .iter (fun (d:Int)=>⟨[(8,.i d),(7,.i p0.length),(0,.f (rL qI) p0),(1,.o (lW prog (fun (x:LI)=> [.f qI x]) (fun (r:Bool)=> .b r) p1))],[],0⟩) k [] R ?_;intro d p hm l c;refine .sr (.bi R (.ns (.seq ?_)));refine .cc hm R (fun hm=>?_) fun hm=> .xx ((K8 _ (c _ (oj hm))).s0 R);refine .sn (.seq (.block (.sv R (.an R (.sv R (.mv R (.mv R (bS hm fun n g hm=> .ix sl74 g R (.le nag26 lv26 R (bS hm fun q e hm=>?_))))))))));refine .op (O.fv (y:=n) R R R Z R e R R) R ?_;exact .ns (.cc hm R (fun hm=> .sv R (.an R (.ret (.blkR (.seqR (.seqR ((j _ (c _ (oj hm))).s0 R))))))) fun hm=> .skip (.blkN (.seqN (.reg (.bi R (.mv R (.nil ((l _ (oj hm)).s0 R))))))))
def yo(p0:List LI)(p1:LI→Option Bool):Option Bool:=
 (y3B p0 p1).bind fun a=>
 some (decide (a≥0))
theorem y3X{p0:List LI}{p1:LI→Option Bool}{r:Bool}(hm:yo p0 p1=some r):
  F0 37 [.f (rL qI) p0,.o (lW prog (fun (x:LI)=> [.f qI x]) (fun (r:Bool)=> .b r) p1)] [] (.b r) []:=by
 refine Fw.mk2 func37 ntmps37 R (fun C=>?_) R;refine .sr (.an R (.sv R (.mv R (bS hm fun c a hm=> .c0 (y6F a) cf108 R (.bi R (.an R (.ret ?_)))))));cases hm;exact .r0 results37 (.tmp R .nil) R R
def yn(a:Int×List LI)(b:List LI):Option ((Int×List LI)⊕((List LI)⊕Int)):=
 some (.inl (W (a.1+1),b))
def yB(p0:List AutT)(d:List LI)(a:Int×List LI):Option ((Int×List LI)⊕((List LI)⊕Int)):=
 if decide (a.1<(d.length:Int)) then
  (idx d a.1).bind fun c=>
  (yo a.2 (yZ c)).bind fun e=>
  if e then
   yn a a.2
  else
   (y3m p0 c).bind fun b=>
   if(b.2 != 0) then
    some (.inr (.inr (b.2)))
   else
    if b.1 then
     (app a.2 ([c]:List LI)).bind fun f=>
     yn a f
    else
     yn a a.2
 else
  some (.inr (.inl a.2))
def y3U(a:Int×List LI)(b:List LI):Option ((Int×List LI)⊕(List LI)):=
 some (.inl (W (a.1+1),b))
def y5v(p0:List AutT)(a:Int×List LI):Option ((Int×List LI)⊕(List LI)):=
 if decide (a.1<(W (1*2 ^ (min (p0.length:Int).toNat 64)))) then
  if decide (a.1>0) then
   (y9p (IntKind.u32.wrap a.1)).bind fun b=>
   (app a.2 ([b]:List LI)).bind fun c=>
   y3U a c
  else
   y3U a a.2
 else
  some (.inr a.2)
def y4E(p0:List AutT):Option (List LI×Int):=
 (y2T p0).bind fun c=>
 if(c != 0) then
  some (([]:List LI),c)
 else
  (ng (p0.length:Int)).bind fun _=>
  (iter (y5v p0) (0,([]:List LI))).bind fun a=>
  (yz y4c a).bind fun d=>
  (iter (yB p0 d) (0,([]:List LI))).bind fun b=>
  match b with
  | .inl e=>
   some (e,0)
  | .inr (f)=>
   some (([]:List LI),f)
theorem y8J{p0:List AutT}{r:List LI×Int}(hm:y4E p0=some r):
    F0 33 [.f rE60 p0] [] (.tp [.h 0,.i r.2]) [ROW (rL qI) 26 r.1]:=by
  refine Fw.mk2 func33 ntmps33 R (fun C=>?_) R;refine .sr (.sa R (.an R (.seq (.sv R (bS hm fun r1 V hm=> .c0 (y7A V) cf100 R (.an R (.sv R (.bi R (.ns ?_)))))))));refine .cc hm R (fun hm=>?_) fun hm=>?_
  ·refine .sv R (.sa R (.an R (.ret (.seqR (.nlg (rL qI) 26 2 0 R R ?_)))));cases hm;exact .rr [0] results33 (.tmp R (.tmp R .nil)) R I3 ⟨⟨_,R,I4⟩,trivial⟩
  ·refine .sn (.sr (.an R (.seq (.sv R (.ln sl49 R (bS hm fun _ X hm=> .op (O.shl Z R R (y7H X) R) R (.mv R (.ns (.block (bS hm fun v F hm=>?_))))))))));refine .cut1 (z:= .exit 0) v (fun (v:List LI)=>⟨[(5,.h 0),(0,.f rE60 p0)],[(0,ROW (rL qI) 26 v)],1⟩) ?_ fun S=>?_
   · skip
     refine .blkE (.seqN (.sv R (bS hm fun e H hm=> .cm (r':= .tp []) [0] [(0,ROW (rL qI) 26 e)] none (y5n cf103 (fun _ _ _=>y7B) H) cf34 R ⟨⟨_,R,I4⟩,trivial⟩ R (.nr (.an R (.seq (.sv R (.lh sl74 R (.mv R (.ns (.block (bS hm fun B G hm=>?_))))))))))));refine .cutU (z:= .exit 2) (fun p=> .inl p=B) (fun (p:List LI)=>⟨[(7,.h 0)],[(0,ROW (rL qI) 26 p)],1⟩) ?_ fun T=>?_
     · rintro p rfl;dsimp only at hm;refine .blkE (.seqN (.sv R (.sa R (.an R (.ret ?_)))));cases hm;exact .rr [0] results33 (.tmp R (.tmp R .nil)) R I3 ⟨⟨_,R,I4⟩,trivial⟩
     refine .cutU (z:= .ret) (fun q=> .inr (q)=B) (fun (q:Int)=>⟨[(3,.i q),(2,.o (lN))],[],0⟩) ?_ fun U=>?_
     · rintro q rfl;dsimp only at hm;refine .blkR (.seqR (.nlg (rL qI) 26 2 0 R R ?_));cases hm;exact .rr [0] results33 (.tmp R (.tmp R .nil)) R I3 ⟨⟨_,R,I4⟩,trivial⟩
     refine .nlg (rL qI) 26 7 0 R R (.iter (fun (d:Int×List LI)=>⟨[(36,.i d.1),(35,.i e.length),(34,.h 0),(7,.h 1),(0,.f rE60 p0)],[(0,ROW (rL qI) 26 e),(1,ROW (rL qI) 26 d.2)],2⟩) G [] R ?_);intro d y hm Q u;refine .sr (.bi R (.ns (.seq ?_)));refine .cc hm R (fun hm=>?_) fun hm=> .xx ((T _ (u _ (oj hm))).sub [(0,1)] R);refine .sn ?_;refine .join1 (fun (j:List LI)=>yn d j=some y) (fun j=>⟨[(36,.i d.1),(35,.i e.length),(34,.h 0),(7,.h 1),(0,.f rE60 p0)],[(0,ROW (rL qI) 26 e),(1,ROW (rL qI) 26 j)],2⟩) ?_ ?_
     · intro j hm;exact .reg (.bi R (.mv R (.nil ((Q _ (oj hm)).s0 R))))
     · intro g;refine .block (.sr (bS hm fun E t hm=> .op (O.ir sl74 Z R R R t R) R (.op (O.ld nag26 Z R (.R R t lv26) R R) R (.al 2 zz26 R (.st nag26.sz R (.ns (.seq (.sv R (.fz 2 [9] [] R R fB R R (.op (O.mf (args:=(fun (x:LI)=> [.f qI x])) (res:=(fun (r:Bool)=> .b r)) (m:=(yZ E)) cf104 (fun x r h=>y7C h) (fun _=>R) R Z R R) R (bS hm fun Y I hm=> .op (O.caZ (y3X I) cf37 R R Z R ⟨⟨R,.hr R,trivial⟩,⟨R,LnL.rf⟩,trivial⟩ (fun _ _ _ _ _ h=>h) R) R (.ns ?_))))))))))));refine .cc hm R (fun hm=> .exit (.seqX (.blkE ((g _ hm).s0 R)))) fun hm=>?_;refine .sn (.sv R (.lq nag26 R (bS hm fun a0 J hm=> .c0 (y8k J) cf101 R (.mv R (.ex R (.ex R (.sa R (.an R (.seq (.sv R (.bi R (.ns ?_))))))))))));refine .cc hm R (fun hm=> .sv R (.sa R (.an R (.ret (.seqR (.blkR (.seqR (.seqR ((U _ (u _ (oj hm))).s0 R))))))))) fun hm=>?_;refine .sn (.sv R (.ns ?_));exact .cc hm R (fun hm=> .reg (.mv R (.lq nag26 R (.op (O.bsF (r:=(rL qI)) (zs:=([E]:List LI)) bs74 R R Z R R R (.c .l .n) R R R) R (bS hm fun a1 L hm=> .ap 3 underlying74 el26 R R (.fr R) L (.sa R (.nil (.blkN ((g _ hm).sub [(1,3)] R))))))))) fun hm=> .skip (.blkN ((g _ hm).s0 R))
   refine .nlg (rL qI) 26 5 0 R R (.iter (fun (a:Int×List LI)=>⟨[(20,.i a.1),(19,.i (W (1*2 ^ (min (p0.length:Int).toNat 64)))),(5,.h 0),(0,.f rE60 p0)],[(0,ROW (rL qI) 26 a.2)],1⟩) F [] R ?_);intro a w hm P N;refine .sr (.bi R (.ns (.seq ?_)));refine .cc hm R (fun hm=>?_) fun hm=> .xx ((S _ (N _ (oj hm))).s0 R);refine .sn ?_;refine .join1 (fun (k:List LI)=>y3U a k=some w) (fun k=>⟨[(5,.h 0),(20,.i a.1),(19,.i (W (1*2 ^ (min (p0.length:Int).toNat 64)))),(0,.f rE60 p0)],[(0,ROW (rL qI) 26 k)],1⟩) ?_ ?_
   · intro k hm;exact .reg (.bi R (.mv R (.nil ((P _ (oj hm)).s0 R))))
   · intro s;refine .block (.sv R (.an R (.sv R (.bi R (.ns ?_)))));exact .cc hm R (fun hm=> .reg (.mv R (.mv R (.op (O.cv underlying3 underlying114 Z R R) R (bS hm fun D K hm=> .cm (r':= .h 1) [1] [(0,rwI D)] (some 2) (yaV K) cf102 R ⟨⟨_,R,I4⟩,trivial⟩ R (.fz 1 [28] [] R R fR R R (.op (O.bsF (r:=(rL qI)) (zs:=([D]:List LI)) bs74 R R Z R R R (.c .l .n) R R R) R (bS hm fun a2 M hm=> .ap 2 underlying74 el26 R R (.fr R) M (.sa R (.nil (.blkN ((s _ hm).sub [(0,2)] R)))))))))))) fun hm=> .skip (.blkN ((s _ hm).s0 R))
def y1P(p0:LI)(p1:LI):Option Int:=
 if((p0.length:Int) != (p1.length:Int)) then
  some (W ((p0.length:Int)-(p1.length:Int)))
 else
  (y3H p0 p1).bind fun a=>
  some a
theorem y4S{p0:LI}{p1:LI}{r:Int}(hm:y1P p0 p1=some r):
    F0 35 [.f qI p0,.f qI p1] [] (.i r) []:=by
  refine Fw.mk2 func35 ntmps35 R (fun C=>?_) R;refine .sr (.an R (.seq (.sv R (.ln sl26 R (.mv R (.ln sl26 R (.bi R (.ns ?_))))))));refine .cc hm R (fun hm=>?_) fun hm=>?_
  ·refine .sv R (.ln sl26 R (.mv R (.ln sl26 R (.bi R (.an R (.ret (.seqR ?_)))))));cases hm;exact .r0 results35 (.tmp R .nil) R R
  ·refine .sn (.sv R (.mv R (bS hm fun b a hm=> .c0 (y4m a) cf36 R (.an R (.ret ?_)))));cases hm;exact .r0 results35 (.tmp R .nil) R R
def yC(a:LI)(p0:Int):Option Bool:=
 (yw a p0).bind fun b=>
 some (!b)
theorem y4K{c:LI}{p0:Int}{r:Bool}(hm:yC c p0=some r):
  F0 40 [.i p0,.o (lQ 26 [lF qI c] 0)] [] (.b r) []:=by
 refine Fw.mk2 func40 ntmps40 R (fun C=>?_) R;refine .sr (.an R (.sr (.lq nag26 R (.mv R (bS hm fun d a hm=> .c0 (y2P a) cf41 R (.no R (.an R (.ret ?_))))))));cases hm;exact .r0 results40 (.tmp R .nil) R R
def ym(a:LI)(p0:LI):Option Bool:=
 (yL p0 (yC a)).bind fun b=>
 some (!b)
theorem y4T{a:LI}{p0:LI}{r:Bool}(hm:ym a p0=some r):
  F0 38 [.f qI p0,.o (lQ 26 [lF qI a] 0)] [] (.b r) []:=by
 refine Fw.mk2 func38 ntmps38 R (fun C=>?_) R;refine .sr (.an R (.sv R (.op (O.mf (args:=(fun (x:Int)=> [.i x])) (res:=(fun (r:Bool)=> .b r)) (m:=(yC a)) cf40 (fun x r h=>y4K h) (fun _=>R) R Z R R) R (bS hm fun d c hm=> .c0 (y4F c) cf39 R (.no R (.an R (.ret ?_)))))));cases hm;exact .r0 results38 (.tmp R .nil) R R
def y1t(p0:List LI)(p1:List LI)(p2:LI→LI→Option Bool)(a:Int):Option (Int⊕(Unit⊕Unit)):=
 if decide (a<(p0.length:Int)) then
  (idx p0 a).bind fun c=>
  (idx p1 a).bind fun d=>
  (p2 c d).bind fun b=>
  if(!b) then
   some (.inr (.inr (())))
  else
   some (.inl (W (a+1)))
 else
  some (.inr (.inl ()))
def yR(p0:List LI)(p1:List LI)(p2:LI→LI→Option Bool):Option Bool:=
 if((p0.length:Int) != (p1.length:Int)) then
  some false
 else
  (iter (y1t p0 p1 p2) 0).bind fun a=>
  match a with
  | .inl b=>
   some true
  | .inr (c)=>
   some false
theorem y5w{p0:List LI}{p1:List LI}{p2:LI→LI→Option Bool}{r:Bool}(hm:yR p0 p1 p2=some r):
    F0 42 [.f (rL qI) p0,.f (rL qI) p1,.o (lW prog (fun (x:LI×LI)=> [.f qI x.1,.f qI x.2]) (fun (r:Bool)=> .b r) (fun x=>p2 x.1 x.2))] [] (.b r) []:=by
  refine Fw.mk2 func42 ntmps42 R (fun C=>?_) R;refine .sr (.an R (.seq (.sv R (.ln sl74 R (.mv R (.ln sl74 R (.bi R (.ns ?_))))))));refine .cc hm R (fun hm=>?_) fun hm=>?_
  ·refine .sr (.an R (.ret (.seqR ?_)));cases hm;exact .r0 results42 (.tmp R .nil) R R
  ·refine .sn (.seq (.sv R (.ln sl74 R (.mv R (.ns (.block (bS hm fun n l hm=>?_)))))));refine .cutU (z:= .exit 0) (fun h=> .inl h=n) (fun (h:Unit)=>⟨[],[],0⟩) ?_ fun K8=>?_
   · rintro h rfl;dsimp only at hm;refine .blkE (.seqN (.sr (.an R (.ret ?_))));cases hm;exact .r0 results42 (.tmp R .nil) R R
   refine .cutU (z:= .ret) (fun j=> .inr (j)=n) (fun (j:Unit)=>⟨[(6,.b false)],[],0⟩) ?_ fun k=>?_
   · rintro j rfl;dsimp only at hm;refine .blkR (.seqR ?_);cases hm;exact .r0 results42 (.tmp R .nil) R R
   refine .iter (fun (c:Int)=>⟨[(17,.i c),(16,.i p0.length),(15,.f (rL qI) p0),(1,.f (rL qI) p1),(2,.o (lW prog (fun (x:LI×LI)=> [.f qI x.1,.f qI x.2]) (fun (r:Bool)=> .b r) (fun x=>p2 x.1 x.2)))],[],0⟩) l [] R ?_;intro c s hm m a;refine .sr (.bi R (.ns (.seq ?_)));refine .cc hm R (fun hm=>?_) fun hm=> .xx ((K8 _ (a _ (oj hm))).s0 R);refine .sn (.seq (.block (.sv R (bS hm fun p e hm=> .ix sl74 e R (.le nag26 lv26 R (.sa R (.an R (.sv R (.mv R (bS hm fun q g hm=> .ix sl74 g R (.le nag26 lv26 R (.an R (.sv R (.mv R (.mv R (bS hm fun t d hm=>?_))))))))))))))));refine .op (O.fv (y:=(p,q)) R R R Z R d R R) R ?_;refine .no R (.ns ?_);exact .cc hm R (fun hm=> .sr (.an R (.ret (.blkR (.seqR (.seqR ((k _ (a _ (oj hm))).s0 R))))))) fun hm=> .skip (.blkN (.seqN (.reg (.bi R (.mv R (.nil ((m _ (oj hm)).s0 R)))))))
def yI(p0:LI)(p1:LI):Option Bool:=
 (y2p p0 p1).bind fun a=>
 some a
theorem y4U{p0:LI}{p1:LI}{r:Bool}(hm:yI p0 p1=some r):
  F0 43 [.f qI p0,.f qI p1] [] (.b r) []:=by
 refine Fw.mk2 func43 ntmps43 R (fun C=>?_) R;refine .sr (.an R (.sv R (.mv R (bS hm fun c a hm=> .c0 (y4I a) cf21 R (.an R (.ret ?_))))));cases hm;exact .r0 results43 (.tmp R .nil) R R
def yd(a:Int×List LI)(b:List LI):Option ((Int×List LI)⊕(List LI)):=
 some (.inl (W (a.1+1),b))
def yf(h:(List AutT))(c:List LI)(a:Int×List LI):Option ((Int×List LI)⊕(List LI)):=
 if decide (a.1<(c.length:Int)) then
  (idx c a.1).bind fun b=>
  (yo a.2 (ym b)).bind fun e=>
  (if (!e) then
   (y2L h b).bind fun f=>
   some (!f)
  else
   some false).bind fun d=>
  if d then
   (app a.2 ([b]:List LI)).bind fun g=>
   yd a g
  else
   yd a a.2
 else
  some (.inr a.2)
def y1u(a:Int×LI)(b:LI):Option ((Int×LI)⊕LI):=
 some (.inl (W (a.1+1),b))
def y5a(d:(List AutT))(b:Int×List LI)(a:Int×LI):Option ((Int×LI)⊕LI):=
 if decide (a.1<(d.length:Int)) then
  (ng a.1).bind fun _=>
  if((W (((BitVec.ofInt 64 (b.1.fdiv (2 ^ (min a.1.toNat 64))) &&& BitVec.ofInt 64 1).toNat:Int)))==1) then
   (app a.2 ([a.1]:LI)).bind fun c=>
   y1u a c
  else
   y1u a a.2
 else
  some (.inr a.2)
def y3g(b:(List AutT))(a:Int×List LI):Option ((Int×List LI)⊕(List LI)):=
 (ng (b.length:Int)).bind fun _=>
 if decide (a.1<(W (1*2 ^ (min (b.length:Int).toNat 64)))) then
  (iter (y5a b a) (0,([]:LI))).bind fun c=>
  (app a.2 ([c]:List LI)).bind fun d=>
  some (.inl (W (a.1+1),d))
 else
  some (.inr a.2)
def y2e(p0:(Int×Int×Int×Int)×(yi×yi×yi×yi)×Int):Option Bool:=
 (y4D).bind fun h=>
 if(!h) then
  some false
 else
  (y3J p0).bind fun a=>
  (y4E a).bind fun f=>
  (iter (y3g a) (1,([]:List LI))).bind fun c=>
  (yz y1P c).bind fun e=>
  (iter (yf a e) (0,([]:List LI))).bind fun d=>
  (if (f.2==0) then
   (yR f.1 d yI).bind fun g=>
   some g
  else
   some false).bind fun b=>
  some b
theorem y5x{p0:(Int×Int×Int×Int)×(yi×yi×yi×yi)×Int}{r:Bool}(hm:y2e p0=some r):
    F0 8 [.a (lx48 p0)] [] (.b r) []:=by
  refine Fw.mk2 func8 ntmps8 R (fun C=>?_) R;refine .sr (.bo 0 R (.an R (.seq (.sr (bS hm fun r1 b2 hm=> .c0 (y8F b2) cf11 R (.no R (.ns ?_)))))));refine .cc hm R (fun hm=>?_) fun hm=>?_
  ·refine .sr (.an R (.ret (.seqR ?_)));cases hm;exact .r0 results8 (.tmp R .nil) R R
  ·refine .sn (.sr (.lg (lx48 p0) ag48 R (.B R) R (bS hm fun q b3 hm=> .cm (r':= .h 1) [1] [(0,ROW rE60 60 q)] (some 2) (y8Z b3) cf16 R ⟨⟨_,R,I4⟩,trivial⟩ R (.an R (.sv R (.fz 1 [19,3] [] R R fR R R (bS hm fun e b4 hm=> .cm (r':= .tp [.h 2,.i e.2]) [2] [(0,ROW (rL qI) 26 e.1)] (some 3) (y8J b4) cf33 R ⟨⟨_,R,I4⟩,trivial⟩ R (.mv R (.ex R (.ex R (.sa R (.an R (.sr (.an R (.seq (.sr (.an R (.block (bS hm fun E N hm=>?_)))))))))))))))))));refine .cut1 (z:= .exit 0) E (fun (E:List LI)=>⟨[(6,.h 0),(5,.i e.2),(4,.h 1),(3,.f rE60 q)],[(0,ROW (rL qI) 26 E),(1,ROW (rL qI) 26 e.1)],2⟩) ?_ fun a7=>?_
   · skip
     refine .blkE (.seqN (.sv R (bS hm fun s T hm=> .cm (r':= .tp []) [0] [(0,ROW (rL qI) 26 s)] none (y5n cf35 (fun _ _ _=>y4S) T) cf34 R ⟨⟨_,R,I4⟩,trivial⟩ R (.nr (.an R (.seq (.sv R (.lh sl74 R (.mv R (.ns (.block (bS hm fun F P hm=>?_))))))))))));refine .cut1 (z:= .exit 4) F (fun (F:List LI)=>⟨[(10,.h 0),(5,.i e.2),(4,.h 1)],[(0,ROW (rL qI) 26 F),(1,ROW (rL qI) 26 e.1)],2⟩) ?_ fun a8=>?_
     · skip
       refine .blkE (.seqN (.sv R (.bi R (.mv R (bS hm fun b0 eb45 hm=>?_)))));refine .cut 4 (fun (G:Bool)=>b0=G) (fun G=>⟨[(79,.b G)],[],2⟩) ?_ ?_
       · rintro _ rfl;refine .an R (.ret ?_);cases hm;exact .r0 results8 (.tmp R .nil) R R
       · intro L;rcases ifS eb45 with ⟨hc,hm⟩|⟨hc,hm⟩
         · refine .know (d:=75) R hc ?_;exact .mg R (.mg R (bS hm fun b5 U hm=> .op (O.caZ (y5w U) cf42 R R (Gu.mk R R) R ⟨⟨R,.hr R,trivial⟩,⟨R,.hr R,trivial⟩,⟨R,(.cv .rf (.fn cf43 (fun x r h=>y4U h) (fun _=>R))),trivial⟩,trivial⟩ (fun _ _ _ _ _ h=>h) R) R (.pT R ((L b5 (oj hm)).s0 R))))
         · refine .know (d:=75) R hc ?_;exact .s2 R R (.sk R (.pF R ((L false (oj hm)).s0 R)))
     refine .nlg (rL qI) 26 10 0 R R (.iter (fun (j:Int×List LI)=>⟨[(53,.i j.1),(52,.i s.length),(51,.h 0),(10,.h 1),(5,.i e.2),(4,.h 2),(3,.f rE60 q)],[(0,ROW (rL qI) 26 s),(1,ROW (rL qI) 26 j.2),(2,ROW (rL qI) 26 e.1)],3⟩) P [(1,2),(2,1)] R ?_);intro j J hm a5 a2;refine .sr (.bi R (.ns (.seq ?_)));refine .cc hm R (fun hm=>?_) fun hm=> .xx ((a8 _ (a2 _ (oj hm))).sub [(0,1),(1,2)] R);refine .sn ?_;refine .join1 (fun (t:List LI)=>yd j t=some J) (fun t=>⟨[(10,.h 0),(53,.i j.1),(52,.i s.length),(51,.h 1),(5,.i e.2),(4,.h 2),(3,.f rE60 q)],[(0,ROW (rL qI) 26 t),(1,ROW (rL qI) 26 s),(2,ROW (rL qI) 26 e.1)],3⟩) ?_ ?_
     · intro t hm;exact .reg (.bi R (.mv R (.nil ((a5 _ (oj hm)).sub [(0,1),(1,0)] R))))
     · intro w;refine .block (.sr (bS hm fun I D hm=> .op (O.ir sl74 Z R R R D R) R (.op (O.ld nag26 Z R (.R R D lv26) R R) R (.al 3 zz26 R (.st nag26.sz R (.nr (.mv R (.fz 3 [12] [] R R fB R R (.op (O.mf (args:=(fun (x:LI)=> [.f qI x])) (res:=(fun (r:Bool)=> .b r)) (m:=(ym I)) cf38 (fun x r h=>y4T h) (fun _=>R) R Z R R) R (bS hm fun c1 V hm=> .op (O.caZ (y3X V) cf37 R R Z R ⟨⟨R,.hr R,trivial⟩,⟨R,LnL.rf⟩,trivial⟩ (fun _ _ _ _ _ h=>h) R) R (.an R (.sv R (.no R (.mv R (bS hm fun b1 eb53 hm=>?_)))))))))))))));refine .cut 5 (fun (H:Bool)=>b1=H) (fun H=>⟨[(67,.b H),(12,.o (lQ 26 [lF qI I] 0)),(53,.i j.1),(52,.i s.length),(51,.h 0),(10,.h 1),(5,.i e.2),(4,.h 2),(3,.f rE60 q)],[(0,ROW (rL qI) 26 s),(1,ROW (rL qI) 26 j.2),(2,ROW (rL qI) 26 e.1)],4⟩) ?_ ?_
       · rintro _ rfl;exact .ns (.cc hm R (fun hm=> .reg (.mv R (.lq nag26 R (.op (O.bsF (r:=(rL qI)) (zs:=([I]:List LI)) bs74 R R Z R R R (.c .l .n) R R R) R (bS hm fun c2 X hm=> .ap 4 underlying74 el26 R R (.fr R) X (.sa R (.nil (.blkN ((w _ hm).sub [(0,4),(1,0)] R))))))))) fun hm=> .skip (.blkN ((w _ hm).sub [(0,1),(1,0)] R)))
       · intro M;rcases ifS eb53 with ⟨hc,hm⟩|⟨hc,hm⟩
         · refine .know (d:=62) R hc ?_;exact .mg R (.op (O.ld nag26 (Gu.mk R R) R .Q R R) R (bS hm fun b6 W hm=> .op (O.ca0 (y7o W) cf32 R R (Gu.mk R R) R R R) R (.op (O.not (Gu.mk R R) R R) R (.pT R ((M (!b6) (oj hm)).s0 R)))))
         · refine .know (d:=62) R hc ?_;exact .s2 R R (.s2 R R (.pF R ((M false (oj hm)).s0 R)))
   refine .nlg (rL qI) 26 6 0 R R (.iter (fun (g:Int×List LI)=>⟨[(7,.i g.1),(6,.h 0),(5,.i e.2),(4,.h 1),(3,.f rE60 q)],[(0,ROW (rL qI) 26 g.2),(1,ROW (rL qI) 26 e.1)],2⟩) N [(0,3),(1,2)] R ?_);intro g b9 hm a4 a1;refine .seq (.sv R (.mv R (.ln sl49 R (bS hm fun _ b7 hm=> .op (O.shl Z R R (y7H b7) R) R (.bi R (.ns ?_))))));refine .cc hm R (fun hm=>?_) fun hm=> .xx ((a7 _ (a1 _ (oj hm))).s0 R);refine .sn (.seq (.block (.sr (.an R (.seq (.sv R (.ln sl49 R (.mv R (.ns (.block (bS hm fun v S hm=>?_)))))))))));refine .cut1 (z:= .exit 2) v (fun (v:LI)=>⟨[(8,.h 0),(7,.i g.1),(6,.h 1),(5,.i e.2),(4,.h 2),(3,.f rE60 q)],[(0,rwI v),(1,ROW (rL qI) 26 g.2),(2,ROW (rL qI) 26 e.1)],3⟩) ?_ fun a9=>?_
   · skip
     exact .blkE (.seqN (.reg (.mv R (.mv R (.fz 0 [46] [] R R fR R R (.op (O.bsF (r:=(rL qI)) (zs:=([v]:List LI)) bs74 R R Z R R R (.c .l .n) R R R) R (bS hm fun c3 Y hm=> .ap 3 underlying74 el26 R R (.fr R) Y (.sa R (.nil (.blkN (.seqN (.reg (.mv R (.bi R (.sa R (.nil ((a4 _ (oj hm)).sub [(0,3),(1,2)] R)))))))))))))))))
   refine .nlg qI 3 8 0 R R (.iter (fun (p:Int×LI)=>⟨[(32,.i p.1),(31,.i q.length),(8,.h 0),(7,.i g.1),(6,.h 1),(5,.i e.2),(4,.h 2),(3,.f rE60 q)],[(0,rwI p.2),(1,ROW (rL qI) 26 g.2),(2,ROW (rL qI) 26 e.1)],3⟩) S [(0,2),(1,0),(2,1)] R ?_);intro p K hm a6 a3;refine .sr (.bi R (.ns (.seq ?_)));refine .cc hm R (fun hm=>?_) fun hm=> .xx ((a9 _ (a3 _ (oj hm))).s0 R);refine .sn ?_;refine .join1 (fun (u:LI)=>y1u p u=some K) (fun u=>⟨[(8,.h 0),(32,.i p.1),(31,.i q.length),(7,.i g.1),(6,.h 1),(5,.i e.2),(4,.h 2),(3,.f rE60 q)],[(0,rwI u),(1,ROW (rL qI) 26 g.2),(2,ROW (rL qI) 26 e.1)],3⟩) ?_ ?_
   · intro u hm;exact .reg (.bi R (.mv R (.nil ((a6 _ (oj hm)).s0 R))))
   · intro y;refine .block (.sv R (.an R (.sv R (.mv R (bS hm fun _ b8 hm=> .op (O.shr Z R R (y7H b8) R) R (.bi R (.bi R (.ns ?_))))))));exact .cc hm R (fun hm=> .reg (.mv R (.mv R (.bf (r:=qI) ([p.1]:LI) bs26 R (.c .k .n) R (bS hm fun c4 a0 hm=> .ap 3 underlying26 el3 R R (.fr R) a0 (.sa R (.nil (.blkN ((y _ hm).sub [(0,3)] R))))))))) fun hm=> .skip (.blkN ((y _ hm).s0 R))
end
end
section
open Go.Proofs.Tryz
def wval(u:LI):Int:=u.foldl (fun acc e=>33*acc+e+1) 0
theorem y2s(u:LI)(e:Int):wval (u++[e])=33*wval u+e+1:=by simp [wval,List.foldl_append]
def Evs(u:LI):Prop:=∀e∈u,0≤e∧e<32
theorem Evs.nil :Evs []:=fun e h=>by cases h
theorem Evs.snoc{u:LI}{e:Int}(h:Evs u)(h0:0≤e)(h1:e<32):Evs (u++[e]):=by
 intro x hx;rcases yMa.1 hx with h2|h2
 ·exact h x h2
 ·rw [yMs.1 h2];exact⟨h0,h1⟩
theorem Evs.of_snoc{u:LI}{e:Int}(h:Evs (u++[e])):Evs u∧0≤e∧e<32:=
 ⟨fun x hx=>h x (yMl _ hx),h e (by simp)⟩
theorem y8l{α:Type}{P:List α→Prop}(h0:P [])(h1:∀u e,P u→P (u++[e]))(u:List α):P u:=by
 have h2:∀n (u:List α),u.length=n→P u:=by
  intro n
  induction n with
  | zero=>intro u hu;rw [yLz hu];exact h0
  | succ n ih=>
   intro u hu;rcases List.eq_nil_or_concat u with rfl|⟨l,b,rfl⟩
   ·cases hu
   ·have hl:l.length=n:=by simpa using hu
    simpa using h1 l b (ih l hl)
 exact h2 _ u rfl
theorem y9a(u:LI):Evs u→0≤wval u:=by
 refine y8l (P:=fun u=>Evs u→0≤wval u) (fun _=>Int.le_refl 0) (fun u e ih h=>?_) u;have h1:=h.of_snoc;have:=ih h1.1;rw [y2s];omega
def wlo :Nat→Int
 | 0=>0
 | n+1=>33*wlo n+1
def whi :Nat→Int
 | 0=>0
 | n+1=>33*whi n+32
theorem yf4(u:LI):Evs u→wlo u.length≤wval u∧wval u≤whi u.length:=by
 refine y8l (P:=fun u=>Evs u→wlo u.length≤wval u∧wval u≤whi u.length) (fun _=>⟨Int.le_refl _,Int.le_refl _⟩) (fun u e ih h=>?_) u;have h1:=h.of_snoc;have:=ih h1.1;rw [y2s,yLa,List.length_singleton,wlo,whi];omega
theorem yhq(n:Nat):whi n<wlo (n+1):=by
 induction n with
 | zero=>decide
 | succ n ih=>rw [whi,wlo];omega
theorem yfP{m n:Nat}(h:m≤n):wlo m≤wlo n:=by
 induction n with
 | zero=>
  obtain rfl:m=0:=by omega
  exact Int.le_refl _
 | succ n ih=>
  by_cases e:m=n+1
  ·rw [e];exact Int.le_refl _
  ·have h1:=ih (by omega);have h2:0≤wlo n:=by
    clear h1 ih h e
    induction n with
    | zero=>exact Int.le_refl _
    | succ n ih=>rw [wlo];omega
   rw [wlo];omega
theorem yfQ{u v:LI}(hu:Evs u)(hv:Evs v)(h:wval u≤wval v):u.length≤v.length:=by
 by_cases hlt:v.length<u.length
 ·have h1:=(yf4 u hu).1;have h2:=(yf4 v hv).2;have h3:=yhq v.length;have h4:=yfP (show v.length+1≤u.length by omega);omega
 ·omega
def Leads(es:List Ed)(perm:Ed→Bool)(s:Int):LI→Int→Prop
 | [],t=>s=t
 | e::u,t=>∃x∈es,x.f=s∧x.e=e∧perm x=true∧Leads es perm x.t u t
theorem Leads.snoc{es:List Ed}{perm:Ed→Bool}:∀{u:LI} {s t:Int},Leads es perm s u t→∀{x:Ed},x∈es→x.f=t→perm x=true→Leads es perm s (u++[x.e]) x.t
 | [],s,t,h,x,hx,hf,hp=>⟨x,hx,by rw [hf];exact h.symm,rfl,hp,rfl⟩
 | e::u,s,t,⟨y,hy,h1,h2,h3,h4⟩,x,hx,hf,hp=>⟨y,hy,h1,h2,h3,h4.snoc hx hf hp⟩
theorem Leads.of_snoc{es:List Ed}{perm:Ed→Bool}{e:Int}:∀{u:LI} {s t:Int},Leads es perm s (u++[e]) t→∃x∈es,Leads es perm s u x.f∧x.e=e∧x.t=t∧perm x=true
 | [],s,t,⟨y,hy,h1,h2,h3,h4⟩=>⟨y,hy,h1.symm,h2,h4,h3⟩
 | a::u,s,t,⟨y,hy,h1,h2,h3,h4⟩=>by
  obtain⟨x,hx,g1,g2,g3,g4⟩:=Leads.of_snoc (u:=u) h4;exact⟨x,hx,⟨y,hy,h1,h2,h3,g1⟩,g2,g3,g4⟩
def EvEs(es:List Ed):Prop:=∀x∈es,0≤x.e∧x.e<32
theorem Leads.evs{es:List Ed}{perm:Ed→Bool}(he:EvEs es):∀{u:LI} {s t:Int},Leads es perm s u t→Evs u
 | [],_,_,_=>Evs.nil
 | e::u,s,t,⟨y,hy,h1,h2,h3,h4⟩=>by
  intro z hz;rcases yMo.1 hz with rfl|hz
  ·rw [←h2];exact he y hy
  ·exact Leads.evs he h4 z hz
structure Found (es:List Ed) (perm:Ed→Bool) (s:Int) (L:List (LI×Int)) (b:Int):Prop where
 lead:∀r∈L,Leads es perm s r.1 r.2
 sorted:∀j k:Nat,j<k→∀r r':LI×Int,L[j]? =some r→L[k]? =some r'→wval r.1<wval r'.1
 bd:∀r∈L,wval r.1≤b
def y3V(es:List Ed)(perm:Ed→Bool)(L:List (LI×Int))(m i:Nat):Prop:=
 ∀j:Nat,j<i→∀r:LI×Int,L[j]? =some r→∀x∈es,x.f=r.2→perm x=true→∃k:Nat,m≤k∧∃r':LI×Int,L[k]? =some r'∧r'.2=x.t∧wval r'.1≤33*wval r.1+x.e+1
section
variable{es:List Ed}{perm:Ed→Bool}{s:Int}{L:List (LI×Int)}{b:Int}{m i:Nat}
theorem Found.push(h:Found es perm s L b){w:LI}{t:Int}(hl:Leads es perm s w t)(hb:b<wval w):Found es perm s (L++[(w,t)]) (wval w):=by
 refine⟨fun r hr=>?_,fun j k hjk r r' hj hk=>?_,fun r hr=>?_⟩
 ·rcases yMa.1 hr with h1|h1
  ·exact h.lead r h1
  ·rw [yMs.1 h1];exact hl
 ·by_cases hk2:k<L.length
  ·rw [yAl hk2] at hk;rw [yAl (by omega)] at hj;exact h.sorted j k hjk r r' hj hk
  ·rw [yAr (by omega)] at hk;have h3:k-L.length=0:=by
    by_cases h4:k-L.length=0
    ·exact h4
    ·rw [yGn (by simp;omega)] at hk;cases hk
   rw [h3] at hk;simp only [List.getElem?_cons_zero,yIj] at hk;subst hk;rw [yAl (by omega)] at hj;have:=h.bd r (List.mem_of_getElem? hj);dsimp only;omega
 ·rcases yMa.1 hr with h1|h1
  ·have:=h.bd r h1;omega
  ·rw [yMs.1 h1];exact Int.le_refl _
theorem Found.mono(h:Found es perm s L b){j k:Nat}(hjk:j≤k){r r':LI×Int}(hj:L[j]? =some r)(hk:L[k]? =some r'):wval r.1≤wval r'.1:=by
 by_cases e:j=k
 ·subst e;rw [hj] at hk;cases hk;exact Int.le_refl _
 ·exact Int.le_of_lt (h.sorted j k (by omega) r r' hj hk)
theorem y3V.append(h:y3V es perm L m i)(hi:i≤L.length)(M:List (LI×Int)):y3V es perm (L++M) m i:=by
 intro j hj r hr x hx hf hp;rw [yAl (by omega)] at hr;obtain⟨k,hk,r',hr',h1,h2⟩:=h j hj r hr x hx hf hp;refine⟨k,hk,r',?_,h1,h2⟩;rw [yAl (by have:=(yGs.1 hr').1;omega)];exact hr'
theorem y3V.place(he:EvEs es)(hF:Found es perm s L b)(hC:y3V es perm L m i)(h0:L[0]? =some ([],s))(u:LI):
  ∀t,Leads es perm s u t→(∃(k:Nat) (r:LI×Int),(u= []∨m≤k)∧L[k]? =some r∧r.2=t∧wval r.1≤wval u)∨(∃r:LI×Int,L[i]? =some r∧wval r.1<wval u)∨L.length≤i:=by
 induction u using y8l with
 | h0=>
  intro t ht;refine .inl ⟨0,_,.inl rfl,h0,ht,Int.le_refl _⟩
 | h1 u e ih=>
  intro t ht;by_cases hil:L.length≤i
  ·exact .inr (.inr hil)
  obtain⟨x,hx,g1,rfl,rfl,g4⟩:=ht.of_snoc;have hxe:=he x hx;have hi:L[i]? =some L[i]:=yGe (by omega);have hu:=y9a u (g1.evs he);rcases ih x.f g1 with ⟨k,r,hk0,hk,hr,hle⟩|⟨r,hk,hle⟩|h3
  ·by_cases hki:k<i
   ·obtain ⟨k',hk',r',h1,h2,h3⟩:=hC k hki r hk x hx hr.symm g4;refine .inl ⟨k',r',.inr hk',h1,h2,?_⟩;rw [y2s];omega
   ·refine .inr (.inl ⟨_,hi,?_⟩);have:=hF.mono (show i≤k by omega) hi hk;rw [y2s];omega
  ·refine .inr (.inl ⟨r,hk,?_⟩);rw [y2s];omega
  ·exact .inr (.inr h3)
theorem y3V.all(_he:EvEs es)(hC:y3V es perm L m L.length)(h0:L[0]? =some ([],s))(u:LI):
  ∀t,Leads es perm s u t→∃(k:Nat) (r:LI×Int),(u= []∨m≤k)∧L[k]? =some r∧r.2=t∧wval r.1≤wval u:=by
 induction u using y8l with
 | h0=>
  intro t ht;exact⟨0,_,.inl rfl,h0,ht,Int.le_refl _⟩
 | h1 u e ih=>
  intro t ht;obtain⟨x,hx,g1,rfl,rfl,g4⟩:=ht.of_snoc;obtain⟨k,r,hk0,hk,hr,hle⟩:=ih x.f g1;obtain⟨k',hk',r',h1,h2,h3⟩:=hC k (yGs.1 hk).1 r hk x hx hr.symm g4;refine⟨k',r',.inr hk',h1,h2,?_⟩;rw [y2s];omega
structure Least (es:List Ed) (perm:Ed→Bool) (want:Int→Bool) (s:Int) (least:Nat) (w:LI):Prop where
 ev:Evs w
 len:least≤w.length
 leads:∃t,Leads es perm s w t∧want t=true
 le:∀u t,Leads es perm s u t→want t=true→least≤u.length→wval w≤wval u
theorem Found.least{want:Int→Bool}(he:EvEs es)(hF:Found es perm s L b)(hC:y3V es perm L 0 i)(h0:L[0]? =some ([],s)){r:LI×Int}(hi:L[i]? =some r)(hw:want r.2=true)
  (hn:∀j:Nat,j<i→∀r:LI×Int,L[j]? =some r→want r.2=false):Least es perm want s 0 r.1:=by
 have hl:=hF.lead r (List.mem_of_getElem? hi);refine⟨hl.evs he,yZl _,⟨_,hl,hw⟩,fun u t hu ht _=>?_⟩;rcases hC.place he hF h0 u t hu with ⟨k,r',hk0,hk,hr,hle⟩|⟨r',hk,hle⟩|h3
 ·by_cases hki:k<i
  ·have:=hn k hki r' hk;rw [hr,ht] at this;cases this
  ·have:=hF.mono (show i≤k by omega) hi hk;omega
 ·rw [hi] at hk;cases hk;omega
 ·have:=(yGs.1 hi).1;omega
theorem y3V.none{want:Int→Bool}(he:EvEs es)(hC:y3V es perm L 0 L.length)(h0:L[0]? =some ([],s))(hn:∀(j:Nat) (r:LI×Int),L[j]? =some r→want r.2=false):
  ∀u t,Leads es perm s u t→want t=false:=by
 intro u t hu;obtain⟨k,r,_,hk,rfl,_⟩:=hC.all he h0 u t hu;exact hn k r hk
end
def edLt(x y:Ed):Prop:=x.f<y.f∨(x.f=y.f∧x.e<y.e)
def y7a(es:List Ed):Prop:=es.Pairwise edLt
theorem ybe :∀(es:List Ed),es.Pairwise (fun x y=>x.f≤y.f)→∀s:Int,es.drop (es.countP fun x=>decide (x.f<s))=es.filter fun x=>!decide (x.f<s)
 | [],_,_=>rfl
 | x::l,h,s=>by
  obtain⟨h1,h2⟩:=yPc.1 h;by_cases hx:x.f<s
  ·rw [List.countP_cons_of_pos (by simpa using hx),List.drop_succ_cons,ybe l h2 s,List.filter_cons_of_neg (by simpa using hx)]
  ·have h3:∀y∈l,¬y.f<s:=fun y hy=>by have:=h1 y hy;omega
   have h4:l.countP (fun x=>decide (x.f<s))=0:=by
    rw [List.countP_eq_zero];intro y hy;simpa using h3 y hy
   rw [List.countP_cons_of_neg (by simpa using hx),h4,List.drop_zero];symm;rw [List.filter_eq_self];intro y hy;rcases yMo.1 hy with rfl|hy
   ·simpa using hx
   ·simpa using h3 y hy
theorem ybf :∀(es:List Ed),es.Pairwise (fun x y=>x.f≤y.f)→∀s:Int,es.take (es.countP fun x=>decide (x.f<s))=es.filter fun x=>decide (x.f<s)
 | [],_,_=>rfl
 | x::l,h,s=>by
  obtain⟨h1,h2⟩:=yPc.1 h;by_cases hx:x.f<s
  ·rw [List.countP_cons_of_pos (by simpa using hx),List.take_succ_cons,ybf l h2 s,List.filter_cons_of_pos (by simpa using hx)]
  ·have h3:∀y∈l,¬y.f<s:=fun y hy=>by have:=h1 y hy;omega
   have h4:l.countP (fun x=>decide (x.f<s))=0:=by
    rw [List.countP_eq_zero];intro y hy;simpa using h3 y hy
   rw [List.countP_cons_of_neg (by simpa using hx),h4,List.take_zero];symm;rw [List.filter_eq_nil_iff];intro y hy;rcases yMo.1 hy with rfl|hy
   ·simpa using hx
   ·simpa using h3 y hy
theorem y7a.le{es:List Ed}(h:y7a es):es.Pairwise (fun x y=>x.f≤y.f):=List.Pairwise.imp (fun {x y} (h:edLt x y)=>by unfold edLt at h;omega) h
theorem yfR{es:List Ed}(h:y7a es)(s:Int):subOf es s=es.filter fun x=>decide (x.f=s):=by
 have h1:=ybf es h.le (s+1);have h2:(es.filter fun x=>decide (x.f<s+1)).Pairwise (fun x y=>x.f≤y.f):=h.le.filter _;have h3:=ybe _ h2 s;have h4:(es.filter fun x=>decide (x.f<s+1)).countP (fun x=>decide (x.f<s))=es.countP fun x=>decide (x.f<s):=by
  rw [List.countP_filter];apply List.countP_congr;intro x _;simp only [yAe,decide_eq_true_eq];omega
 rw [h4,←h1,List.drop_take] at h3;rw [subOf,edSub,fstN,fstN,h3,h1,List.filter_filter];apply List.filter_congr;intro x _;rw [Bool.eq_iff_iff];simp only [yAe,Bool.not_eq_true',decide_eq_true_eq,decide_eq_false_iff_not];omega
theorem yak{steps:List St}{y:St}(hp:∀j (h:j<steps.length),-1≤steps[j].p∧steps[j].p<j):∀(f k:Nat),k<steps.length→back (steps++[y]) f k=back steps f k
 | 0,_,_=>rfl
 | f+1,k,hk=>by
  rw [back,back,yTn,yAl hk,yGe hk];dsimp only;split
  ·rename_i h0;have:=hp k hk;obtain⟨p,hpe⟩:=Int.eq_ofNat_of_zero_le h0;rw [hpe] at this ⊢;rw [yak hp f p (by omega)]
  ·rfl
structure PW (es:List Ed) (perm:Ed→Bool) (from_ n i:Nat) (seen:List Bool) (steps:List St) (L:List (LI×Int)) (b:Int):Prop where
 pok:POk n seen steps
 len:steps.length=L.length
 st:∀(k:Nat) (r:LI×Int),L[k]? =some r→∃x,steps[k]? =some x∧x.s=r.2∧∀f,k<f→back steps f k=r.1.reverse
 seen:∀t:Nat,t<n→seen[t]? =some true→∃(k:Nat) (r:LI×Int),L[k]? =some r∧r.2=t
 found:Found es perm from_ L b
 follow:y3V es perm L 0 i
 zero:L[0]? =some ([],(from_:Int))
 lt:i≤L.length
theorem PW.fold{es:List Ed}{perm:Ed→Bool}{from_ n i:Nat}(hes:∀x∈es,0≤x.t∧x.t<(n:Int))(he:EvEs es)(r:LI×Int):∀(l done:List Ed) {seen:List Bool} {steps:List St} {L:List (LI×Int)} {b:Int},
  PW es perm from_ n i seen steps L b→L[i]? =some r→es.filter (fun x=>decide (x.f=r.2))=done++l→l.Pairwise (fun x y=>x.e<y.e)→(∀x∈l,b<33*wval r.1+x.e+1)→b≤33*wval r.1+32→
  (∀x∈done,perm x=true→∃(k:Nat) (r':LI×Int),L[k]? =some r'∧r'.2=x.t∧wval r'.1≤33*wval r.1+x.e+1)→
  ∃L' b',PW es perm from_ n (i+1) (l.foldl (pStep perm i) (seen,steps)).1 (l.foldl (pStep perm i) (seen,steps)).2 L' b'∧b'≤33*wval r.1+32∧∃M,L'=L++M
 | [],done,seen,steps,L,b,h,hi,hf,hs,hb,hb2,hd=>by
  refine⟨L,b,⟨h.pok,h.len,h.st,h.seen,h.found,fun j hj r' hr x hx hxf hp=>?_,h.zero,?_⟩,hb2,[],(List.append_nil _).symm⟩
  ·by_cases hji:j<i
   ·exact h.follow j hji r' hr x hx hxf hp
   ·obtain rfl:j=i:=by omega
    rw [hi] at hr;cases hr;have hmem:x∈done:=by
     have:x∈es.filter (fun x=>decide (x.f=r.2)):=List.mem_filter.2 ⟨hx,by simpa using hxf⟩;rw [hf,List.append_nil] at this;exact this
    obtain⟨k,r',h1,h2,h3⟩:=hd x hmem hp;exact⟨k,yZl _,r',h1,h2,h3⟩
  ·have:=(yGs.1 hi).1;omega
 | x::l,done,seen,steps,L,b,h,hi,hf,hs,hb,hb2,hd=>by
  obtain⟨hs1,hs2⟩:=yPc.1 hs;have hxm:x∈es.filter (fun x=>decide (x.f=r.2)):=by rw [hf];simp
  obtain⟨hxe,hxf⟩:=List.mem_filter.1 hxm;have hxf:x.f=r.2:=by simpa using hxf
  have hxt:=hes x hxe;have hxv:=he x hxe;have hxb:=hb x (yMc ..);have hf':es.filter (fun x=>decide (x.f=r.2))=(done++[x])++l:=by rw [hf];simp
  have hil:i<L.length:=(yGs.1 hi).1;rw [List.foldl_cons];have hlt:x.t.toNat<seen.length:=by rw [h.pok.len];omega
  have hsv:seen[x.t.toNat]? =some seen[x.t.toNat]:=yGe hlt;by_cases hc:seen[x.t.toNat]?.getD true=false∧perm x=true
  ·have hst:pStep perm i (seen,steps) x=(seen.set x.t.toNat true,steps++[⟨x.t,i,x.e⟩]):=by unfold pStep;rw [iP hc]
   have hsf:seen[x.t.toNat]? =some false:=by
    have:=hc.1;rw [hsv] at this ⊢;simpa using this
   have hpok:=h.pok.push (i:=i) (by rw [h.len];exact hil) x.t x.e hxt.1 hxt.2 hsf;have hlead:Leads es perm from_ r.1 r.2:=h.found.lead r (List.mem_of_getElem? hi);have hF:=h.found.push (hlead.snoc hxe hxf hc.2) (by rw [y2s];omega);rw [y2s] at hF;rw [hst];have hnew:PW es perm from_ n i (seen.set x.t.toNat true) (steps++[⟨x.t,i,x.e⟩]) (L++[(r.1++[x.e],x.t)]) (33*wval r.1+x.e+1):=by
    refine⟨hpok,by simp [h.len],?_,?_,hF,h.follow.append h.lt _,?_,?_⟩
    ·intro k r' hr';by_cases hk:k<L.length
     ·rw [yAl hk] at hr';obtain⟨y,h1,h2,h3⟩:=h.st k r' hr';refine⟨y,by rw [yAl (by rw [h.len];exact hk)];exact h1,h2,fun f hf=>?_⟩;rw [yak h.pok.parent f k (by rw [h.len];exact hk)];exact h3 f hf
     ·have hkl:k=L.length:=by
       have:=(yGs.1 hr').1;simp at this;omega
      subst hkl;rw [yAr (yNr _),Nat.sub_self] at hr';simp only [List.getElem?_cons_zero,yIj] at hr';subst hr';refine⟨⟨x.t,i,x.e⟩,by rw [yAr (by rw [h.len];exact yNr _),h.len,Nat.sub_self];rfl,rfl,fun f hf=>?_⟩;obtain⟨f',rfl⟩:∃f',f=f'+1:=⟨f-1,by omega⟩;obtain⟨y,h1,h2,h3⟩:=h.st i r hi;rw [back,yTn,yAr (by rw [h.len];exact yNr _),h.len,Nat.sub_self];simp only [List.getElem?_cons_zero];rw [iP (by omega),yak h.pok.parent f' i (by rw [h.len];exact hil),h3 f' (by omega)];simp
    ·intro t ht hseen;by_cases htx:x.t.toNat=t
     ·exact ⟨L.length,(r.1++[x.e],x.t),by simp,by dsimp only;omega⟩
     ·rw [List.getElem?_set_ne htx] at hseen;obtain⟨k,r',h1,h2⟩:=h.seen t ht hseen;exact⟨k,r',by rw [yAl (yGs.1 h1).1];exact h1,h2⟩
    ·rw [yAl (by omega)];exact h.zero
    ·have:=h.lt;simp;omega
   obtain⟨L',b',g1,g2,M,g3⟩:=PW.fold hes he r l (done++[x]) hnew (by rw [yAl hil];exact hi) hf' hs2 (fun y hy=>by have:=hs1 y hy;omega) (by omega) (fun y hy hp=>by
    rcases yMa.1 hy with hy|hy
    ·obtain ⟨k,r',h1,h2,h3⟩:=hd y hy hp;exact⟨k,r',by rw [yAl (yGs.1 h1).1];exact h1,h2,h3⟩
    ·rw [yMs.1 hy];exact⟨L.length,(r.1++[x.e],x.t),by simp,rfl,by rw [y2s];exact Int.le_refl _⟩)
   exact⟨L',b',g1,g2,[(r.1++[x.e],x.t)]++M,by rw [g3,yAa]⟩
  ·have hst:pStep perm i (seen,steps) x=(seen,steps):=by unfold pStep;rw [iN hc]
   rw [hst];refine PW.fold hes he r l (done++[x]) h hi hf' hs2 (fun y hy=>hb y (yMm _ hy)) hb2 (fun y hy hp=>?_);rcases yMa.1 hy with hy|hy
   ·exact hd y hy hp
   ·rw [yMs.1 hy] at hp ⊢;have hst:seen[x.t.toNat]? =some true:=by
     rw [hsv] at hc ⊢;simp only [Option.getD_some] at hc;cases hb:seen[x.t.toNat] with
     | true=>rfl
     | false=>exact absurd ⟨hb,hp⟩ hc
    obtain⟨k,r',h1,h2⟩:=h.seen x.t.toNat (by omega) hst;refine⟨k,r',h1,by omega,?_⟩;have:=h.found.bd r' (List.mem_of_getElem? h1);omega
def ygN(es:List Ed)(perm:Ed→Bool)(want:Int→Bool)(from_:Nat):Option (List St×Nat)→Prop
 | some r=>∃w,back r.1 (r.2+1) r.2=w.reverse∧Least es perm want from_ 0 w
 | none=>∀u t,Leads es perm from_ u t→want t=false
theorem PW.bfs{es:List Ed}{perm:Ed→Bool}{want:Int→Bool}{from_ n:Nat}(hso:y7a es)(hes:∀x∈es,0≤x.t∧x.t<(n:Int))(he:EvEs es):∀(f i:Nat) {seen:List Bool} {steps:List St} {L:List (LI×Int)} {b:Int},
  PW es perm from_ n i seen steps L b→n+1-i≤f→(∀r,L[i]? =some r→b≤33*wval r.1)→(∀j,j<i→∀r:LI×Int,L[j]? =some r→want r.2=false)→
  ygN es perm want from_ (Go.Proofs.YtfdeiphkmjdifaaGreatDoor.bfs (subOf es) want perm f i seen steps)
 | 0,i,seen,steps,L,b,h,hf,_,_=>by
  have h1:=h.pok.le;have h2:=h.len;have h3:=h.lt;omega
 | f+1,i,seen,steps,L,b,h,hf,hb,hn=>by
  by_cases hi:i<steps.length
  ·have hiL:i<L.length:=by rw [←h.len];exact hi
   have hr:L[i]? =some L[i]:=yGe hiL;obtain⟨x,h1,h2,h3⟩:=h.st i L[i] hr;rw [yGe hi] at h1;cases h1;cases hw:want steps[i].s with
   | true=>
    rw [yc3 hi hw];exact⟨L[i].1,h3 (i+1) (by omega),h.found.least he h.follow h.zero hr (by rw [←h2];exact hw) hn⟩
   | false=>
    rw [ycE hi hw,yfR hso];have hpw:(es.filter fun x=>decide (x.f=L[i].2)).Pairwise (fun x y=>x.e<y.e):=by
     have h4:(es.filter fun x=>decide (x.f=L[i].2)).Pairwise edLt:=List.Pairwise.filter _ hso;refine List.Pairwise.imp_of_mem ?_ h4;intro x y hx hy hxy;have e1:=(List.mem_filter.1 hx).2;have e2:=(List.mem_filter.1 hy).2;simp only [decide_eq_true_eq] at e1 e2;unfold edLt at hxy;omega
    have hb1:=hb _ hr;obtain⟨L',b',g1,g2,M,rfl⟩:=PW.fold hes he L[i] (es.filter fun x=>decide (x.f=L[i].2)) [] h hr (by simp) hpw (fun x hx=>by have:=he x (List.mem_filter.1 hx).1;omega) (by omega) (fun x hx=>by cases hx);rw [h2];refine PW.bfs hso hes he f (i+1) g1 (by omega) (fun r' hr'=>?_) (fun j hj r' hr'=>?_)
    ·have h5:=g1.found.sorted i (i+1) (by omega) L[i] r' (by rw [yAl hiL];exact hr) hr';omega
    ·by_cases hji:j<i
     ·rw [yAl (by omega)] at hr';exact hn j hji r' hr'
     ·obtain rfl:j=i:=by omega
      rw [yAl hiL,hr] at hr';cases hr';rw [←h2];exact hw
  ·rw [ydy (by omega)];have hil:i=L.length:=by have:=h.lt;have:=h.len;omega
   subst hil;exact h.follow.none he h.zero (fun j r hr=>hn j (yGs.1 hr).1 r hr)
theorem yed{es:List Ed}{perm:Ed→Bool}{want:Int→Bool}{from_ n:Nat}(hso:y7a es)(hes:∀x∈es,0≤x.t∧x.t<(n:Int))(he:EvEs es)(hf:from_<n):
  match pathF n es want perm from_ with
  | some w=>Least es perm want from_ 0 w
  | none=>∀u t,Leads es perm from_ u t→want t=false:=by
 have h0:PW es perm from_ n 0 ((List.replicate n false).set from_ true) [⟨from_,-1,-1⟩] [([],(from_:Int))] 0:=by
  refine⟨POk.start n from_ hf,rfl,?_,?_,⟨?_,?_,?_⟩,fun j hj=>absurd hj (by omega),rfl,yZl _⟩
  ·intro k r hr;cases k with
   | zero=>
    simp only [List.getElem?_cons_zero,yIj] at hr;subst hr;refine⟨_,rfl,rfl,fun f hf=>?_⟩;obtain⟨f',rfl⟩:∃f',f=f'+1:=⟨f-1,by omega⟩;rfl
   | succ k=>simp at hr
  ·intro t ht hs;by_cases e:from_=t
   ·subst e;exact⟨0,_,rfl,rfl⟩
   ·rw [List.getElem?_set_ne e,List.getElem?_replicate,iP ht] at hs;cases hs
  ·intro r hr;rw [yMs.1 hr];rfl
  ·intro j k hjk r r' hj hk;have:=(yGs.1 hk).1;simp at this;omega
  ·intro r hr;rw [yMs.1 hr];exact Int.le_refl 0
 have h1:=h0.bfs (want:=want) hso hes he (n+1) 0 (by omega) (fun r hr=>by simp only [List.getElem?_cons_zero,yIj] at hr;subst hr;exact Int.le_refl 0) (fun j hj=>absurd hj (by omega));unfold pathF;generalize Go.Proofs.YtfdeiphkmjdifaaGreatDoor.bfs (subOf es) want perm (n+1) 0 ((List.replicate n false).set from_ true) [⟨from_,-1,-1⟩]=r at h1;cases r with
 | none=>exact h1
 | some r=>
  obtain⟨w,h2,h3⟩:=h1;simp only [Option.map_some,h2,List.reverse_reverse];exact h3
def y1a(es:List Ed)(tg:LI):Nat→Int→Prop
 | 0,s=>s∈tg
 | k+1,s=>∃x∈es,x.f=s∧y1a es tg k x.t
def y9q(es:List Ed)(tg:LI)(s d:Int):Prop:=(d= -1∧∀k,¬y1a es tg k s)∨(∃k:Nat,d=k∧y1a es tg k s∧∀j,j<k→¬y1a es tg j s)
theorem y9q.unique{es:List Ed}{tg:LI}{s d d':Int}(h:y9q es tg s d)(h':y9q es tg s d'):d=d':=by
 rcases h with ⟨rfl,h⟩|⟨k,rfl,h1,h2⟩
 ·rcases h' with ⟨rfl,_⟩|⟨k,rfl,h1,_⟩
  ·rfl
  ·exact absurd h1 (h k)
 ·rcases h' with ⟨rfl,h'⟩|⟨k',rfl,h1',h2'⟩
  ·exact absurd h1 (h' k)
  ·have a1:¬k<k':=fun hlt=>h2' k hlt h1;have a2:¬k'<k:=fun hlt=>h2 k' hlt h1';omega
structure BD (es:List Ed) (tg:LI) (n:Nat) (ds q:LI) (c:Int):Prop where
 ok:BOk n ds q
 fit:∀i,i<n→0≤ds.getD i 0→∃k:Nat,ds.getD i 0=k∧y1a es tg k i
 top:∀i,i<n→ds.getD i 0≤c+1
 low:∀s∈q,c≤ds.getD s.toNat 0
 srt:q.Pairwise fun s t=>ds.getD s.toNat 0≤ds.getD t.toNat 0
 done:∀x∈es,0≤ds.getD x.t.toNat 0→x.t∈q∨(0≤ds.getD x.f.toNat 0∧ds.getD x.f.toNat 0≤ds.getD x.t.toNat 0+1)
 tgt:∀s∈tg,ds.getD s.toNat 0=0
 bnd:∀i,i<n→ds.getD i 0≤n-negs ds
section
variable{es:List Ed}{tg:LI}{n:Nat}
theorem ydh{ds:LI}{p:Nat}{d:Int}(h:p<ds.length):(ds.set p d).getD p 0=d:=by
 rw [yGd,List.getElem?_set_self h];rfl
structure BDs (es:List Ed) (tg:LI) (n:Nat) (s:Nat) (c:Int) (ds q l:LI):Prop where
 ok:BOk n ds q
 at_:ds.getD s 0=c
 c0:0≤c
 fit:∀i,i<n→0≤ds.getD i 0→∃k:Nat,ds.getD i 0=k∧y1a es tg k i
 top:∀i,i<n→ds.getD i 0≤c+1
 low:∀s∈q,c≤ds.getD s.toNat 0
 srt:q.Pairwise fun s t=>ds.getD s.toNat 0≤ds.getD t.toNat 0
 done:∀x∈es,0≤ds.getD x.t.toNat 0→x.t∈q∨(x.t=s∧x.f∈l)∨(0≤ds.getD x.f.toNat 0∧ds.getD x.f.toNat 0≤ds.getD x.t.toNat 0+1)
 tgt:∀s∈tg,ds.getD s.toNat 0=0
 bnd:∀i,i<n→ds.getD i 0≤n-negs ds
theorem BDs.fold(hes:∀x∈es,0≤x.f∧x.f<(n:Int)∧0≤x.t∧x.t<(n:Int))(htg:∀s∈tg,0≤s∧s<(n:Int)){s:Nat}(hs:s<n){c:Int}:∀(l:LI) {ds q:LI},BDs es tg n s c ds q l→(∀p∈l,∃x∈es,x.f=p∧x.t=s)→
  BDs es tg n s c (l.foldl (bStep s) (ds,q)).1 (l.foldl (bStep s) (ds,q)).2 []
 | [],_,_,h,_=>h
 | p::l,ds,q,h,hp=>by
  rw [List.foldl_cons];obtain⟨x,hx,rfl,hxt⟩:=hp p (yMc ..);have hxr:=hes x hx;have hl:=h.ok.len;by_cases hneg:ds.getD x.f.toNat 0<0
  ·have hst:bStep s (ds,q) x.f=(ds.set x.f.toNat (ds.getD s 0+1),q++[x.f]):=by unfold bStep;rw [iP hneg]
   have hstep:=h.ok.step hs (by rw [h.at_];exact h.c0) x.f hxr.1 hxr.2.1;rw [hst] at hstep ⊢;rw [h.at_] at hstep ⊢;have hne:x.f.toNat≠s:=by
    intro e;rw [e,h.at_] at hneg;have:=h.c0;omega
   have hfl:x.f.toNat<ds.length:=by omega
   have hself:(ds.set x.f.toNat (c+1)).getD x.f.toNat 0=c+1:=ydh hfl;have hother:∀i,i≠x.f.toNat→(ds.set x.f.toNat (c+1)).getD i 0=ds.getD i 0:=fun i hi=>y6K (fun e=>hi e.symm);have hc0:=h.c0;obtain⟨k,hk1,hk2⟩:=h.fit s hs (by rw [h.at_];exact h.c0);rw [h.at_] at hk1;have hq:∀t∈q,t.toNat≠x.f.toNat:=by
    intro t ht e;have:=h.ok.nn t ht;rw [e] at this;omega
   refine BDs.fold hes htg hs l ⟨hstep.1,by rw [hother s (Ne.symm hne)];exact h.at_,h.c0,?_,?_,?_,?_,?_,?_,?_⟩ (fun p hp'=>hp p (yMm _ hp'))
   ·intro i hi h0;by_cases e:i=x.f.toNat
    ·subst e;rw [hself];refine⟨k+1,by omega,x,hx,by omega,?_⟩;rw [hxt];exact hk2
    ·rw [hother i e] at h0 ⊢;exact h.fit i hi h0
   ·intro i hi;by_cases e:i=x.f.toNat
    ·subst e;rw [hself];exact Int.le_refl _
    ·rw [hother i e];exact h.top i hi
   ·intro t ht;rcases yMa.1 ht with ht|ht
    ·rw [hother _ (hq t ht)];exact h.low t ht
    ·rw [yMs.1 ht,hself];omega
   ·rw [List.pairwise_append];refine⟨List.Pairwise.imp_of_mem (fun {a b} ha hb hab=>?_) h.srt,List.pairwise_singleton _ _,fun a ha b hb=>?_⟩
    ·rw [hother _ (hq a ha),hother _ (hq b hb)];exact hab
    ·rw [yMs.1 hb,hself,hother _ (hq a ha)];have h1:=h.ok.qr a ha;exact h.top a.toNat (by omega)
   ·intro y hy h0;by_cases e:y.t.toNat=x.f.toNat
    ·have:y.t=x.f:=by have:=hes y hy;omega
     exact .inl (by rw [this];simp)
    ·rw [hother _ e] at h0 ⊢;rcases h.done y hy h0 with h1|⟨h1,h2⟩|⟨h1,h2⟩
     ·exact .inl (yMl _ h1)
     ·rcases yMo.1 h2 with h2|h2
      ·refine .inr (.inr ?_);rw [h2,hself,h1,yTn,h.at_];omega
      ·exact .inr (.inl ⟨h1,h2⟩)
     ·refine .inr (.inr ?_);by_cases e2:y.f.toNat=x.f.toNat
      ·rw [e2] at h1;omega
      ·rw [hother _ e2];exact⟨h1,h2⟩
   ·intro t ht;have:=h.tgt t ht;by_cases e:t.toNat=x.f.toNat
    ·rw [e] at this;omega
    ·rw [hother _ e];exact this
   ·intro i hi;have h9:negs (ds.set x.f.toNat (c+1))+1=negs ds:=ycH hfl (by rw [yGd,yGe hfl] at hneg;exact hneg) (by omega);have h8:=h.bnd s hs;rw [h.at_] at h8;by_cases e:i=x.f.toNat
    ·subst e;rw [hself];omega
    ·rw [hother i e];have:=h.bnd i hi;omega
  ·have hst:bStep s (ds,q) x.f=(ds,q):=by unfold bStep;rw [iN hneg]
   rw [hst];refine BDs.fold hes htg hs l ⟨h.ok,h.at_,h.c0,h.fit,h.top,h.low,h.srt,?_,h.tgt,h.bnd⟩ (fun p hp'=>hp p (yMm _ hp'));intro y hy h0;rcases h.done y hy h0 with h1|⟨h1,h2⟩|h1
   ·exact .inl h1
   ·rcases yMo.1 h2 with h2|h2
    ·refine .inr (.inr ?_);rw [h2,h1,yTn,h.at_];exact⟨by omega,h.top _ (by omega)⟩
    ·exact .inr (.inl ⟨h1,h2⟩)
   ·exact .inr (.inr h1)
theorem BD.bwd(hes:∀x∈es,0≤x.f∧x.f<(n:Int)∧0≤x.t∧x.t<(n:Int))(htg:∀s∈tg,0≤s∧s<(n:Int)):∀(f:Nat) {ds q:LI} {c:Int},BD es tg n ds q c→2*negs ds+q.length<f→
  ∃c',BD es tg n (Go.Proofs.YtfdeiphkmjdifaaGreatDoor.bwd (inL es) f ds q) [] c'
 | 0,_,_,_,_,hf=>absurd hf (by omega)
 | f+1,ds,[],c,h,_=>⟨c,h⟩
 | f+1,ds,s::q,c,h,hf=>by
  rw [Go.Proofs.YtfdeiphkmjdifaaGreatDoor.bwd];have hs:=h.ok.qr s (yMc ..);have h0:=h.ok.nn s (yMc ..);have hc:=h.low s (yMc ..);obtain⟨hs1,hs2⟩:=yPc.1 h.srt;have h1:BDs es tg n s.toNat (ds.getD s.toNat 0) ds q (inL es s.toNat):=by
   refine⟨h.ok.pop,rfl,h0,h.fit,fun i hi=>?_,hs1,hs2,fun x hx hx0=>?_,h.tgt,h.bnd⟩
   ·have:=h.top i hi;omega
   ·rcases h.done x hx hx0 with h2|h2
    ·rcases yMo.1 h2 with h2|h2
     ·refine .inr (.inl ⟨by omega,?_⟩);unfold inL;exact yMp.2 ⟨x,List.mem_filter.2 ⟨hx,by rw [h2];simp;omega⟩,rfl⟩
     ·exact .inl h2
    ·exact .inr (.inr h2)
  have h2:=h1.fold hes htg (by omega) (inL es s.toNat) (fun p hp=>ydz hp);have h3:=BOk.fold (show s.toNat<n by omega) (inL es s.toNat) h.ok.pop h0 (yaf hes);refine BD.bwd hes htg f (c:=ds.getD s.toNat 0) ⟨h2.ok,h2.fit,h2.top,h2.low,h2.srt,fun x hx hx0=>?_,h2.tgt,h2.bnd⟩ ?_
  ·rcases h2.done x hx hx0 with h4|⟨_,h4⟩|h4
   ·exact .inl h4
   ·cases h4
   ·exact .inr h4
  ·have:=h3.2.2;simp only [yLc] at hf;omega
theorem yaB(hn:n≤1000000)(hes:∀x∈es,0≤x.f∧x.f<(n:Int)∧0≤x.t∧x.t<(n:Int))(htg:∀s∈tg,0≤s∧s<(n:Int))(i:Nat)(hi:i<n):y9q es tg i ((y2c n es tg).getD i 0)∧(y2c n es tg).getD i 0≤n:=by
 have hst:=y9G n tg (fun s hs=>(htg s hs).1);have h0:BD es tg n (y1c n tg) tg 0:=by
  refine⟨BOk.start n tg hn htg,?_,?_,?_,?_,?_,?_,?_⟩
  ·intro i hi h0;rw [hst i hi] at h0 ⊢;by_cases hm:(i:Int)∈tg
   ·rw [iP hm];exact⟨0,rfl,hm⟩
   ·rw [iN hm] at h0;omega
  ·intro i hi;rw [hst i hi];split <;> omega
  ·intro s hs;have h1:=htg s hs;rw [hst s.toNat (by omega),iP (by rw [Int.toNat_of_nonneg h1.1];exact hs)];exact Int.le_refl _
  ·refine List.Pairwise.imp_of_mem (R:=fun _ _=>True) (fun {a b} ha hb _=>?_) (List.pairwise_of_forall (fun _ _=>trivial));have h1:=htg a ha;have h2:=htg b hb;rw [hst a.toNat (by omega),hst b.toNat (by omega),iP (by rw [Int.toNat_of_nonneg h1.1];exact ha),iP (by rw [Int.toNat_of_nonneg h2.1];exact hb)];exact Int.le_refl _
  ·intro x hx h0;have h1:=hes x hx;rw [hst x.t.toNat (by omega)] at h0;by_cases hm:((x.t.toNat:Nat):Int)∈tg
   ·exact .inl (by rwa [Int.toNat_of_nonneg h1.2.2.1] at hm)
   ·rw [iN hm] at h0;omega
  ·intro s hs;have h1:=htg s hs;rw [hst s.toNat (by omega),iP (by rw [Int.toNat_of_nonneg h1.1];exact hs)]
  ·intro i hi;have h1:=ybB (y1c n tg);rw [y7e] at h1;rw [hst i hi];split <;> omega
 obtain⟨c,h⟩:=h0.bwd hes htg (2*negs (y1c n tg)+tg.length+1) (by omega);have hE:Go.Proofs.YtfdeiphkmjdifaaGreatDoor.bwd (inL es) (2*negs (y1c n tg)+tg.length+1) (y1c n tg) tg=y2c n es tg:=rfl;rw [hE] at h;generalize y2c n es tg=D at h;have key:∀(k:Nat) (s:Int),0≤s→s<n→y1a es tg k s→0≤D.getD s.toNat 0∧D.getD s.toNat 0≤k:=by
  intro k
  induction k with
  | zero=>
   intro s h0 h1 hr;rw [h.tgt s hr];omega
  | succ k ih=>
   rintro s h0 h1 ⟨x,hx,rfl,hr⟩;have hxr:=hes x hx;obtain⟨g1,g2⟩:=ih x.t hxr.2.2.1 hxr.2.2.2 hr;rcases h.done x hx g1 with h3|⟨h3,h4⟩
   ·cases h3
   ·omega
 refine⟨?_,by have:=h.bnd i hi;omega⟩;by_cases hneg:0≤D.getD i 0
 ·obtain ⟨k,h1,h2⟩:=h.fit i hi hneg;refine .inr ⟨k,h1,h2,fun j hj hr=>?_⟩;have:=key j i (by omega) (by omega) hr;rw [yTn] at this;omega
 ·refine .inl ⟨?_,fun k hr=>?_⟩
  ·have hl:=h.ok.len;have h1:=h.ok.lo (D.getD i 0) (by rw [yGd,yGe (by omega)];exact yGm _);omega
  ·have:=key k i (by omega) (by omega) hr;rw [yTn] at this;omega
theorem ycq(hn:n≤1000000)(hes:∀x∈es,0≤x.f∧x.f<(n:Int)∧0≤x.t∧x.t<(n:Int))(htg:∀s∈tg,0≤s∧s<(n:Int))(i:Nat)(hi:i<n):y9q es tg i ((y2c n es tg).getD i 0):=(yaB hn hes htg i hi).1
end
end
section
open Go.Proofs.Tryz Go Go.RowKit
theorem W_of{x:Int}(h0: -9223372036854775808≤x)(h1:x<9223372036854775808):W x=x:=IntWalk.i64_in _ (by omega)
theorem W_nat{k:Nat}(h:k<9223372036854775808):W (k:Int)=k:=W_of (by omega) (by omega)
theorem yb{α:Type}{xs:List α}{i:Nat}(h:i<xs.length):idx xs (i:Int)=some xs[i]:=by rw [ygs,yGe h]
theorem y6i{S O:Type}{f:S→Option (S⊕O)}{s:S}{o:O}{n:Nat}(hn:n≤18446744073709551616)(h:iterF f n s=some o):iter f s=some o:=by
 have mono:∀(n m:Nat) (s:S),n≤m→iterF f n s=some o→iterF f m s=some o:=by
  intro n
  induction n with
  | zero=>intro m s _ h;cases h
  | succ n ih=>
   intro m s hm h;obtain⟨k,rfl⟩:∃k,m=k+1:=⟨m-1,by omega⟩;rw [yu] at h ⊢;split at h
   ·cases h
   ·rename_i h1;exact ih k _ (by omega) h
   ·rename_i h1;exact h
 exact mono n _ s hn h
theorem ye{S O:Type}{f:S→Option (S⊕O)}(P:Nat→S→Prop)(Q:O→Prop):∀(n i:Nat),n<i+18446744073709551616→(∀i s,i<n→P i s→(∃s',f s=some (.inl s')∧P (i+1) s')∨∃o,f s=some (.inr o)∧Q o)→(∀s,P n s→∃o,f s=some (.inr o)∧Q o)→i≤n→
  ∀s,P i s→∃o,iter f s=some o∧Q o:=by
 have key:∀(n:Nat),(∀i s,i<n→P i s→(∃s',f s=some (.inl s')∧P (i+1) s')∨∃o,f s=some (.inr o)∧Q o)→(∀s,P n s→∃o,f s=some (.inr o)∧Q o)→∀(j i:Nat),i+j=n→∀s,P i s→∃o,iterF f (j+1) s=some o∧Q o:=by
  intro n step fin j
  induction j with
  | zero=>
   intro i hi s h;obtain rfl:i=n:=by omega
   obtain⟨o,h1,h2⟩:=fin s h;exact⟨o,by rw [yu,h1],h2⟩
  | succ j ih=>
   intro i hi s h;rcases step i s (by omega) h with ⟨s',h1,h2⟩|⟨o,h1,h2⟩
   ·obtain ⟨o,h3,h4⟩:=ih (i+1) (by omega) s' h2;exact⟨o,by rw [yu,h1];exact h3,h4⟩
   ·exact ⟨o,by rw [yu,h1],h2⟩
 intro n i hn step fin hi s h;obtain⟨o,h1,h2⟩:=key n step fin (n-i) i (by omega) s h;exact⟨o,y6i (by omega) h1,h2⟩
theorem nxt{i:Nat}(h:i<4611686018427387904):W ((i:Int)+1)=((i+1:Nat):Int):=by rw [show (i:Int)+1=((i+1:Nat):Int) by omega,W_nat (by omega)]
theorem ct_lt{i n:Nat}(h:i<n):decide ((i:Int)<(n:Int))=true:=by simp;omega
theorem ct_ge{n:Nat}:¬decide ((n:Int)<(n:Int))=true:=by simp
def negL(p:LI)(k:Nat):LI:=((List.range k).filter fun i=>decide (p.getD i 0<0)).map fun(i:Nat)=>(i:Int)
theorem yf5(p:LI)(k:Nat):negL p (k+1)=if p.getD k 0<0 then negL p k++[(k:Int)] else negL p k:=by
 unfold negL;rw [List.range_succ,List.filter_append,List.map_append];by_cases h:p.getD k 0<0
 ·rw [iP h,List.filter_cons_of_pos (by simpa using h)];rfl
 ·rw [iN h,List.filter_cons_of_neg (by simpa using h)];simp
theorem ycW(p:LI)(k:Nat):(negL p k).length≤k:=by
 unfold negL;rw [yLm];exact Nat.le_trans (List.length_filter_le _ _) (by simp)
theorem yee{p:LI}(hl:p.length≤1000000):y4g p=some (negL p p.length):=by
 have h:=ye (f:=y3u p) (fun i s=>i≤p.length∧s=((i:Int),negL p i)) (fun o=>o=negL p p.length) p.length 0 (by omega) ?_ ?_ (yZl _) (0,[]) ⟨yZl _,rfl⟩
 ·obtain ⟨o,h1,rfl⟩:=h;simp [y4g,h1]
 ·rintro i s hi ⟨_,rfl⟩;refine .inl ⟨_,?_,by omega,rfl⟩;have hn:=ycW p i;rw [y3u];simp only [iP (show decide ((i:Int)<(p.length:Int))=true by simp;omega),yb hi,yOb];have hg:p.getD i 0=p[i]:=by rw [yGd,yGe hi];rfl
  rw [yf5,hg];by_cases hx:p[i]<0
  ·rw [iP (by simpa using hx),iP hx,y4t (by simp;omega),yOb,y2r,nxt (by omega)]
  ·rw [iN (by simpa using hx),iN hx,y2r,nxt (by omega)]
 ·rintro s ⟨_,rfl⟩;refine⟨_,?_,rfl⟩;rw [y3u];simp only [ct_ge,if_false];simp
def allL(n:Nat):LI:=(List.range n).map fun(i:Nat)=>(i:Int)
theorem yf6(n:Nat):allL (n+1)=allL n++[(n:Int)]:=by simp [allL,List.range_succ]
theorem y9S(n:Nat):(allL n).length=n:=by simp [allL]
theorem ybg{α:Type}{xs:List α}{i:Nat}{y:α}(h:i<xs.length):upd xs (i:Int) y=some (xs.set i y):=by
 unfold upd;rw [iP ⟨by omega,by omega⟩,yTn]
theorem ygO{a:LI}{n:Nat}{m:LI}{es:List (Int×Int×Int)}(hn:n≤1000000):y4z (a,(n:Int),m,es)=some (allL n):=by
 have hm:mkL (n:Int) (0:Int)=some (List.replicate n 0):=by unfold mkL;rw [iP ⟨by omega,by omega⟩,yTn]
 have h:=ye (f:=y4s (List.replicate n 0)) (fun i s=>i≤n∧s=((i:Int),allL i++List.replicate (n-i) 0)) (fun o=>o=allL n) n 0 (by omega) ?_ ?_ (yZl _) (0,List.replicate n 0) ⟨yZl _,by simp [allL]⟩
 ·obtain ⟨o,h1,rfl⟩:=h;simp only [y4z,hm,yOb,h1]
 ·rintro i s hi ⟨_,rfl⟩;refine .inl ⟨_,?_,by omega,rfl⟩;have hlen:(allL i++List.replicate (n-i) (0:Int)).length=n:=by rw [yLa,y9S,List.length_replicate];omega
  have hset:(allL i++List.replicate (n-i) (0:Int)).set i (i:Int)=allL (i+1)++List.replicate (n-(i+1)) 0:=by
   rw [yf6,List.set_append_right _ _ (by rw [y9S];exact yNr _),y9S,Nat.sub_self,show n-i=(n-(i+1))+1 by omega,List.replicate_succ,List.set_cons_zero];simp
  rw [y4s];simp only [List.length_replicate,ct_lt hi,if_true];rw [yb (by rw [hlen];exact hi),yOb,ybg (by rw [hlen];exact hi),yOb,hset,nxt (by omega)]
 ·rintro s ⟨_,rfl⟩;refine⟨_,?_,rfl⟩;rw [y4s];simp
theorem ydi{n:Nat}(hn:n≤1000000):iter (y2G (List.replicate n 0)) (0,List.replicate n 0)=some (List.replicate n (-1)):=by
 have h:=ye (f:=y2G (List.replicate n 0)) (fun i s=>i≤n∧s=((i:Int),List.replicate i (-1)++List.replicate (n-i) 0)) (fun o=>o=List.replicate n (-1)) n 0 (by omega) ?_ ?_ (yZl _) (0,List.replicate n 0) ⟨yZl _,by simp⟩
 ·obtain ⟨o,h1,rfl⟩:=h;exact h1
 ·rintro i s hi ⟨_,rfl⟩;refine .inl ⟨_,?_,by omega,rfl⟩;have hlen:(List.replicate i (-1)++List.replicate (n-i) (0:Int)).length=n:=by simp;omega
  have hset:(List.replicate i (-1)++List.replicate (n-i) (0:Int)).set i (-1)=List.replicate (i+1) (-1)++List.replicate (n-(i+1)) 0:=by
   rw [List.set_append_right _ _ (by simp),List.length_replicate,Nat.sub_self,show n-i=(n-(i+1))+1 by omega,List.replicate_succ,List.set_cons_zero,List.replicate_succ'];simp
  rw [y2G];simp only [List.length_replicate,ct_lt hi,if_true];rw [yb (by rw [hlen];exact hi),yOb,ybg (by rw [hlen];exact hi),yOb,hset,nxt (by omega)]
 ·rintro s ⟨_,rfl⟩;refine⟨_,?_,rfl⟩;rw [y2G];simp
theorem yef(n:Nat)(tg:LI):(y1c n tg).length=n:=by
 unfold y1c;have:∀(l:LI) (ds:LI),(l.foldl (fun ds (s:Int)=>ds.set s.toNat 0) ds).length=ds.length:=by
  intro l
  induction l with
  | nil=>intro ds;rfl
  | cons s l ih=>intro ds;rw [List.foldl_cons,ih,List.length_set]
 rw [this,List.length_replicate]
theorem ycr{n:Nat}{tg:LI}(ht:tg.length≤1000000)(hr:∀s∈tg,0≤s∧s<(n:Int)):iter (y2F tg) (0,List.replicate n (-1))=some (y1c n tg):=by
 have h:=ye (f:=y2F tg) (fun i s=>i≤tg.length∧s=((i:Int),y1c n (tg.take i))) (fun o=>o=y1c n tg) tg.length 0 (by omega) ?_ ?_ (yZl _) (0,List.replicate n (-1)) ⟨yZl _,by simp [y1c]⟩
 ·obtain ⟨o,h1,rfl⟩:=h;exact h1
 ·rintro i s hi ⟨_,rfl⟩;refine .inl ⟨_,?_,by omega,rfl⟩;obtain⟨h0,h1⟩:=hr _ (yGm hi);obtain⟨k,hk⟩:=Int.eq_ofNat_of_zero_le h0;have hkn:k<(y1c n (tg.take i)).length:=by rw [yef];omega
  have hset:y1c n (tg.take (i+1))=(y1c n (tg.take i)).set k 0:=by
   rw [y4d tg i hi,hk];simp [y1c,List.foldl_append]
  rw [y2F];simp only [ct_lt hi,if_true,yb hi,yOb,hk];rw [yb hkn,yOb,ybg hkn,yOb,hset,nxt (by omega)]
 ·rintro s ⟨_,rfl⟩;refine⟨_,?_,rfl⟩;rw [y2F];simp
theorem ycX{n s i:Nat}{q0 ds0 ps:LI}(z:LI×LI)(hps:∀p∈ps,0≤p∧p<(n:Int))(hpl:ps.length≤1000000)(hq:q0[i]? =some (s:Int))(hs:s<n)(hB:BOk n ds0 q0)(hnn:0≤ds0.getD s 0)(hsz:2*negs ds0+q0.length≤4000000):
  ∃o,iter (y2E ((i:Int),z) ps) (0,q0,ds0)=some o∧(o.2,o.1)=ps.foldl (bStep s) (ds0,q0):=by
 refine ye (f:=y2E ((i:Int),z) ps) (fun k st=>k≤ps.length∧∃ds q,st=((k:Int),q,ds)∧(ds,q)=(ps.take k).foldl (bStep s) (ds0,q0)∧BOk n ds q∧0≤ds.getD s 0∧q[i]? =some (s:Int)∧2*negs ds+q.length≤4000000) (fun o=>(o.2,o.1)=ps.foldl (bStep s) (ds0,q0)) ps.length 0 (by omega) ?_ ?_ (yZl _) (0,q0,ds0) ⟨yZl _,ds0,q0,rfl,by simp,hB,hnn,hq,hsz⟩
 ·rintro k st hk ⟨_,ds,q,rfl,hf,hB,hnn,hq,hsz⟩;obtain⟨h0,h1⟩:=hps _ (yGm hk);have hstep:=hB.step hs hnn ps[k] h0 h1;have hfs:(ps.take (k+1)).foldl (bStep s) (ds0,q0)=bStep s (ds,q) ps[k]:=by rw [y4d ps k hk,List.foldl_append,←hf];rfl
  obtain⟨p,hp⟩:=Int.eq_ofNat_of_zero_le h0;have hpn:p<ds.length:=by rw [hB.len];omega
  have hsn:s<ds.length:=by rw [hB.len];omega
  obtain⟨hil,hie⟩:=yGs.1 hq;have hgp:ds.getD p 0=ds[p]:=by rw [yGd,yGe hpn];rfl
  have hgs:ds.getD s 0=ds[s]:=by rw [yGd,yGe hsn];rfl
  have hlo:=hB.lo _ (yGm hsn);refine .inl ⟨((k+1:Nat),(bStep s (ds,q) ps[k]).2,(bStep s (ds,q) ps[k]).1),?_,by omega,_,_,rfl,hfs.symm,hstep.1,hstep.2.1,?_,by have:=hstep.2.2;omega⟩
  ·rw [y2E];simp only [ct_lt hk,if_true,yb hk,yOb,hp,yb hpn,bStep,yTn,hgp];by_cases hx:ds[p]<0
   ·have happ:=y4t (xs:=q) (ys:=[(p:Int)]) (by simp;omega);simp only [hx,decide_true,if_true,yb hil,hie,yOb,yb hsn,ybg hpn,happ,y2D,hgs,W_of (show -9223372036854775808≤ds[s]+1 by omega) (show ds[s]+1<9223372036854775808 by omega),nxt (show k<4611686018427387904 by omega)]
   ·simp only [hx,decide_false,if_false,y2D,nxt (show k<4611686018427387904 by omega)];simp
  ·unfold bStep;split
   ·dsimp only;rw [yAl hil];exact hq
   ·exact hq
 ·rintro st ⟨_,ds,q,rfl,hf,_⟩;refine⟨(q,ds),?_,by rw [List.take_length] at hf;exact hf⟩;rw [y2E];simp
theorem ycc(s:Nat):∀(l:LI) (ds q1 q2:LI),l.foldl (bStep s) (ds,q1++q2)=((l.foldl (bStep s) (ds,q2)).1,q1++(l.foldl (bStep s) (ds,q2)).2)
 | [],_,_,_=>rfl
 | p::l,ds,q1,q2=>by
  have h:bStep s (ds,q1++q2) p=((bStep s (ds,q2) p).1,q1++(bStep s (ds,q2) p).2):=by
   unfold bStep;dsimp only;split <;> simp
  rw [List.foldl_cons,h,ycc s l,List.foldl_cons]
theorem ycY{n:Nat}{es:List Ed}{ds0 q0:LI}(hin:∀x∈es,0≤x.f∧x.f<n∧0≤x.t∧x.t<(n:Int))(hl:es.length≤1000000)(hB:BOk n ds0 q0)(hsz:2*negs ds0+q0.length≤4000000):
  iter (y1S ((List.range n).map (inL es))) (0,q0,ds0)=some (bwd (inL es) (2*negs ds0+q0.length+1) ds0 q0):=by
 have h:=ye (f:=y1S ((List.range n).map (inL es))) (fun i st=>∃ds q f,st=((i:Int),q,ds)∧i≤q.length∧BOk n ds q∧2*negs ds+q.length≤2*negs ds0+q0.length∧bwd (inL es) f ds (q.drop i)=bwd (inL es) (2*negs ds0+q0.length+1) ds0 q0∧2*negs ds+(q.length-i)+1≤f)
  (fun o=>o=bwd (inL es) (2*negs ds0+q0.length+1) ds0 q0) (2*negs ds0+q0.length) 0 (by omega) ?_ ?_ (yZl _) (0,q0,ds0) ⟨ds0,q0,_,rfl,yZl _,hB,yNr _,rfl,by omega⟩
 ·obtain ⟨o,h1,rfl⟩:=h;exact h1
 ·rintro i st _ ⟨ds,q,f,rfl,hi,hB,hm,hR,hf⟩;by_cases hlt:i<q.length
  ·obtain ⟨g0,g1⟩:=hB.qr _ (yGm hlt);have hnn:=hB.nn _ (yGm hlt);obtain⟨s,hs⟩:=Int.eq_ofNat_of_zero_le g0;have hsn:s<n:=by omega
   rw [hs,yTn] at hnn;have hps:=yaf (s:=s) hin;have hil:=yhf es s;obtain⟨o,h1,h2⟩:=ycX (n:=n) (s:=s) (i:=i) (q0:=q) (ds0:=ds) (ps:=inL es s) (q,ds) hps (by omega) (by rw [yGe hlt,hs]) hsn hB hnn (by omega);have hfold:=BOk.fold hsn (inL es s) hB hnn hps;rw [←h2] at hfold;obtain⟨f,rfl⟩:∃f',f=f'+1:=⟨f-1,by omega⟩;have hpre:=ycc s (inL es s) ds (q.take (i+1)) (q.drop (i+1));rw [List.take_append_drop,←h2] at hpre;have ho1:o.1=q.take (i+1)++((inL es s).foldl (bStep s) (ds,q.drop (i+1))).2:=congrArg Prod.snd hpre;have ho2:o.2=((inL es s).foldl (bStep s) (ds,q.drop (i+1))).1:=congrArg Prod.fst hpre;have hol:i+1≤o.1.length:=by rw [ho1,yLa,yLt];omega
   have hdr:o.1.drop (i+1)=((inL es s).foldl (bStep s) (ds,q.drop (i+1))).2:=by
    rw [ho1,List.drop_append_of_le_length (by rw [yLt];omega),List.drop_eq_nil_of_le (by rw [yLt];omega),List.nil_append]
   refine .inl ⟨((i+1:Nat),o.1,o.2),?_,o.2,o.1,f,rfl,hol,hfold.1,by have:=hfold.2.2;dsimp only at this;omega,?_,by have:=hfold.2.2;dsimp only at this;omega⟩
   ·rw [y1S];simp only [ct_lt hlt,if_true,yb hlt,yOb,hs];rw [yb (by simpa using hsn),yOb,List.getElem_map,List.getElem_range,h1,yOb,nxt (by omega)]
   ·rw [hdr,ho2,←hR,yDc hlt,bwd,hs,yTn]
  ·have hi':i=q.length:=by omega
   refine .inr ⟨ds,?_,?_⟩
   ·subst hi';rw [y1S];simp
   ·obtain ⟨f,rfl⟩:∃f',f=f'+1:=⟨f-1,by omega⟩;rw [←hR,hi',List.drop_length,bwd]
 ·rintro st ⟨ds,q,f,rfl,hi,hB,hm,hR,hf⟩;have hi':2*negs ds0+q0.length=q.length:=by omega
  refine⟨ds,?_,?_⟩
  ·rw [y1S,hi'];simp
  ·obtain ⟨f,rfl⟩:∃f',f=f'+1:=⟨f-1,by omega⟩;rw [←hR,hi',List.drop_length,bwd]
theorem y8m{xs:LI}(h:xs.length≤4294967296):yl xs=some xs:=by
 rw [yl,y4t (by simpa using h)];rfl
theorem yf7{a:LI}{n:Nat}{m:LI}{es:List (Int×Int×Int)}{tg:LI}(hn:n≤1000000)(hl:es.length≤1000000)(ht:tg.length≤1000000)(hin:∀x∈es,0≤x.1∧x.1<(n:Int)∧0≤x.2.2∧x.2.2<(n:Int))(hr:∀s∈tg,0≤s∧s<(n:Int)):
  y3D (a,(n:Int),m,es) tg=some (y2c n (es.map toEd) tg):=by
 have hm:mkL (n:Int) (0:Int)=some (List.replicate n 0):=by unfold mkL;rw [iP ⟨by omega,by omega⟩,yTn]
 have hi:y3t (a,(n:Int),m,es)=some ((List.range n).map (inL (es.map toEd))):=by
  unfold y3t;rw [iP ⟨hl,by dsimp only;omega,by dsimp only;omega,yAt.2 fun x hx=>by have:=hin x hx;simp;omega⟩];simp
 have hB:=BOk.start n tg hn hr;have hq:=ycY (n:=n) (es:=es.map toEd) (ds0:=y1c n tg) (q0:=tg) (fun x hx=>by
  obtain⟨y,hy,rfl⟩:=yMp.1 hx;exact hin y hy) (by simpa using hl) hB (by have:=ybB (y1c n tg);rw [y7e] at this;omega)
 simp only [y3D,hi,yOb,hm,ydi hn,y8m (show tg.length≤4294967296 by omega),ycr ht hr,hq,y2c]
def errO(e:Int):Unit⊕Int:=if e=0 then .inl () else .inr e
theorem ydj{xs:LI}{n:Int}(hl:xs.length<4611686018427387904):∀(j i:Nat),i+j=xs.length→
  iterF (y1U xs n) (j+1) (i:Int)=some (errO (yg n (y3n xs i) (xs.drop i))):=by
 intro j
 induction j with
 | zero=>
  intro i hi;have e:xs.drop i= []:=List.drop_of_length_le (by omega);rw [yu,y1U,iN (by simp;omega),e];rfl
 | succ j ih=>
  intro i hi;have hlt:i<xs.length:=by omega
  rw [yu,y1U,iP (by simp;omega),yb hlt,yOb];by_cases h1:xs[i]<0∨n≤xs[i]
  ·rw [iP (by simpa using h1),yaE hlt h1];rfl
  ·rw [iN (by simpa using h1)];by_cases h0:0<i
   ·rw [iP (by simp;omega),show(i:Int)-1=((i-1:Nat):Int) by omega,W_nat (by omega),yb (show i-1<xs.length by omega),yOb,yOb];by_cases h2:xs[i]≤xs[i-1]
    ·rw [iP (by simpa using h2),yaF hlt h1 h0 h2];rfl
    ·rw [iN (by simpa using h2),show(i:Int)+1=((i+1:Nat):Int) by omega,W_nat (by omega),y6J hlt h1 (fun _=>by omega)];exact ih (i+1) (by omega)
   ·rw [iN (by simp;omega),yOb,iN (by simp),show(i:Int)+1=((i+1:Nat):Int) by omega,W_nat (by omega),y6J hlt h1 (fun h=>absurd h h0)];exact ih (i+1) (by omega)
theorem yaC{xs:LI}{n:Int}(hl:xs.length<4611686018427387904):y1b xs n=some (yg n none xs):=by
 have h:iter (y1U xs n) 0=some (errO (yg n none xs)):=y6i (by omega) (ydj (n:=n) hl xs.length 0 (by omega));rw [y1b,h,yOb];by_cases h0:yg n none xs=0
 ·rw [h0];rfl
 ·rw [errO,iN h0]
theorem yfS{xs:LI}{x:Int}(hl:xs.length<4611686018427387904):∀(j i:Nat),i+j=xs.length→
  ∃o,iterF (y2q xs x) (j+1) (i:Int)=some o∧((o= .inl ()∧x∉xs.drop i)∨∃k:Nat,i≤k∧o= .inr (k:Int)∧x∈xs.drop i):=by
 intro j
 induction j with
 | zero=>
  intro i hi;have e:xs.drop i= []:=List.drop_of_length_le (by omega);refine⟨.inl (),?_,.inl ⟨rfl,by rw [e];simp⟩⟩;rw [yu,y2q,iN (by simp;omega)]
 | succ j ih=>
  intro i hi;have hlt:i<xs.length:=by omega
  rw [yu,y2q,iP (by simp;omega),yb hlt,yOb];by_cases h1:x=xs[i]
  ·rw [iP (by simpa using h1)];exact⟨_,rfl,.inr ⟨i,yNr _,rfl,by rw [yDc hlt,h1];exact yMc⟩⟩
  ·rw [iN (by simpa using h1),show(i:Int)+1=((i+1:Nat):Int) by omega,W_nat (by omega)];obtain⟨o,h2,h3⟩:=ih (i+1) (by omega);refine⟨o,h2,?_⟩;rw [yDc hlt];rcases h3 with ⟨h4,h5⟩|⟨k,h4,h5,h6⟩
   ·exact .inl ⟨h4,fun hc=>(yMo.1 hc).elim h1 h5⟩
   ·exact .inr ⟨k,by omega,h5,yMm _ h6⟩
theorem y6M{xs:LI}{x:Int}(hl:xs.length<4611686018427387904):yw xs x=some (hasB xs x):=by
 obtain⟨o,h1,h2⟩:=yfS (x:=x) hl xs.length 0 (by omega);have h:iter (y2q xs x) 0=some o:=y6i (by omega) h1;rw [yw,y5p,h,yOb];rcases h2 with ⟨rfl,h4⟩|⟨k,_,rfl,h4⟩
 ·rw [y7p.2 (by simpa using h4)];rfl
 ·rw [yh.2 (by simpa using h4)];show some (decide ((k:Int)≥0))=some true;simp
def edP(x:Ed):Int×Int×Int:=(x.f,x.e,x.t)
def autP(a:Aut):LI×Int×LI×List (Int×Int×Int):=(a.al,a.n,a.ms,a.es.map edP)
def prevE(es:List Ed)(k:Nat):Option Ed:=if k=0 then none else es[k-1]?
theorem ydk{al:LI}{n:Int}{es:List Ed}{k:Nat}(hk:k<es.length):edErr al n (prevE es k) (es.drop k)=
  if(es[k].f<0∨n≤es[k].f∨es[k].t<0∨n≤es[k].t) then 2 else if hasB al es[k].e=false then 9 else if(∃q,prevE es k=some q∧(es[k].f<q.f∨(es[k].f=q.f∧es[k].e≤q.e))) then 5 else edErr al n (prevE es (k+1)) (es.drop (k+1)):=by
 rw [yDc hk,edErr];congr 3;simp [prevE,yGe hk]
theorem yfT{a:Aut}(hl:a.es.length<4611686018427387904)(hal:a.al.length<4611686018427387904):∀(j i:Nat),i+j=a.es.length→
  iterF (y1m (autP a)) (j+1) (i:Int)=some (errO (edErr a.al a.n (prevE a.es i) (a.es.drop i))):=by
 have hlen:(autP a).2.2.2.length=a.es.length:=by simp [autP]
 have hat:∀(i:Nat) (h:i<a.es.length),idx (autP a).2.2.2 (i:Int)=some (edP a.es[i]):=fun i h=>by
  rw [yb (by rw [hlen];exact h)];simp [autP]
 intro j
 induction j with
 | zero=>
  intro i hi;have e:a.es.drop i= []:=List.drop_of_length_le (by omega);rw [yu,y1m,iN (by rw [hlen];simp;omega),e];rfl
 | succ j ih=>
  intro i hi;have hlt:i<a.es.length:=by omega
  have hnext:y1l (i:Int)=some (.inl ((i+1:Nat):Int)):=by
   rw [y1l,show(i:Int)+1=((i+1:Nat):Int) by omega,W_nat (by omega)]
  rw [yu,y1m,iP (by rw [hlen];simp;omega),hat i hlt,yOb,ydk hlt];by_cases h1:a.es[i].f<0∨a.n≤a.es[i].f∨a.es[i].t<0∨a.n≤a.es[i].t
  ·rw [iP (by simp only [Bool.or_eq_true,decide_eq_true_eq];show((a.es[i].f<0∨a.es[i].f≥a.n)∨a.es[i].t<0)∨a.es[i].t≥a.n;omega),iP h1];rfl
  ·rw [iN (by simp only [Bool.or_eq_true,decide_eq_true_eq];show ¬(((a.es[i].f<0∨a.es[i].f≥a.n)∨a.es[i].t<0)∨a.es[i].t≥a.n);omega),iN h1];rw [show yw (autP a).1 (edP a.es[i]).2.1=some (hasB a.al a.es[i].e) from y6M hal,yOb];cases h2:hasB a.al a.es[i].e with
   | false=>rfl
   | true=>
    rw [iN (show ¬(!true)=true by simp),iN (show ¬(true=false) by simp)];by_cases h0:i=0
    ·subst h0;rw [iP (by simp),hnext,iN (by rintro⟨q,hq,_⟩;simp [prevE] at hq)];exact ih 1 (by omega)
    ·have hp:prevE a.es i=some a.es[i-1]:=by rw [prevE,iN h0,yGe (by omega)]
     rw [iN (by simp;omega),show(i:Int)-1=((i-1:Nat):Int) by omega,W_nat (by omega),hat (i-1) (by omega),yOb];by_cases h3:a.es[i].f<a.es[i-1].f∨(a.es[i].f=a.es[i-1].f∧a.es[i].e≤a.es[i-1].e)
     ·rw [iP (by simp only [Bool.or_eq_true,yAe,decide_eq_true_eq,beq_iff_eq];exact h3),iP ⟨_,hp,h3⟩];rfl
     ·rw [iN (by simp only [Bool.or_eq_true,yAe,decide_eq_true_eq,beq_iff_eq];exact h3),hnext,iN (by rintro⟨q,hq,h4⟩;rw [hp] at hq;cases hq;exact h3 h4)];exact ih (i+1) (by omega)
theorem yfU{a:Aut}(hl:a.es.length<4611686018427387904)(hal:a.al.length<4611686018427387904)(hms:a.ms.length<4611686018427387904):y2N (autP a)=some a.err:=by
 have h:iter (y1m (autP a)) 0=some (errO (edErr a.al a.n none a.es)):=y6i (by omega) (yfT hl hal a.es.length 0 (by omega));have he:y3j (autP a)=some (edErr a.al a.n none a.es):=by
  rw [y3j,h,yOb];by_cases h0:edErr a.al a.n none a.es=0
  ·rw [h0];rfl
  ·rw [errO,iN h0]
 rw [y2N,show y1b (autP a).1 32=some (yg 32 none a.al) from yaC hal,yOb,Aut.err];by_cases h1:(yg 32 none a.al != 0)=true
 ·rw [iP h1,iP h1]
 ·rw [iN h1,iN h1];by_cases h2:a.n<0
  ·rw [iP (show decide ((autP a).2.1<0)=true from decide_eq_true h2),iP h2]
  ·rw [iN (show ¬decide ((autP a).2.1<0)=true from fun e=>h2 (of_decide_eq_true e)),iN h2];by_cases h3:4096<a.n
   ·rw [iP (show decide ((autP a).2.1>4096)=true from decide_eq_true h3),iP h3]
   ·rw [iN (show ¬decide ((autP a).2.1>4096)=true from fun e=>h3 (of_decide_eq_true e)),iN h3,show y1b (autP a).2.2.1 (autP a).2.1=some (yg a.n none a.ms) from yaC hms,yOb];by_cases h4:(yg a.n none a.ms != 0)=true
    ·rw [iP h4,iP h4]
    ·rw [iN h4,iN h4,he];rfl
abbrev Inc(xs:LI):Prop:=xs.Pairwise (· < ·)
theorem ygP{i j:Nat}(h:i+j<9223372036854775808):W ((IntKind.u64.wrap (W ((i:Int)+(j:Int)))).fdiv (2 ^ (min (1:Int).toNat 64)))=(((i+j)/2:Nat):Int):=by
 rw [W_of (x:=(i:Int)+j) (by omega) (by omega),IntWalk.u64_in _ (by omega),show(2:Int) ^ (min (1:Int).toNat 64)=2 from rfl,Int.fdiv_eq_ediv_of_nonneg _ (by omega),W_of (by omega) (by omega)];omega
theorem ygQ(x y:Int):y5B x y=some (decide (x<y)):=by
 rw [y5B,show y1k x=some false by rw [y1k];simp,yOb,iN (by simp),yOb,Bool.false_or]
theorem yhr{xs:LI}{t:Int}(hl:xs.length<4294967296)(hs:Inc xs):∀(f i j:Nat),j≤i+f→i≤j→j≤xs.length→(∀k (h:k<xs.length),k<i→xs[k]<t)→(∀k (h:k<xs.length),j≤k→t≤xs[k])→
  ∃p:Nat,iterF (yS xs t) (f+1) ((j:Int),(i:Int))=some (p:Int)∧p≤xs.length∧(∀k (h:k<xs.length),k<p→xs[k]<t)∧(∀k (h:k<xs.length),p≤k→t≤xs[k]):=by
 intro f
 induction f with
 | zero=>
  intro i j h1 h2 h3 h4 h5;refine⟨i,?_,by omega,h4,fun k h hk=>h5 k h (by omega)⟩;rw [yu,yS,iN (by simp;omega)]
 | succ f ih=>
  intro i j h1 h2 h3 h4 h5;rw [yu,yS];dsimp only;by_cases hij:i<j
  ·have hm:(i+j)/2<xs.length:=by omega
   rw [iP (by simp;omega),ygP (by omega),yb hm,yOb,ygQ,yOb];have mono:∀(a b:Nat) (ha:a<xs.length) (hb:b<xs.length),a≤b→xs[a]≤xs[b]:=fun a b ha hb hab=>by
    rcases Nat.lt_or_ge a b with h|h
    ·exact Int.le_of_lt (yPg.1 hs a b ha hb h)
    ·have:a=b:=by omega
     subst this;exact Int.le_refl _
   by_cases hc:xs[(i+j)/2]<t
   ·rw [iP (decide_eq_true hc),show(((i+j)/2:Nat):Int)+1=(((i+j)/2+1:Nat):Int) by omega,W_nat (by omega)];exact ih _ j (by omega) (by omega) h3 (fun k h hk=>by have:=mono k _ h hm (by omega);omega) h5
   ·rw [iN (by simpa using hc)];exact ih i _ (by omega) (by omega) (by omega) h4 (fun k h hk=>by have:=mono _ k hm h hk;omega)
  ·rw [iN (by simp;omega)];exact⟨i,rfl,by omega,h4,fun k h hk=>h5 k h (by omega)⟩
theorem y8n{xs:LI}{t:Int}(hl:xs.length<4294967296)(hs:Inc xs):yj xs t=some (hasB xs t):=by
 obtain⟨p,hp,hle,hlo,hhi⟩:=yhr (t:=t) hl hs xs.length 0 xs.length (by omega) (by omega) (by omega) (fun k h hk=>absurd hk (by omega)) (fun k h hk=>absurd hk (by omega));have hi:iter (yS xs t) ((xs.length:Int),0)=some (p:Int):=y6i (by omega) hp;rw [yj,y3E,hi,yOb];by_cases hlt:p<xs.length
 ·rw [iP (by simpa using hlt),yb hlt,yOb];by_cases he:xs[p]=t
  ·rw [iP (by simpa using he)];show some true=_;rw [yh.2 (he▸yGm hlt)]
  ·rw [iN (by simpa using he),yOb,show y3p xs[p]=some false by rw [y3p];simp,yOb,iN (by simp)];show some false=_;rw [y7p.2];intro hm;obtain⟨k,hk,hk2⟩:=yGo hm;rcases Nat.lt_trichotomy k p with h|h|h
   ·have:=hlo k hk h;omega
   ·subst h;exact he hk2
   ·have:=hhi p hlt (yNr _);have:=yPg.1 hs p k hlt hk h;omega
 ·rw [iN (by simpa using hlt)];show some false=_;rw [y7p.2];intro hm;obtain⟨k,hk,hk2⟩:=yGo hm;have:=hlo k hk (by omega);omega
theorem y7b{n:Int}:∀{p:Option Int} {xs:LI},xs.Pairwise (· < ·)→(∀x∈xs,0≤x∧x<n)→(∀q,p=some q→∀x∈xs,q<x)→yg n p xs=0
 | _,[],_,_,_=>rfl
 | p,x::xs,h,hr,hp=>by
  obtain⟨h1,h2⟩:=yPc.1 h;have h3:=hr x (yMc ..);rw [yg,iN (by omega),iN ?_]
  ·exact y7b h2 (fun y hy=>hr y (yMm _ hy)) (fun q hq y hy=>by cases hq;exact h1 y hy)
  ·rintro ⟨q,hq,hle⟩;have:=hp q hq x (yMc ..);omega
theorem ycZ{al:LI}{n:Int}:∀{p:Option Ed} {es:List Ed},y7a es→(∀x∈es,0≤x.f∧x.f<n∧0≤x.t∧x.t<n∧hasB al x.e=true)→(∀q,p=some q→∀x∈es,edLt q x)→edErr al n p es=0
 | _,[],_,_,_=>rfl
 | p,x::xs,h,hr,hp=>by
  obtain⟨h1,h2⟩:=yPc.1 h;have h3:=hr x (yMc ..);rw [edErr,iN (by omega),iN (by rw [h3.2.2.2.2];simp),iN ?_]
  ·exact ycZ h2 (fun y hy=>hr y (yMm _ hy)) (fun q hq y hy=>by cases hq;exact h1 y hy)
  ·rintro ⟨q,hq,hle⟩;have:=hp q hq x (yMc ..);unfold edLt at this;omega
theorem yeg(a:AutT):autP (toAut a)=a:=by
 obtain⟨x,y,z,es⟩:=a;simp only [autP,toAut,List.map_map];rw [show (edP∘toEd)=id from rfl,List.map_id]
structure Right (a:AutT) (n:Nat):Prop where
 nn:a.2.1=(n:Int)
 nl:n≤4096
 ali:Inc a.1
 alr:∀x∈a.1,0≤x∧x<32
 msi:Inc a.2.2.1
 msr:∀x∈a.2.2.1,0≤x∧x<(n:Int)
 es:∀x∈a.2.2.2,0≤x.1∧x.1<(n:Int)∧0≤x.2.2∧x.2.2<(n:Int)∧x.2.1∈a.1
 so:a.2.2.2.Pairwise fun x y=>x.1<y.1∨(x.1=y.1∧x.2.1<y.2.1)
 l1:a.1.length≤1000000
 l2:a.2.2.1.length≤1000000
 l3:a.2.2.2.length≤1000000
namespace Right
variable{a:AutT}{n:Nat}
theorem sorted(h:Right a n):y7a (a.2.2.2.map toEd):=by
 unfold y7a;rw [List.pairwise_map];exact h.so
theorem ein(h:Right a n):∀x∈a.2.2.2.map toEd,0≤x.f∧x.f<(n:Int)∧0≤x.t∧x.t<(n:Int):=fun x hx=>by
 obtain⟨y,hy,rfl⟩:=List.mem_map.1 hx;have:=h.es y hy;exact⟨this.1,this.2.1,this.2.2.1,this.2.2.2.1⟩
theorem evs(h:Right a n):EvEs (a.2.2.2.map toEd):=fun x hx=>by
 obtain⟨y,hy,rfl⟩:=List.mem_map.1 hx;exact h.alr _ (h.es y hy).2.2.2.2
theorem err(h:Right a n):(toAut a).err=0:=by
 have h1:yg 32 none (toAut a).al=0:=y7b h.ali h.alr (fun q hq=>by cases hq);have hn:(toAut a).n=n:=h.nn;have h2:yg (toAut a).n none (toAut a).ms=0:=by rw [hn];exact y7b h.msi h.msr (fun q hq=>by cases hq)
 have h3:edErr (toAut a).al (toAut a).n none (toAut a).es=0:=by
  rw [hn];refine ycZ h.sorted (fun x hx=>?_) (fun q hq=>by cases hq);obtain⟨y,hy,rfl⟩:=List.mem_map.1 hx;have:=h.es y hy;exact⟨this.1,this.2.1,this.2.2.1,this.2.2.2.1,yh.2 this.2.2.2.2⟩
 have:=h.nl;unfold Aut.err;rw [h1,if_neg (by decide),if_neg (by rw [hn];omega),if_neg (by rw [hn];omega),h2,if_neg (by decide),h3]
theorem check(h:Right a n):y2N a=some 0:=by
 have h1:=h.l1;have h2:=h.l2;have h3:=h.l3;have:=yfU (a:=toAut a) (by simp [toAut];omega) (by simp [toAut];omega) (by simp [toAut];omega);rwa [yeg,h.err] at this
end Right
theorem y5E{n:Nat}:∀{xs:List Int} {lo:Int},Inc xs→(∀x∈xs,lo≤x∧x<(n:Int))→0≤lo→xs.length≤n-lo.toNat
 | [],_,_,_,_=>yZl _
 | x::xs,lo,h,hr,h0=>by
  obtain⟨h1,h2⟩:=List.pairwise_cons.1 h;have hx:=hr x (List.mem_cons_self ..);have:=y5E (n:=n) (lo:=x+1) h2 (fun y hy=>⟨by have:=h1 y hy;omega,(hr y (List.mem_cons_of_mem _ hy)).2⟩) (by omega);rw [List.length_cons];omega
theorem y5X{α:Type}(a:α)(us:List α):idx (a::us) 0=some a:=rfl
theorem y9r{α:Type}(a:α)(us:List α):slc (a::us) 1 ((a::us).length:Int)=some us:=by
 rw [slc,if_pos ⟨by omega,by simp;omega,by omega⟩];simp
def Alp(xs:List Int):Prop:=Inc xs∧∀x∈xs,0≤x∧x<32
theorem Alp.len{xs:List Int}(h:Alp xs):xs.length≤32:=by
 have:=y5E (n:=32) (lo:=0) h.1 h.2 (Int.le_refl _);simpa using this
def keyK(t:List Int):ByteArray:=⟨(keyB t).toArray⟩
theorem y8N :∀(N:Nat) (l:List Nat),l.Nodup→(∀x∈l,x<N)→l.length≤N
 | 0,[],_,_=>Nat.le_refl _
 | 0,x::l,_,h=>absurd (h x (List.mem_cons_self ..)) (by omega)
 | N+1,l,hn,h=>by
  by_cases hm:N∈l
  ·have h1:=y8N N (l.erase N) (hn.erase N) (fun x hx=>by
    have h2:=(hn.mem_erase_iff).1 hx;have:=h x h2.2;omega)
   rw [List.length_erase_of_mem hm] at h1;omega
  ·have h1:=y8N N l hn (fun x hx=>by
    have:=h x hx;have:x≠N:=fun e=>hm (e▸hx);omega)
   omega
abbrev Kno :=List (ByteArray×Int)
section
variable{l:List AutT}{ev:List Int}{i j:Nat}{kn:Kno}{T:List (List Int)}{E:List (Int×Int×Int)}
theorem ygR(he:Inc ev)(hj:j<ev.length):∀x∈ev.take j,x<ev[j]:=fun x hx=>by
 obtain⟨k,hk,rfl⟩:=List.getElem_of_mem hx;rw [List.length_take] at hk;rw [List.getElem_take];exact List.pairwise_iff_getElem.1 he k j (by omega) hj (by omega)
end
theorem y5Y{es:List Ed}{tg:List Int}:∀{k:Nat} {x:Int},y1a es tg k x↔ ∃y∈tg,y1a es [y] k x
 | 0,x=>by simp [y1a]
 | k+1,x=>by
  constructor
  ·rintro ⟨e,he,h1,h2⟩;obtain⟨y,hy,h3⟩:=y5Y.1 h2;exact⟨y,hy,e,he,h1,h3⟩
  ·rintro ⟨y,hy,e,he,h1,h2⟩;exact⟨e,he,h1,y5Y.2 ⟨y,hy,h2⟩⟩
theorem y1a.snoc{es:List Ed}:∀{k:Nat} {x:Int} {e:Ed},e∈es→y1a es [e.f] k x→y1a es [e.t] (k+1) x
 | 0,x,e,he,h=>⟨e,he,(yMs.1 h).symm,yMs.2 rfl⟩
 | k+1,x,e,he,⟨y,hy,h1,h2⟩=>⟨y,hy,h1,h2.snoc he⟩
theorem yaD{es:List Ed}{perm:Ed→Bool}:∀{u:List Int} {s t:Int},Leads es perm s u t→y1a es [t] u.length s
 | [],s,t,h=>yMs.2 h
 | e::u,s,t,⟨x,hx,h1,h2,h3,h4⟩=>⟨x,hx,h1,yaD h4⟩
theorem y9b{es:List Ed}{perm:Ed→Bool}(hp:∀x∈es,perm x=true){t:Int}:∀{k:Nat} {s:Int},y1a es [t] k s→∃u:List Int,u.length=k∧Leads es perm s u t
 | 0,s,h=>⟨[],rfl,yMs.1 h⟩
 | k+1,s,⟨x,hx,h1,h2⟩=>by
  obtain⟨u,h3,h4⟩:=y9b hp h2;exact⟨x.e::u,by rw [List.length_cons,h3],x,hx,h1,rfl,hp x hx,h4⟩
theorem yfV(n:Nat):Inc (allL n):=by
 unfold allL Inc;rw [List.pairwise_map];exact List.Pairwise.imp (fun {a b} h=>by omega) List.pairwise_lt_range
theorem ygS(n:Nat):∀x∈allL n,0≤x∧x<(n:Int):=by
 intro x hx;obtain⟨i,hi,rfl⟩:=List.mem_map.1 hx;have:=List.mem_range.1 hi;omega
theorem yd0{n:Nat}{s:Int}(h0:0≤s)(h1:s<n):hasB (allL n) s=true:=by
 rw [yh];exact List.mem_map.2 ⟨s.toNat,List.mem_range.2 (by omega),by omega⟩
structure PathSays (es:List Ed) (tg:List Int) (x:Int) (r:List Int×Bool×Int):Prop where
 err:r.2.2=0
 no:r.2.1=false→r.1= []∧∀k,¬y1a es tg k x
 yes:r.2.1=true→y1a es tg r.1.length x∧∀j,j<r.1.length→¬y1a es tg j x
theorem ygT{p:AutT}{n:Nat}(h:Right p n){x:Int}(x0:0≤x)(x1:x<(n:Int)){tg:List Int}(hi:Inc tg)(hr:∀y∈tg,0≤y∧y<(n:Int))(hl:tg.length≤1000000):
  ∃r,y3o p x tg (allL n)=some r∧PathSays (p.2.2.2.map toEd) tg x r:=by
 have hn:=h.nl;have hN:(toAut p).n=n:=h.nn;have hpe:y2Z (toAut p) x tg (allL n)=0:=by
  unfold y2Z;rw [h.err,hN,if_neg (by omega),y7b hi hr (fun q hq=>by cases hq),y7b (yfV n) (ygS n) (fun q hq=>by cases hq)];rfl
 have hall:=y9S n;have hp:∀e∈(p.2.2.2.map toEd),(fun e:Ed=>hasB (allL n) e.t) e=true:=fun e he=>by
  have:=h.ein e he;exact yd0 this.2.2.1 this.2.2.2
 have hpa:y5c (toAut p) x tg (allL n)=pathF n (p.2.2.2.map toEd) (hasB tg) (fun e=>hasB (allL n) e.t) x.toNat:=by
  unfold y5c;rw [if_pos (yd0 x0 x1),hN,Int.toNat_natCast];rfl
 have hs:=yed (es:=p.2.2.2.map toEd) (perm:=fun e=>hasB (allL n) e.t) (want:=hasB tg) (from_:=x.toNat) (n:=n) h.sorted (fun e he=>(h.ein e he).2.2) h.evs (by omega);rw [Int.toNat_of_nonneg x0] at hs;have hc:p.1.length≤1000000∧p.2.2.1.length≤1000000∧p.2.2.2.length≤1000000∧tg.length≤1000000∧(allL n).length≤1000000:=⟨h.l1,h.l2,h.l3,hl,by omega⟩;rw [y3o,if_pos hc,if_pos hpe,hpa];generalize pathF n (p.2.2.2.map toEd) (hasB tg) (fun e=>hasB (allL n) e.t) x.toNat=r at hs ⊢;cases r with
 | none=>
  refine⟨_,rfl,rfl,fun _=>⟨rfl,fun k hk=>?_⟩,fun e=>by cases e⟩;obtain⟨y,hy,h1⟩:=y5Y.1 hk;obtain⟨u,_,h2⟩:=y9b hp h1;have h3:=hs u y h2;rw [yh.2 hy] at h3;cases h3
 | some w=>
  refine⟨_,rfl,rfl,fun e=>(by cases e),fun _=>⟨?_,fun j hj hk=>?_⟩⟩
  ·obtain ⟨t,h1,h2⟩:=hs.leads;exact y5Y.2 ⟨t,yh.1 h2,yaD h1⟩
  ·obtain ⟨y,hy,h1⟩:=y5Y.1 hk;obtain⟨u,hu,h2⟩:=y9b hp h1;have h3:=hs.le u y h2 (yh.2 hy) (yZl _);have h4:=yfQ hs.ev (h2.evs h.evs) h3;dsimp only at hj;omega
abbrev edsOf(p:AutT):List Ed:=p.2.2.2.map toEd
theorem sprd{p:AutT}{n:Nat}(hR:Right p n){tg:List Int}(hl:tg.length≤1000000)(hr:∀s∈tg,0≤s∧s<(n:Int)):y3D p tg=some (y2c n (edsOf p) tg):=by
 have hnl:=hR.nl;have:=yf7 (a:=p.1) (n:=n) (m:=p.2.2.1) (es:=p.2.2.2) (tg:=tg) (by omega) hR.l3 hl (fun x hx=>by have:=hR.es x hx;exact⟨this.1,this.2.1,this.2.2.1,this.2.2.2.1⟩) hr;rw [←hR.nn] at this;exact this
theorem yhs{p:AutT}{n:Nat}(hR:Right p n){tg:List Int}(hr:∀s∈tg,0≤s∧s<(n:Int)):(y2c n (edsOf p) tg).length=n:=by
 have hnl:=hR.nl;have hB:=BOk.start n tg (by omega) hr;have h:∀(f:Nat) (ds q:List Int),BOk n ds q→(bwd (inL (edsOf p)) f ds q).length=n:=by
  intro f
  induction f with
  | zero=>intro ds q h;exact h.len
  | succ f ih=>
   intro ds q h;cases q with
   | nil=>exact h.len
   | cons s q=>
    rw [bwd];have hs:=h.qr s (List.mem_cons_self ..);have h0:=h.nn s (List.mem_cons_self ..);exact ih _ _ (BOk.fold (show s.toNat<n by omega) (inL (edsOf p) s.toNat) h.pop h0 (yaf hR.ein)).1
 exact h _ _ _ hB
theorem yfW(k:Nat)(p:Nat→Bool):Inc (((List.range k).filter p).map fun(i:Nat)=>(i:Int)):=by
 unfold Inc;rw [List.pairwise_map];refine List.Pairwise.filter _ ?_;exact List.Pairwise.imp (fun {a b} h=>by omega) List.pairwise_lt_range
theorem ygU(k:Nat)(p:Nat→Bool):∀x∈((List.range k).filter p).map fun(i:Nat)=>(i:Int),0≤x∧x<(k:Int):=by
 intro x hx;obtain⟨i,hi,rfl⟩:=List.mem_map.1 hx;have:=List.mem_range.1 (List.mem_filter.1 hi).1;omega
theorem yfX{p:AutT}{n:Nat}(hR:Right p n){x:Int}(hx:x<(n:Int)){tg:List Int}{r:List Int×Bool×Int}(h:y3o p x tg (allL n)=some r):y4h p x tg=some (r.1,r.2.1):=by
 have:=hR.nl;have hb:=ygO (a:=p.1) (n:=n) (m:=p.2.2.1) (es:=p.2.2.2) (by omega);rw [←hR.nn] at hb;rw [y4h,hR.nn,if_neg (by simp;omega),show y4z p=some (allL n) from hb,yOb,h];rfl
section
variable{κ β:Type}[DecidableEq κ][BEq κ][LawfulBEq κ]
theorem y7c(p:κ×β)(m:List (κ×β))(q:κ):kget (p::m) q=if q=p.1 then some p.2 else kget m q:=by
 unfold kget;by_cases h:q=p.1
 ·rw [if_pos h,List.find?_cons_of_pos (by simp [h])];rfl
 ·rw [if_neg h,List.find?_cons_of_neg (by simp [h])]
omit [DecidableEq κ] [LawfulBEq κ] in
theorem yfY(k:κ)(v:β):kput [] k v= [(k,v)]:=by
 unfold kput;rw [if_neg (by simp)];rfl
theorem yf8(p:κ×β)(m:List (κ×β))(k:κ)(v:β):kput (p::m) k v=if k=p.1 then(k,v)::m else p::kput m k v:=by
 unfold kput;rw [List.map_cons,y6N];by_cases h:k=p.1
 ·subst h;rw [if_pos (by simp),if_pos (by simp),if_pos rfl];rfl
 ·have e:(if (k==p.1)=true then 0 else kidx (m.map (·.1)) k+1)=kidx (m.map (·.1)) k+1:=if_neg (by simp [h]);rw [e,if_neg h];by_cases h2:kidx (m.map (·.1)) k<m.length
  ·rw [if_pos h2,if_pos (by rw [List.length_cons];omega),List.set_cons_succ]
  ·rw [if_neg h2,if_neg (by rw [List.length_cons];omega)];rfl
theorem y4G{k q:κ}{v:β}:∀(m:List (κ×β)),kget (kput m k v) q=if q=k then some v else kget m q
 | []=>by rw [yfY,y7c]
 | p::m=>by
  rw [yf8];by_cases h:k=p.1
  ·rw [if_pos h,y7c,y7c];by_cases h2:q=k
   ·rw [if_pos h2,if_pos h2]
   ·rw [if_neg h2,if_neg h2,if_neg (by rw [←h];exact h2)]
  ·rw [if_neg h,y7c,y7c,y4G m];by_cases h2:q=p.1
   ·rw [if_pos h2,if_neg (by rw [h2];exact fun e=>h e.symm),if_pos h2]
   ·rw [if_neg h2,if_neg h2]
end
def y5y(B:Nat):List Int→Nat
 | []=>0
 | x::t=>x.toNat+B*y5y B t
theorem ybh{B:Nat}:∀{s t:List Int},s.length=t.length→(∀x∈s,0≤x∧x<B)→(∀x∈t,0≤x∧x<B)→y5y B s=y5y B t→s=t
 | [],[],_,_,_,_=>rfl
 | [],_::_,h,_,_,_=>by simp at h
 | _::_,[],h,_,_,_=>by simp at h
 | x::s,y::t,h,hs,ht,e=>by
  have h1:=hs x (List.mem_cons_self ..);have h2:=ht y (List.mem_cons_self ..);simp only [y5y] at e;have e2:x.toNat=y.toNat:=by
   have h3:=congrArg (· % B) e;simp only [Nat.add_mul_mod_self_left] at h3;rwa [Nat.mod_eq_of_lt (by omega),Nat.mod_eq_of_lt (by omega)] at h3
  have hxy:x=y:=by omega
  subst hxy;have e3:B*y5y B s=B*y5y B t:=by omega
  rw [ybh (s:=s) (t:=t) (by simpa using h) (fun z hz=>hs z (List.mem_cons_of_mem _ hz)) (fun z hz=>ht z (List.mem_cons_of_mem _ hz)) (Nat.eq_of_mul_eq_mul_left (by omega) e3)]
theorem ycd{B:Nat}:∀{t:List Int},(∀x∈t,0≤x∧x<B)→y5y B t<B ^ t.length
 | [],_=>by simp [y5y]
 | x::t,h=>by
  have h1:=h x (List.mem_cons_self ..);have h2:=ycd (t:=t) (fun z hz=>h z (List.mem_cons_of_mem _ hz));rw [List.length_cons,Nat.pow_succ,y5y];have h3:B*(y5y B t+1)≤B*B ^ t.length:=Nat.mul_le_mul_left B h2;rw [Nat.mul_add,Nat.mul_one] at h3;rw [Nat.mul_comm (B ^ t.length) B];omega
end
section
open Go.Proofs.Tryz
abbrev anyE :Ed→Bool:=fun _=>true
structure Num (es:List Ed) (n:Nat):Prop where
 so:es.Pairwise fun x y=>x.f<y.f∨(x.f=y.f∧x.e<y.e)
 rng:∀x∈es,0≤x.f∧x.f<(n:Int)∧0≤x.t∧x.t<(n:Int)∧0≤x.e∧x.e<32
 cov:∀k:Nat,0<k→k<n→∃x∈es,x.t=(k:Int)
 ear:∀i (hi:i<es.length) (k:Int),0<k→k<es[i].t→∃j,∃hj:j<es.length,j<i∧es[j].t=k
 fst:∀i (hi:i<es.length),(∀j (hj:j<es.length),j<i→es[j].t≠es[i].t)→es[i].t=0∨es[i].f<es[i].t
theorem y9T{es:List Ed}{k:Int}{x:Ed}(h:es.find? (fun y=>y.t==k)=some x):∃i,∃hi:i<es.length,es[i]=x∧x.t=k∧∀j (hj:j<es.length),j<i→es[j].t≠k:=by
 rw [List.find?_eq_some_iff_getElem] at h;obtain⟨h1,i,hi,h2,h3⟩:=h;refine⟨i,hi,h2,by simpa using h1,fun j hj hji e=>?_⟩;have:=h3 j hji;simp [e] at this
def wordN(es:List Ed):Nat→Int→LI
 | 0,_=> []
 | f+1,k=>if k≤0 then [] else match es.find? (fun y=>y.t==k) with
  | none=> []
  | some x=>wordN es f x.f++[x.e]
def wN(es:List Ed)(k:Int):LI:=wordN es k.toNat k
namespace Num
variable{es:List Ed}{n:Nat}
theorem find(h:Num es n){k:Nat}(h0:0<k)(h1:k<n):∃x,es.find? (fun y=>y.t==(k:Int))=some x∧x∈es∧x.t=(k:Int)∧0≤x.f∧x.f<(k:Int):=by
 obtain⟨y,hy,ht⟩:=h.cov k h0 h1;cases hf:es.find? (fun y=>y.t==(k:Int)) with
 | none=>exact absurd (by simpa using ht) (by simpa using List.find?_eq_none.1 hf y hy)
 | some x=>
  obtain⟨i,hi,e1,e2,e3⟩:=y9T hf;have hm:x∈es:=e1▸yGm hi;refine⟨x,rfl,hm,e2,(h.rng x hm).1,?_⟩;have:=h.fst i hi (fun j hj hji=>by rw [e1,e2];exact e3 j hj hji);rw [e1,e2] at this;omega
theorem fuel(h:Num es n):∀(f:Nat) (k:Int),k<(n:Int)→k.toNat≤f→wordN es f k=wN es k:=by
 have key:∀(m:Nat) (k:Int),k.toNat=m→k<(n:Int)→∀f g,m≤f→m≤g→wordN es f k=wordN es g k:=by
  intro m
  induction m using Nat.strongRecOn with
  | ind m ih=>
   intro k hk hn f g hf hg;by_cases h0:k≤0
   ·have e:∀f,wordN es f k= []:=fun f=>by
     cases f with
     | zero=>rfl
     | succ f=>rw [wordN,if_pos h0]
    rw [e,e]
   ·obtain ⟨f,rfl⟩:∃f',f=f'+1:=⟨f-1,by omega⟩;obtain⟨g,rfl⟩:∃g',g=g'+1:=⟨g-1,by omega⟩;obtain⟨k',rfl⟩:∃k':Nat,k=(k':Int):=⟨k.toNat,by omega⟩;obtain⟨x,hx,_,ht,hf0,hfk⟩:=h.find (k:=k') (by omega) (by omega);rw [wordN,wordN,if_neg h0,if_neg h0,hx];dsimp only;rw [ih x.f.toNat (by omega) x.f rfl (by omega) f g (by omega) (by omega)]
 intro f k hn hf;exact key k.toNat k rfl hn f k.toNat hf (Nat.le_refl _)
theorem step(h:Num es n){k:Nat}(h0:0<k)(h1:k<n):∃x∈es,es.find? (fun y=>y.t==(k:Int))=some x∧x.t=(k:Int)∧0≤x.f∧x.f<(k:Int)∧wN es (k:Int)=wN es x.f++[x.e]:=by
 obtain⟨x,hx,hm,ht,hf0,hfk⟩:=h.find h0 h1;refine⟨x,hm,hx,ht,hf0,hfk,?_⟩;obtain⟨k,rfl⟩:∃k',k=k'+1:=⟨k-1,by omega⟩;unfold wN;rw [Int.toNat_natCast,wordN,if_neg (by omega),hx];dsimp only;rw [h.fuel k x.f (by omega) (by omega)];rfl
theorem zero :wN es 0= []:=rfl
theorem evs(h:Num es n):∀(k:Nat),k<n→Evs (wN es (k:Int)):=by
 intro k
 induction k using Nat.strongRecOn with
 | ind k ih=>
  intro hk;by_cases h0:k=0
  ·subst h0;exact Evs.nil
  ·obtain ⟨x,hm,_,_,hf0,hfk,e⟩:=h.step (k:=k) (by omega) hk;rw [e];have hx:=h.rng x hm;have:=ih x.f.toNat (by omega) (by omega);rw [Int.toNat_of_nonneg hf0] at this;exact this.snoc hx.2.2.2.2.1 hx.2.2.2.2.2
theorem leads(h:Num es n):∀(k:Nat),k<n→Leads es anyE 0 (wN es (k:Int)) (k:Int):=by
 intro k
 induction k using Nat.strongRecOn with
 | ind k ih=>
  intro hk;by_cases h0:k=0
  ·subst h0;rfl
  ·obtain ⟨x,hm,_,ht,hf0,hfk,e⟩:=h.step (k:=k) (by omega) hk;rw [e,←ht];have:=ih x.f.toNat (by omega) (by omega);rw [Int.toNat_of_nonneg hf0] at this;exact this.snoc hm rfl rfl
theorem mono(h:Num es n):∀(k' k:Nat),k<k'→k'<n→wval (wN es (k:Int))<wval (wN es (k':Int)):=by
 intro k'
 induction k' using Nat.strongRecOn with
 | ind k' ih=>
  intro k hkk hk';obtain⟨x',hm',hf',ht',hf0',hfk',e'⟩:=h.step (k:=k') (by omega) hk';have hx':=h.rng x' hm';have hw':0≤wval (wN es x'.f):=by
   have:=h.evs x'.f.toNat (by omega);rw [Int.toNat_of_nonneg hf0'] at this;exact y9a _ this
  rw [e',y2s];by_cases h0:k=0
  ·subst h0;show wval []<_;show(0:Int)<_;omega
  ·obtain ⟨x,hm,hf,ht,hf0,hfk,e⟩:=h.step (k:=k) (by omega) (by omega);have hx:=h.rng x hm;rw [e,y2s];obtain⟨i,hi,a1,a2,a3⟩:=y9T hf;obtain⟨i',hi',b1,b2,b3⟩:=y9T hf';obtain⟨j,hj,hji,hjt⟩:=h.ear i' hi' (k:Int) (by omega) (by rw [b1,b2];omega);have hij:i≤j:=Nat.le_of_not_lt fun hlt=>a3 j hj hlt hjt;have hlt:=List.pairwise_iff_getElem.1 h.so i i' hi hi' (by omega);rw [a1,b1] at hlt;rcases hlt with hlt|⟨hlt,hle⟩
   ·have:=ih x'.f.toNat (by omega) x.f.toNat (by omega) (by omega);rw [Int.toNat_of_nonneg hf0,Int.toNat_of_nonneg hf0'] at this;omega
   ·rw [hlt];omega
theorem least(h:Num es n):∀(u:List Int) (k:Int),Leads es anyE 0 u k→0≤k→k<(n:Int)→wval (wN es k)≤wval u:=by
 intro u
 induction u using y8l with
 | h0=>
  intro k hk _ _;have hk:(0:Int)=k:=hk;rw [←hk];exact Int.le_refl _
 | h1 u e ih=>
  intro k hk h0 h1;obtain⟨x,hm,hl,he,ht,_⟩:=hk.of_snoc;have hx:=h.rng x hm;have hu:=ih x.f hl hx.1 hx.2.1;rw [y2s];have hE:EvEs es:=fun y hy=>by have:=h.rng y hy;omega
  have hun:=y9a u (Leads.evs hE hl);by_cases hz:k=0
  ·rw [hz];show(0:Int)≤_;omega
  ·obtain ⟨k,rfl⟩:∃k':Nat,k=(k':Int):=⟨k.toNat,by omega⟩;obtain⟨y,hym,hyf,hyt,hy0,hyk,e'⟩:=h.step (k:=k) (by omega) (by omega);have hy:=h.rng y hym;rw [e',y2s];obtain⟨i,hi,a1,a2,a3⟩:=y9T hyf;obtain⟨j,hj,hjx⟩:=List.getElem_of_mem hm;have hij:i≤j:=Nat.le_of_not_lt fun hlt=>a3 j hj hlt (by rw [hjx,ht]);by_cases hE2:i=j
   ·subst hE2;rw [a1] at hjx;subst hjx;omega
   ·have hlt:=List.pairwise_iff_getElem.1 h.so i j hi hj (by omega);rw [a1,hjx] at hlt;rcases hlt with hlt|⟨hlt,hle⟩
    ·have:=h.mono x.f.toNat y.f.toNat (by omega) (by omega);rw [Int.toNat_of_nonneg hy0,Int.toNat_of_nonneg hx.1] at this;omega
    ·rw [hlt];omega
end Num
end
section
open Go.Proofs.Tryz Go Go.RowKit
structure Disc {τ:Type} (st:τ→Int→Option τ) (al:LI) (T:List τ) (E:List (Int×Int×Int)):Prop where
 nd:T.Nodup
 so:E.Pairwise fun x y=>x.1<y.1∨(x.1=y.1∧x.2.1<y.2.1)
 sn:∀x∈E,∃(a q:Nat) (t r:τ),x.1=(a:Int)∧x.2.2=(q:Int)∧T[a]? =some t∧T[q]? =some r∧x.2.1∈al∧st t x.2.1=some r
 ed:∀(a:Nat) (t:τ) (e:Int) (r:τ),T[a]? =some t→e∈al→st t e=some r→∃q:Nat,((a:Int),e,(q:Int))∈E∧T[q]? =some r
 cov:∀k:Nat,0<k→k<T.length→∃x∈E,x.2.2=(k:Int)
 ear:∀n (hn:n<E.length) (k:Int),0<k→k<E[n].2.2→∃p,∃hp:p<E.length,p<n∧E[p].2.2=k
 fst:∀n (hn:n<E.length),(∀p (hp:p<E.length),p<n→E[p].2.2≠E[n].2.2)→E[n].2.2=0∨E[n].1<E[n].2.2
 evr:∀e∈al,0≤e∧e<32
section
variable{τ:Type}{st:τ→Int→Option τ}{al:LI}{T T':List τ}{E E':List (Int×Int×Int)}
theorem ybi{lt:τ→τ→Prop}(hir:∀a b,lt a b→lt b a→False):∀{xs ys:List τ},xs.Pairwise lt→ys.Pairwise lt→(∀x,x∈xs↔x∈ys)→xs=ys
 | [],[],_,_,_=>rfl
 | [],y::ys,_,_,h=>by have:=(h y).2 (yMc ..);cases this
 | x::xs,[],_,_,h=>by have:=(h x).1 (yMc ..);cases this
 | x::xs,y::ys,hx,hy,h=>by
  obtain⟨x1,x2⟩:=yPc.1 hx;obtain⟨y1,y2⟩:=yPc.1 hy;have hxy:x=y:=by
   rcases yMo.1 ((h x).1 (yMc ..)) with e|e
   ·exact e
   ·rcases yMo.1 ((h y).2 (yMc ..)) with e'|e'
    ·exact e'.symm
    ·exact (hir x y (x1 y e') (y1 x e)).elim
  subst hxy;have hne1:∀z∈xs,z≠x:=fun z hz e=>by subst e;exact hir z z (x1 z hz) (x1 z hz)
  have hne2:∀z∈ys,z≠x:=fun z hz e=>by subst e;exact hir z z (y1 z hz) (y1 z hz)
  rw [ybi hir x2 y2 fun z=>?_];constructor
  ·intro hz;exact(yMo.1 ((h z).1 (yMm _ hz))).resolve_left (hne1 z hz)
  ·intro hz;exact(yMo.1 ((h z).2 (yMm _ hz))).resolve_left (hne2 z hz)
end
theorem y9U{α:Type}{xs:List α}{x:α}{n:Nat}(hn:n<(xs++[x]).length):(∃h:n<xs.length,(xs++[x])[n]=xs[n])∨(n=xs.length∧(xs++[x])[n]=x):=by
 by_cases h:n<xs.length
 ·exact .inl ⟨h,yGl h⟩
 ·have h2:n=xs.length:=by simp at hn;omega
  subst h2;exact .inr ⟨rfl,by rw [List.getElem_append_right (yNr _)];simp⟩
structure Fnd {τ:Type} (st:τ→Int→Option τ) (ev:LI) (i j:Nat) (T:List τ) (E:List (Int×Int×Int)):Prop where
 sn:∀x∈E,∃(a q:Nat) (t r:τ),x.1=(a:Int)∧x.2.2=(q:Int)∧T[a]? =some t∧T[q]? =some r∧st t x.2.1=some r
 ed:∀(a b:Nat) (t:τ) (e:Int) (r:τ),(a<i∨(a=i∧b<j))→T[a]? =some t→ev[b]? =some e→st t e=some r→∃q:Nat,((a:Int),e,(q:Int))∈E∧T[q]? =some r
 cov:∀k:Nat,0<k→k<T.length→∃x∈E,x.2.2=(k:Int)
 ear:∀n (hn:n<E.length) (k:Int),0<k→k<E[n].2.2→∃p,∃hp:p<E.length,p<n∧E[p].2.2=k
 fst:∀n (hn:n<E.length),(∀p (hp:p<E.length),p<n→E[p].2.2≠E[n].2.2)→E[n].2.2=0∨E[n].1<E[n].2.2
section
variable{τ:Type}{st:τ→Int→Option τ}{ev:LI}{i j:Nat}{T:List τ}{E:List (Int×Int×Int)}
theorem Fnd.skip(h:Fnd st ev i j T E){t:τ}{e:Int}(ht:T[i]? =some t)(he:ev[j]? =some e)(hs:st t e=none):Fnd st ev i (j+1) T E:=by
 refine⟨h.sn,fun a b t' e' r hab ha hb hst=>?_,h.cov,h.ear,h.fst⟩;by_cases hx:a=i∧b=j
 ·obtain ⟨rfl,rfl⟩:=hx;rw [ht] at ha;rw [he] at hb;cases ha;cases hb;rw [hs] at hst;cases hst
 ·exact h.ed a b t' e' r (by omega) ha hb hst
theorem Fnd.next(h:Fnd st ev i j T E)(hj:ev.length≤j):Fnd st ev (i+1) 0 T E:=
 ⟨h.sn,fun a b t e r hab ha hb hst=>h.ed a b t e r (by have:=(yGs.1 hb).1;omega) ha hb hst,h.cov,h.ear,h.fst⟩
theorem Fnd.edge(h:Fnd st ev i j T E){t r:τ}{e:Int}{q:Nat}(ht:T[i]? =some t)(he:ev[j]? =some e)(hs:st t e=some r)(hq:T[q]? =some r):Fnd st ev i (j+1) T (E++[((i:Int),e,(q:Int))]):=by
 have hql:=(yGs.1 hq).1;refine⟨fun x hx=>?_,fun a b t' e' r' hab ha hb hst=>?_,fun k h0 h1=>?_,fun n hn k h0 h1=>?_,fun n hn hf=>?_⟩
 ·rcases yMa.1 hx with hx|hx
  ·exact h.sn x hx
  ·rw [yMs.1 hx];exact⟨i,q,t,r,rfl,rfl,ht,hq,hs⟩
 ·by_cases hx:a=i∧b=j
  ·obtain ⟨rfl,rfl⟩:=hx;rw [ht] at ha;rw [he] at hb;cases ha;cases hb;rw [hs] at hst;cases hst;exact⟨q,yMr _ (yMs.2 rfl),hq⟩
  ·obtain ⟨q',g1,g2⟩:=h.ed a b t' e' r' (by omega) ha hb hst;exact⟨q',yMl _ g1,g2⟩
 ·obtain ⟨x,hx,h2⟩:=h.cov k h0 h1;exact⟨x,yMl _ hx,h2⟩
 ·rcases y9U hn with ⟨hn2,e2⟩|⟨hn2,e2⟩
  ·rw [e2] at h1;obtain⟨p,hp,h3,h4⟩:=h.ear n hn2 k h0 h1;exact⟨p,by simp;omega,h3,by rw [yGl hp];exact h4⟩
  ·rw [e2] at h1;dsimp only at h1;obtain⟨x,hx,h3⟩:=h.cov k.toNat (by omega) (by omega);obtain⟨p,hp,rfl⟩:=yGo hx;exact⟨p,by simp;omega,by omega,by rw [yGl hp,h3];omega⟩
 ·rcases y9U hn with ⟨hn2,e2⟩|⟨hn2,e2⟩
  ·rw [e2];refine h.fst n hn2 fun p hp hpn=>?_;have:=hf p (by simp;omega) hpn;rwa [yGl hp,e2] at this
  ·rw [e2];dsimp only;by_cases hz:q=0
   ·left;omega
   ·exfalso;obtain⟨x,hx,h3⟩:=h.cov q (by omega) hql;obtain⟨p,hp,rfl⟩:=yGo hx;have:=hf p (by simp;omega) (by omega);rw [yGl hp,e2,h3] at this;exact this rfl
theorem Fnd.new(h:Fnd st ev i j T E){t r:τ}{e:Int}(hi:i<T.length)(ht:T[i]? =some t)(he:ev[j]? =some e)(hs:st t e=some r):Fnd st ev i (j+1) (T++[r]) (E++[((i:Int),e,(T.length:Int))]):=by
 have hup:∀{a:Nat} {u:τ},T[a]? =some u→(T++[r])[a]? =some u:=fun {a u} hu=>by rw [yAl (yGs.1 hu).1];exact hu
 have hnew:(T++[r])[T.length]? =some r:=by rw [yAr (yNr _)];simp
 have hto:∀x∈E,0≤x.2.2∧x.2.2<(T.length:Int):=fun x hx=>by
  obtain⟨a,q,u,v,_,h2,_,h4,_⟩:=h.sn x hx;have:=(yGs.1 h4).1;omega
 refine⟨fun x hx=>?_,fun a b t' e' r' hab ha hb hst=>?_,fun k h0 h1=>?_,fun n hn k h0 h1=>?_,fun n hn hf=>?_⟩
 ·rcases yMa.1 hx with hx|hx
  ·obtain ⟨a,q,u,v,h1,h2,h3,h4,h5⟩:=h.sn x hx;exact⟨a,q,u,v,h1,h2,hup h3,hup h4,h5⟩
  ·rw [yMs.1 hx];exact⟨i,T.length,t,r,rfl,rfl,hup ht,hnew,hs⟩
 ·have hal:a<T.length:=by omega
  rw [yAl hal] at ha;by_cases hx:a=i∧b=j
  ·obtain ⟨rfl,rfl⟩:=hx;rw [ht] at ha;rw [he] at hb;cases ha;cases hb;rw [hs] at hst;cases hst;exact⟨T.length,yMr _ (yMs.2 rfl),hnew⟩
  ·obtain ⟨q',g1,g2⟩:=h.ed a b t' e' r' (by omega) ha hb hst;exact⟨q',yMl _ g1,hup g2⟩
 ·by_cases hk:k<T.length
  ·obtain ⟨x,hx,h2⟩:=h.cov k h0 hk;exact⟨x,yMl _ hx,h2⟩
  ·have:k=T.length:=by simp at h1;omega
   subst this;exact⟨_,yMr _ (yMs.2 rfl),rfl⟩
 ·rcases y9U hn with ⟨hn2,e2⟩|⟨hn2,e2⟩
  ·rw [e2] at h1;obtain⟨p,hp,h3,h4⟩:=h.ear n hn2 k h0 h1;exact⟨p,by simp;omega,h3,by rw [yGl hp];exact h4⟩
  ·rw [e2] at h1;dsimp only at h1;obtain⟨x,hx,h3⟩:=h.cov k.toNat (by omega) (by omega);obtain⟨p,hp,rfl⟩:=yGo hx;exact⟨p,by simp;omega,by omega,by rw [yGl hp,h3];omega⟩
 ·rcases y9U hn with ⟨hn2,e2⟩|⟨hn2,e2⟩
  ·rw [e2];refine h.fst n hn2 fun p hp hpn=>?_;have:=hf p (by simp;omega) hpn;rwa [yGl hp,e2] at this
  ·rw [e2];dsimp only;right;omega
end
theorem Fnd.start{τ:Type}{st:τ→Int→Option τ}{ev:LI}{T:List τ}(h:T.length≤1):Fnd st ev 0 0 T []:=
 ⟨fun x hx=>(by cases hx),fun a b t e r hab=>by omega,fun k h0 h1=>by omega,fun n hn=>by simp at hn,fun n hn=>by simp at hn⟩
theorem Fnd.disc{τ:Type}{st:τ→Int→Option τ}{ev:LI}{T:List τ}{E:List (Int×Int×Int)}(h:Fnd st ev T.length 0 T E)(nd:T.Nodup)(so:E.Pairwise fun x y=>x.1<y.1∨(x.1=y.1∧x.2.1<y.2.1))(hal:∀x∈E,x.2.1∈ev)(evr:∀e∈ev,0≤e∧e<32):Disc st ev T E:=by
 refine⟨nd,so,fun x hx=>?_,fun a t e r ha he hs=>?_,h.cov,h.ear,h.fst,evr⟩
 ·obtain ⟨a,q,t,r,h1,h2,h3,h4,h5⟩:=h.sn x hx;exact⟨a,q,t,r,h1,h2,h3,h4,hal x hx,h5⟩
 ·obtain ⟨b,hb,hbe⟩:=yGo he;exact h.ed a b t e r (.inl (yGs.1 ha).1) ha (by rw [yGe hb,hbe]) hs
theorem ydP{u:Nat}(hu:u<100):(32:UInt8)∉dig2 u:=by
 have h:∀v:_root_.Fin 100,(32:UInt8)∉dig2 v.val:=by decide +kernel
 exact h ⟨u,hu⟩
theorem yfZ{u v:Nat}(hu:u<100)(hv:v<100)(e:dig2 u=dig2 v):u=v:=by
 have h:∀v:_root_.Fin 100,((dig2 v.val).foldl (fun acc d=>10*acc+(d.toNat-48)) 0)=v.val:=by decide +kernel
 have h1:=h ⟨u,hu⟩;have h2:=h ⟨v,hv⟩;dsimp only at h1 h2;rw [e] at h1;omega
theorem yd1{α:Type}{c:α}:∀{l1 l2 r1 r2:List α},c∉l1→c∉l2→l1++c::r1=l2++c::r2→l1=l2∧r1=r2
 | [],[],_,_,_,_,h=>⟨rfl,(List.cons.inj h).2⟩
 | [],b::l2,_,_,_,h2,h=>absurd (List.cons.inj h).1 (fun e=>h2 (e▸yMc ..))
 | a::l1,[],_,_,h1,_,h=>absurd (List.cons.inj h).1 (fun e=>h1 (e▸yMc ..))
 | a::l1,b::l2,_,_,h1,h2,h=>by
  obtain⟨e1,e2⟩:=List.cons.inj h;obtain⟨e3,e4⟩:=yd1 (fun hm=>h1 (yMm _ hm)) (fun hm=>h2 (yMm _ hm)) e2;exact⟨by rw [e1,e3],e4⟩
theorem yd2 :∀{t u:LI},(∀x∈t,0≤x∧x<100)→(∀x∈u,0≤x∧x<100)→keyB t=keyB u→t=u
 | [],[],_,_,_=>rfl
 | [],y::u,_,_,h=>by simp [keyB] at h
 | x::t,[],_,_,h=>by simp [keyB] at h
 | x::t,y::u,ht,hu,h=>by
  have h1:=ht x (yMc ..);have h2:=hu y (yMc ..);obtain⟨e1,e2⟩:=yd1 (ydP (by omega)) (ydP (by omega)) h;have e3:=yfZ (u:=x.toNat) (v:=y.toNat) (by omega) (by omega) e1;rw [show x=y by omega,yd2 (fun z hz=>ht z (yMm _ hz)) (fun z hz=>hu z (yMm _ hz)) e2]
theorem yd3{t u:LI}(ht:∀x∈t,0≤x∧x<100)(hu:∀x∈u,0≤x∧x<100)(h:keyK t=keyK u):t=u:=by
 refine yd2 ht hu ?_;have:=congrArg ByteArray.data h;simpa [keyK] using this
def mg(kp:Bool→Bool→Bool):LI→LI→LI
 | [],[]=> []
 | [],b::vs=>if kp false true=true then b::mg kp [] vs else mg kp [] vs
 | a::us,[]=>if kp true false=true then a::mg kp us [] else mg kp us []
 | a::us,b::vs=>if a<b then(if kp true false=true then a::mg kp us (b::vs) else mg kp us (b::vs)) else if b<a then(if kp false true=true then b::mg kp (a::us) vs else mg kp (a::us) vs) else(if kp true true=true then b::mg kp us vs else mg kp us vs)
termination_by us vs=>us.length+vs.length
theorem y9s{kp:Bool→Bool→Bool}{h:Int}{us vs us' vs' r:LI}{bu bv:Bool}(hr:Inc r∧∀x,x∈r↔((x∈us'∨x∈vs')∧kp (hasB us' x) (hasB vs' x)=true))
  (hu:∀x,x∈us↔(x=h∧bu=true)∨x∈us') (hv:∀x,x∈vs↔(x=h∧bv=true)∨x∈vs') (gu:∀x∈us',h<x) (gv:∀x∈vs',h<x) (hb:bu=true∨bv=true):
  Inc (if kp bu bv=true then h::r else r)∧∀x,x∈(if kp bu bv=true then h::r else r)↔((x∈us∨x∈vs)∧kp (hasB us x) (hasB vs x)=true):=by
 have e1:hasB us h=bu:=by
  rw [Bool.eq_iff_iff,yh,hu];exact⟨fun e=>e.elim (fun e=>e.2) (fun e=>by have:=gu _ e;omega),fun e=> .inl ⟨rfl,e⟩⟩
 have e2:hasB vs h=bv:=by
  rw [Bool.eq_iff_iff,yh,hv];exact⟨fun e=>e.elim (fun e=>e.2) (fun e=>by have:=gv _ e;omega),fun e=> .inl ⟨rfl,e⟩⟩
 have e3:∀x,x≠h→hasB us x=hasB us' x:=fun x hx=>by
  rw [Bool.eq_iff_iff,yh,yh,hu];exact⟨fun e=>e.elim (fun e=>absurd e.1 hx) id,.inr⟩
 have e4:∀x,x≠h→hasB vs x=hasB vs' x:=fun x hx=>by
  rw [Bool.eq_iff_iff,yh,yh,hv];exact⟨fun e=>e.elim (fun e=>absurd e.1 hx) id,.inr⟩
 have hgt:∀x∈r,h<x:=fun x hx=>((hr.2 x).1 hx).1.elim (gu x) (gv x);have hne:∀x,x≠h→(x∈r↔((x∈us∨x∈vs)∧kp (hasB us x) (hasB vs x)=true)):=fun x hx=>by
  rw [hr.2 x,e3 x hx,e4 x hx,hu,hv];constructor
  ·rintro ⟨h1|h1,h2⟩
   ·exact ⟨.inl (.inr h1),h2⟩
   ·exact ⟨.inr (.inr h1),h2⟩
  ·rintro ⟨(h1|h1)|(h1|h1),h2⟩
   ·exact absurd h1.1 hx
   ·exact ⟨.inl h1,h2⟩
   ·exact absurd h1.1 hx
   ·exact ⟨.inr h1,h2⟩
 have hh:(h∈us∨h∈vs):=hb.elim (fun e=> .inl ((hu h).2 (.inl ⟨rfl,e⟩))) (fun e=> .inr ((hv h).2 (.inl ⟨rfl,e⟩)));cases hk:kp bu bv with
 | true=>
  rw [iP rfl];refine⟨yPc.2 ⟨hgt,hr.1⟩,fun x=>?_⟩;rw [yMo];by_cases hx:x=h
  ·subst hx;exact⟨fun _=>⟨hh,by rw [e1,e2,hk]⟩,fun _=> .inl rfl⟩
  ·rw [←hne x hx];exact⟨fun e=>e.resolve_left hx,.inr⟩
 | false=>
  rw [iN (by simp)];refine⟨hr.1,fun x=>?_⟩;by_cases hx:x=h
  ·subst hx;refine⟨fun e=>absurd (hgt x e) (by omega),fun e=>?_⟩;rw [e1,e2,hk] at e;cases e.2
  ·exact hne x hx
theorem y6G(kp:Bool→Bool→Bool):∀(us vs:LI),Inc us→Inc vs→Inc (mg kp us vs)∧∀x,x∈mg kp us vs↔((x∈us∨x∈vs)∧kp (hasB us x) (hasB vs x)=true)
 | [],[],_,_=>by
  rw [mg];exact⟨yPn,fun x=>⟨fun h=>(by cases h),fun h=>(by rcases h.1 with h|h <;> cases h)⟩⟩
 | [],b::vs,_,hv=>by
  obtain⟨v1,v2⟩:=yPc.1 hv;rw [mg];exact y9s (bu:=false) (bv:=true) (y6G kp [] vs yPn v2) (fun x=>by simp) (fun x=>by simp) (fun x hx=>by cases hx) v1 (.inr rfl)
 | a::us,[],hu,_=>by
  obtain⟨u1,u2⟩:=yPc.1 hu;rw [mg];exact y9s (bu:=true) (bv:=false) (y6G kp us [] u2 yPn) (fun x=>by simp) (fun x=>by simp) u1 (fun x hx=>by cases hx) (.inl rfl)
 | a::us,b::vs,hu,hv=>by
  obtain⟨u1,u2⟩:=yPc.1 hu;obtain⟨v1,v2⟩:=yPc.1 hv;rw [mg];by_cases h1:a<b
  ·rw [iP h1];refine y9s (bu:=true) (bv:=false) (y6G kp us (b::vs) u2 hv) (fun x=>by simp) (fun x=>by simp) u1 (fun x hx=>?_) (.inl rfl);rcases yMo.1 hx with rfl|hx
   ·exact h1
   ·have:=v1 x hx;omega
  ·rw [iN h1];by_cases h2:b<a
   ·rw [iP h2];refine y9s (bu:=false) (bv:=true) (y6G kp (a::us) vs hu v2) (fun x=>by simp) (fun x=>by simp) (fun x hx=>?_) v1 (.inr rfl);rcases yMo.1 hx with rfl|hx
    ·exact h2
    ·have:=u1 x hx;omega
   ·obtain rfl:a=b:=by omega
    rw [iN h2];exact y9s (bu:=true) (bv:=true) (y6G kp us vs u2 v2) (fun x=>by simp) (fun x=>by simp) u1 v1 (.inl rfl)
termination_by us vs=>us.length+vs.length
theorem yeh{kp:Bool→Bool→Bool}{f:Bool→Bool→Option Bool}(hf:∀a b,f a b=some (kp a b)){out us vs:LI}(hl:out.length≤4000000)(hne:0<us.length+vs.length):
  ∃o u v,y1i f (out,us,vs)=some (.inl (o,u,v))∧o++mg kp u v=out++mg kp us vs∧o.length≤out.length+1∧u.length+v.length+1≤us.length+vs.length:=by
 have ho:∀a:Int,app out ([a]:LI)=some (out++[a]):=fun a=>y4t (by simp;omega);have fin:∀(bu bv:Bool) (h:Int) (u v:LI),∃o,y2V f (out,us,vs) bu bv u v h=some (.inl (o,u,v))∧o++mg kp u v=out++(if kp bu bv=true then h::mg kp u v else mg kp u v)∧o.length≤out.length+1:=fun bu bv h u v=>by
  rw [y2V,hf,yOb];dsimp only;cases kp bu bv with
  | true=>rw [iP rfl,ho,yOb];exact⟨_,rfl,by simp,by simp⟩
  | false=>rw [iN (by simp)];exact⟨_,rfl,by simp,by omega⟩
 cases us with
 | nil=>
  cases vs with
  | nil=>simp at hne
  | cons b vs=>
   obtain⟨o,h1,h2,h3⟩:=fin false true b [] vs;refine⟨o,[],vs,?_,by rw [h2,mg],h3,by simp⟩;rw [y1i];dsimp only;rw [iP (by simp),iN (by simp),y1h];dsimp only;rw [iP (by simp),iP (by simp),yP,iN (by simp),yO,iP rfl];dsimp only;rw [y5X,yOb,y9r,yOb];exact h1
 | cons a us=>
  cases vs with
  | nil=>
   obtain⟨o,h1,h2,h3⟩:=fin true false a us [];refine⟨o,us,[],?_,by rw [h2,mg],h3,by simp⟩;rw [y1i];dsimp only;rw [iP (by simp),iP (by simp),iP (by simp),y1h];dsimp only;rw [iN (by simp),yP,iP rfl];dsimp only;rw [y5X,yOb,y9r,yOb,yO,iN (by simp)];exact h1
  | cons b vs=>
   have e0:y1i f (out,a::us,b::vs)=yP f (out,a::us,b::vs) (decide (a≤b)) (decide (b≤a)):=by
    rw [y1i];dsimp only;rw [iP (by simp),iP (by simp),iN (by simp;omega),y5X,yOb,y5X,yOb,y1h];dsimp only;rw [iP (by simp),iN (by simp;omega),y5X,yOb,y5X,yOb]
   rw [e0,yP];dsimp only;by_cases h1:a<b
   ·obtain ⟨o,g1,g2,g3⟩:=fin true false a us (b::vs);refine⟨o,us,b::vs,?_,by rw [g2,mg,iP h1],g3,by simp;omega⟩;rw [show decide (a≤b)=true by simp;omega,show decide (b≤a)=false by simp;omega,iP rfl,y5X,yOb,y9r,yOb,yO,iN (by simp)];exact g1
   ·by_cases h2:b<a
    ·obtain ⟨o,g1,g2,g3⟩:=fin false true b (a::us) vs;refine⟨o,a::us,vs,?_,by rw [g2,mg,iN h1,iP h2],g3,by simp;omega⟩;rw [show decide (a≤b)=false by simp;omega,show decide (b≤a)=true by simp;omega,iN (by simp),yO,iP rfl];dsimp only;rw [y5X,yOb,y9r,yOb];exact g1
    ·obtain ⟨o,g1,g2,g3⟩:=fin true true b us vs;refine⟨o,us,vs,?_,by rw [g2,mg,iN h1,iN h2],g3,by simp;omega⟩;rw [show decide (a≤b)=true by simp;omega,show decide (b≤a)=true by simp;omega,iP rfl,y5X,yOb,y9r,yOb,yO,iP rfl];dsimp only;rw [y5X,yOb,y9r,yOb];exact g1
theorem yd4{kp:Bool→Bool→Bool}{f:Bool→Bool→Option Bool}(hf:∀a b,f a b=some (kp a b)){us vs:LI}(hu:us.length≤1000000)(hv:vs.length≤1000000):y3e us vs f=some (mg kp us vs):=by
 obtain⟨o,h1,h2⟩:=ye (f:=y1i f) (fun i s=>s.1++mg kp s.2.1 s.2.2=mg kp us vs∧s.1.length≤i∧s.2.1.length+s.2.2.length+i≤us.length+vs.length) (fun o=>o=mg kp us vs) (us.length+vs.length) 0 (by omega) (fun i s hi ⟨g1,g0,g2⟩=>by
   obtain⟨out,u,v⟩:=s;dsimp only at g1 g0 g2;by_cases hne:0<u.length+v.length
   ·obtain ⟨o,u',v',e,g3,g5,g4⟩:=yeh hf (out:=out) (by omega) hne;exact .inl ⟨_,e,by rw [←g1];exact g3,by dsimp only;omega,by dsimp only;omega⟩
   ·have e1:u= []:=yLz (by omega);have e2:v= []:=yLz (by omega);subst e1;subst e2;rw [mg,List.append_nil] at g1;exact .inr ⟨out,rfl,g1⟩) (fun s ⟨g1,g0,g2⟩=>by
   obtain⟨out,u,v⟩:=s;dsimp only at g1 g2;have e1:u= []:=yLz (by omega);have e2:v= []:=yLz (by omega);subst e1;subst e2;rw [mg,List.append_nil] at g1;exact⟨out,rfl,g1⟩) (yZl _) ([],us,vs) ⟨rfl,by simp,by dsimp only;omega⟩
 rw [y3e,h1,h2];rfl
theorem yf9{us vs:LI}(hu:us.length≤1000000)(hv:vs.length≤1000000):y3P us vs=some (mg (fun a b=>a||b) us vs):=by
 rw [y3P,yd4 (f:=y5q) (kp:=fun a b=>a||b) (fun a b=>rfl) hu hv];rfl
def st1(a:AutT)(s e:Int):Option Int:=(a.2.2.2.find? fun x=>x.1==s&&x.2.1==e).map fun x=>x.2.2
theorem yaW{a:AutT}{n:Nat}(hr:Right a n){s e t:Int}:st1 a s e=some t↔(s,e,t)∈a.2.2.2:=by
 unfold st1;rw [Option.map_eq_some_iff];constructor
 ·rintro ⟨x,h1,rfl⟩;have h2:=List.find?_some h1;have h3:=List.mem_of_find?_eq_some h1;simp only [yAe,beq_iff_eq] at h2;obtain⟨rfl,rfl⟩:=h2;exact h3
 ·intro h;cases hf:a.2.2.2.find? fun x=>x.1==s&&x.2.1==e with
  | none=>exact absurd (List.find?_eq_none.1 hf _ h) (by simp)
  | some x=>
   refine⟨x,rfl,?_⟩;have h2:=List.find?_some hf;have h3:=List.mem_of_find?_eq_some hf;simp only [yAe,beq_iff_eq] at h2;obtain⟨i,hi,e1⟩:=yGo h;obtain⟨j,hj,e2⟩:=yGo h3;rcases Nat.lt_trichotomy i j with hij|hij|hij
   ·have:=yPg.1 hr.so i j hi hj hij;rw [e1,e2] at this;dsimp only at this;omega
   ·subst hij;rw [e1] at e2;rw [←e2]
   ·have:=yPg.1 hr.so j i hj hi hij;rw [e1,e2] at this;dsimp only at this;omega
theorem ybL{a:AutT}{n:Nat}(hr:Right a n){s e t:Int}(h:st1 a s e=some t):0≤s∧s<(n:Int)∧0≤t∧t<(n:Int)∧e∈a.1:=hr.es _ ((yaW hr).1 h)
theorem ygV{es:List (Int×Int×Int)}(so:es.Pairwise fun x y=>x.1<y.1∨(x.1=y.1∧x.2.1<y.2.1)){i:Nat}(hi:i<es.length)(q:Int×Int):
  ((es.take (i+1)).find? fun x=>x.1==q.1&&x.2.1==q.2).map (fun x=>x.2.2)=if q=(es[i].1,es[i].2.1) then some es[i].2.2 else((es.take i).find? fun x=>x.1==q.1&&x.2.1==q.2).map fun x=>x.2.2:=by
 rw [yTs hi,List.find?_append];by_cases h:q=(es[i].1,es[i].2.1)
 ·rw [iP h];have hn:(es.take i).find? (fun x=>x.1==q.1&&x.2.1==q.2)=none:=by
   rw [List.find?_eq_none];intro x hx hx2;simp only [yAe,beq_iff_eq] at hx2;obtain⟨k,hk,rfl⟩:=yGo hx;rw [yLt] at hk;rw [List.getElem_take,h] at hx2;have:=yPg.1 so k i (by omega) hi (by omega);omega
  rw [hn,Option.none_or,List.find?_cons_of_pos (by rw [h];simp)];rfl
 ·rw [iN h,List.find?_cons_of_neg (by
   intro hx;simp only [yAe,beq_iff_eq] at hx;exact h (by rw [hx.1,hx.2])),List.find?_nil,Option.or_none]
theorem yfa{a:AutT}{n:Nat}(hr:Right a n):∃o,iter (y3C a) (0,([]:List ((Int×Int)×Int)))=some o∧∀q:Int×Int,kget o q=st1 a q.1 q.2:=by
 have hl:=hr.l3;refine ye (f:=y3C a) (fun i s=>s.1=(i:Int)∧∀q:Int×Int,kget s.2 q=((a.2.2.2.take i).find? fun x=>x.1==q.1&&x.2.1==q.2).map fun x=>x.2.2) (fun o=>∀q:Int×Int,kget o q=st1 a q.1 q.2) a.2.2.2.length 0 (by omega) (fun i s hi ⟨e1,g1⟩=>?_) (fun s ⟨e1,g1⟩=>?_) (yZl _) _ ⟨rfl,fun q=>rfl⟩
 ·obtain ⟨k,out⟩:=s;dsimp only at e1 g1;subst e1;refine .inl ⟨(((i+1:Nat):Int),kput out (a.2.2.2[i].1,a.2.2.2[i].2.1) a.2.2.2[i].2.2),?_,rfl,fun q=>?_⟩
  ·rw [y3C];dsimp only;rw [iP (ct_lt hi),yb hi,yOb,nxt (by omega)]
  ·dsimp only;rw [y4G,ygV hr.so hi,g1]
 ·obtain ⟨k,out⟩:=s;dsimp only at e1 g1;subst e1;rw [List.take_length] at g1;refine⟨out,?_,g1⟩;rw [y3C];dsimp only;rw [iN ct_ge]
theorem yht{α:Type}{xs:List α}{i j:Nat}(h1:i≤j)(h2:j≤xs.length):slc xs (i:Int) (j:Int)=some ((xs.take j).drop i):=by
 unfold slc;rw [iP (by omega)];simp
theorem ybM(a b:Int):yk a b=some (if a<b then -1 else if a>b then 1 else 0):=by
 have hn:∀x,y1k x=some false:=fun x=>by rw [y1k];simp
 rw [yk,hn,yOb,hn,yOb,iN (by simp),iN (by simp)];by_cases h1:a<b
 ·rw [iP (by simpa using h1),iP h1]
 ·rw [iN (by simpa using h1),iN h1];by_cases h2:a>b
  ·rw [iP (by simpa using h2),iP h2]
  ·rw [iN (by simpa using h2),iN h2]
def y6H(l:LI):Int:=(l.find? fun x=>x != 0).getD 0
theorem or_eq{l:LI}(hb:l.length≤4294967296):y3O l=some (y6H l):=by
 obtain⟨o,h1,h2⟩:=ye (f:=y4V l) (fun i s=>s=(i:Int)∧y6H l=y6H (l.drop i)) (fun o=>(match o with
   | .inl _=>0
   | .inr r=>r)=y6H l) l.length 0 (by omega) (fun i s hi ⟨e1,g1⟩=>by
   subst e1;rw [y4V,iP (ct_lt hi),yb hi,yOb];rw [yDc hi] at g1;unfold y6H at g1 ⊢;rw [List.find?_cons] at g1;cases hx:l[i] != 0 with
   | true=>
    rw [hx] at g1;rw [iP rfl];exact .inr ⟨_,rfl,g1.symm⟩
   | false=>
    rw [hx] at g1;rw [iN (by simp)];exact .inl ⟨_,rfl,nxt (by omega),g1⟩)
  (fun s ⟨e1,g1⟩=>by
   subst e1;rw [y4V,iN ct_ge];refine⟨_,rfl,?_⟩;rw [g1,List.drop_length];rfl) (by omega) 0 ⟨rfl,rfl⟩
 rw [y3O,h1,yOb];cases o with
 | inl _=>exact congrArg some h2
 | inr r=>exact congrArg some h2
/-! Pairs. -/
abbrev E3 :=Int×Int×Int
abbrev NdT :=LI×Int×LI×LI×List E3
def ltE3(x y:E3):Prop:=x.1<y.1∨x.1=y.1∧(x.2.1<y.2.1∨x.2.1=y.2.1∧x.2.2<y.2.2)
instance (x y:E3):Decidable (ltE3 x y):=by unfold ltE3;infer_instance
theorem yg0(x y:E3):∃z,yH x y=some z∧(z<0↔ltE3 x y)∧(z≥0↔ ¬ltE3 x y):=by
 refine⟨y6H [if x.1<y.1 then -1 else if x.1>y.1 then 1 else 0,if x.2.1<y.2.1 then -1 else if x.2.1>y.2.1 then 1 else 0,if x.2.2<y.2.2 then -1 else if x.2.2>y.2.2 then 1 else 0],?_,?_⟩
 ·rw [yH,ybM,yOb,ybM,yOb,ybM,yOb,or_eq (by simp)];rfl
 ·have h:∀z:Int,(z<0↔ltE3 x y)→(z<0↔ltE3 x y)∧(z≥0↔ ¬ltE3 x y):=fun z hz=>⟨hz,by rw [←hz];omega⟩;apply h;unfold ltE3 y6H;by_cases h1:x.1<y.1
  ·simp [h1]
  by_cases h2:x.1>y.1
  ·simp [h1,h2];omega
  have e1:x.1=y.1:=by omega
  by_cases h3:x.2.1<y.2.1
  ·simp [e1,h3]
  by_cases h4:x.2.1>y.2.1
  ·simp [e1,h3,h4];omega
  have e2:x.2.1=y.2.1:=by omega
  by_cases h5:x.2.2<y.2.2
  ·simp [e1,e2,h5]
  by_cases h6:x.2.2>y.2.2
  ·simp [e1,e2,h5,h6]
  ·simp [e1,e2,h5,h6]
structure NdOk (a:NdT):Prop where
 al:a.1.Pairwise (· < ·)
 alr:∀x∈a.1,0≤x∧x<32
 n0:0≤a.2.1
 n1:a.2.1≤4096
 ini:a.2.2.1.Pairwise (· < ·)
 inr:∀x∈a.2.2.1,0≤x∧x<a.2.1
 mks:a.2.2.2.1.Pairwise (· < ·)
 mkr:∀x∈a.2.2.2.1,0≤x∧x<a.2.1
 es:a.2.2.2.2.Pairwise ltE3
 esr:∀x∈a.2.2.2.2,0≤x.1∧x.1<a.2.1∧0≤x.2.2∧x.2.2<a.2.1∧(x.2.1= -1∨x.2.1∈a.1)
 la:a.1.length≤1000000
 li:a.2.2.1.length≤1000000
 lm:a.2.2.2.1.length≤1000000
 le:a.2.2.2.2.length≤65536
theorem y4P{α:Type}{xs ys:List α}(h:xs.length+ys.length≤4294967296):app xs ys=some (xs++ys):=by unfold app;rw [iP h]
/-! The numbers of pairs. -/
def fnd(l:List (Int×Int))(p:Int×Int):Int×List (Int×Int):=if p∈l then((l.idxOf p:Int),l) else((l.length:Int),l++[p])
theorem ybN{xs:LI}{n:Int}(hi:xs.Pairwise (· < ·))(hr:∀x∈xs,0≤x∧x<n)(hl:xs.length≤1000000):y1g xs n=some 0:=by
 obtain⟨o,ho,he⟩:=ye (f:=y3h xs n) (fun j st=>st=(j:Int)) (fun o=>o= .inl ()) xs.length 0 (by omega) (fun j st hj e1=>by
   subst e1;refine .inl ⟨_,?_,rfl⟩;have h1:=hr _ (yGm hj);unfold y3h;rw [iP (ct_lt hj),yb hj,yOb,iN (by simp;omega)];by_cases h0:j=0
   ·subst h0;rw [iN (by simp),yOb,iN (by simp)];rfl
   ·rw [iP (by simp;omega),show(j:Int)-1=((j-1:Nat):Int) by omega,W_nat (by omega),yb (show j-1<xs.length by omega),yOb,yOb];have h2:=yPg.1 hi (j-1) j (by omega) hj (by omega);rw [iN (by simpa using h2),nxt (by omega)])
  (fun st e1=>by
   subst e1;refine⟨.inl (),?_,rfl⟩;unfold y3h;rw [iN ct_ge]) (by omega) 0 rfl
 rw [y1g,ho,he];rfl
theorem yei{a:NdT}(ha:NdOk a):yt a=some 0:=by
 have hn0:=ha.n0;have hn1:=ha.n1;have hle:=ha.le;have hla:=ha.la;have h1:iter (yr a) 0=some (.inl ()):=y6i (n:=3) (by omega) (by
  have e0:yr a 0=some (.inl 1):=by
   unfold yr;rw [iP (by decide),show idx [a.2.2.1,a.2.2.2.1] 0=some a.2.2.1 from rfl,yOb,ybN ha.ini ha.inr ha.li];rfl
  have e1:yr a 1=some (.inl 2):=by
   unfold yr;rw [iP (by decide),show idx [a.2.2.1,a.2.2.2.1] 1=some a.2.2.2.1 from rfl,yOb,ybN ha.mks ha.mkr ha.lm];rfl
  have e2:yr a 2=some (.inr (.inl ())):=rfl;rw [yu,e0];dsimp only;rw [yu,e1];dsimp only;rw [yu,e2])
 obtain⟨o,ho,he⟩:=ye (f:=y2g a) (fun j st=>st=(j:Int)) (fun o=>o= .inl ()) a.2.2.2.2.length 0 (by omega) (fun j st hj e1=>by
   subst e1;refine .inl ⟨_,?_,rfl⟩;obtain⟨g1,g2,g3,g4,g5⟩:=ha.esr _ (yGm hj);unfold y2g;rw [iP (ct_lt hj),yb hj,yOb,iN (by simp;omega)];have hc:(if (a.2.2.2.2[j].2.1 != -1)=true then(yj a.1 a.2.2.2.2[j].2.1).bind fun r51=>some (!r51) else some false)=some false:=by
    rcases g5 with h|h
    ·rw [iN (by simp [h])]
    ·split
     ·rw [y8n (by omega) ha.al,yh.2 h];rfl
     ·rfl
   rw [hc,yOb,iN (by simp)];by_cases h0:j=0
   ·subst h0;rw [iN (by simp)];rfl
   ·rw [iP (by simp;omega),show(j:Int)-1=((j-1:Nat):Int) by omega,W_nat (by omega),yb (show j-1<a.2.2.2.2.length by omega),yOb];have h2:=yPg.1 ha.es (j-1) j (by omega) hj (by omega);obtain⟨z,z1,z2,z3⟩:=yg0 a.2.2.2.2[j-1] a.2.2.2.2[j];rw [z1,yOb,y2f,iN (by
     have:=z2.2 h2;simp;omega),nxt (by omega)])
  (fun st e1=>by
   subst e1;refine⟨.inl (),?_,rfl⟩;unfold y2g;rw [iN ct_ge]) (by omega) 0 rfl
 rw [yt,iN (by simp;omega),iN (by simp;omega),ybN ha.al ha.alr ha.la,yOb,iN (by simp),h1,yOb,ho,he];rfl
end
section
open Go.Proofs.Tryz
inductive Star {S:Type} (R:S→S→Prop):S→S→Prop
 | refl (s:S):Star R s s
 | tail {s t u:S}:Star R s t→R t u→Star R s u
namespace Star
variable{S T:Type}{R:S→S→Prop}{s t u:S}
theorem one(h:R s t):Star R s t:= .tail (.refl _) h
theorem trans(h:Star R s t)(h2:Star R t u):Star R s u:=by
 induction h2 with
 | refl=>exact h
 | tail _ g ih=>exact .tail ih g
theorem head(h:R s t)(h2:Star R t u):Star R s u:=(one h).trans h2
theorem map{Q:T→T→Prop}(f:S→T)(hf:∀a b,R a b→Q (f a) (f b))(h:Star R s t):Star Q (f s) (f t):=by
 induction h with
 | refl=>exact .refl _
 | tail _ g ih=>exact .tail ih (hf _ _ g)
theorem mono{Q:S→S→Prop}(hf:∀a b,R a b→Q a b)(h:Star R s t):Star Q s t:=h.map id hf
end Star
structure Lts (S:Type) where
 ini:S→Prop
 fin:S→Prop
 st:Int→S→S→Prop
 ev:Int→Prop
namespace Lts
variable{S S' T U:Type}
def nxt1(L:Lts S)(s t:S):Prop:=∃e,L.st e s t
def Wf(L:Lts S):Prop:=(∀e s t,L.st e s t→e= -1∨L.ev e)∧¬L.ev (-1)
def rch(L:Lts S)(s:S):Prop:=∃i,L.ini i∧Star L.nxt1 i s
def NB(L:Lts S):Prop:=∀s,L.rch s→∃t,Star L.nxt1 s t∧L.fin t
def tau(L:Lts S):S→S→Prop:=Star (L.st (-1))
def wk(L:Lts S)(e:Int)(s t:S):Prop:=(e= -1∧L.tau s t)∨(e≠ -1∧∃a b,L.tau s a∧L.st e a b∧L.tau b t)
structure Same (A:Lts S) (B:Lts T) (R:S→T→Prop):Prop where
 i1:∀s,A.ini s→∃t,B.ini t∧R s t
 i2:∀t,B.ini t→∃s,A.ini s∧R s t
 s1:∀s t s',R s t→A.nxt1 s s'→∃t',B.nxt1 t t'∧R s' t'
 s2:∀s t t',R s t→B.nxt1 t t'→∃s',A.nxt1 s s'∧R s' t'
 m:∀s t,R s t→(A.fin s↔B.fin t)
theorem Same.symm{A:Lts S}{B:Lts T}{R:S→T→Prop}(h:Same A B R):Same B A fun x y=>R y x:=
 ⟨h.i2,h.i1,fun s t s' hr=>h.s2 t s s' hr,fun s t t' hr=>h.s1 t s t' hr,fun s t hr=>(h.m t s hr).symm⟩
theorem Same.path{A:Lts S}{B:Lts T}{R:S→T→Prop}(h:Same A B R){s s2:S}(hp:Star A.nxt1 s s2){t:T}(hr:R s t):∃t2,Star B.nxt1 t t2∧R s2 t2:=by
 induction hp with
 | refl=>exact⟨t,.refl _,hr⟩
 | tail _ g ih=>
  obtain⟨t',h1,h2⟩:=ih;obtain⟨t2,h3,h4⟩:=h.s1 _ _ _ h2 g;exact⟨t2,.tail h1 h3,h4⟩
theorem Same.nb1{A:Lts S}{B:Lts T}{R:S→T→Prop}(h:Same A B R)(hn:A.NB):B.NB:=by
 rintro t ⟨i,hi,hp⟩;obtain⟨i',hi',hr⟩:=h.i2 _ hi;obtain⟨s,h1,h2⟩:=h.symm.path hp hr;obtain⟨s2,h3,h4⟩:=hn s ⟨i',hi',h1⟩;obtain⟨t2,h5,h6⟩:=h.path h3 h2;exact⟨t2,h5,(h.m _ _ h6).1 h4⟩
theorem Same.nb{A:Lts S}{B:Lts T}{R:S→T→Prop}(h:Same A B R):A.NB↔B.NB:=⟨h.nb1,h.symm.nb1⟩
structure Lab (A:Lts S) (B:Lts T) (R:S→T→Prop):Prop where
 i1:∀s,A.ini s→∃t,B.ini t∧R s t
 i2:∀t,B.ini t→∃s,A.ini s∧R s t
 s1:∀e s t s',R s t→A.st e s s'→∃t',B.st e t t'∧R s' t'
 s2:∀e s t t',R s t→B.st e t t'→∃s',A.st e s s'∧R s' t'
 m:∀s t,R s t→(A.fin s↔B.fin t)
 ev:∀e,A.ev e↔B.ev e
theorem Lab.same{A:Lts S}{B:Lts T}{R:S→T→Prop}(h:Lab A B R):Same A B R:=
 ⟨h.i1,h.i2,fun s t s' hr ⟨e,g⟩=>by obtain⟨t',h1,h2⟩:=h.s1 e s t s' hr g;exact⟨t',⟨e,h1⟩,h2⟩,fun s t t' hr ⟨e,g⟩=>by obtain⟨s',h1,h2⟩:=h.s2 e s t t' hr g;exact⟨s',⟨e,h1⟩,h2⟩,h.m⟩
def unit :Lts (List Int) where
 ini v:=v= []
 fin v:=v= []
 st _ _ _:=False
 ev _:=False
/-! Tuples. -/
def tIni :List (Lts Int)→List Int→Prop
 | [],[]=>True
 | a::l,x::v=>a.ini x∧tIni l v
 | _,_=>False
def tMk :List (Lts Int)→List Int→Prop
 | [],[]=>True
 | a::l,x::v=>a.fin x∧tMk l v
 | _,_=>False
def tSt(e:Int):List (Lts Int)→List Int→List Int→Prop
 | [],[],[]=>True
 | a::l,x::v,y::w=>((a.ev e∧a.st e x y)∨(¬a.ev e∧y=x))∧tSt e l v w
 | _,_,_=>False
def TL(l:List (Lts Int)):Lts (List Int) where
 ini:=tIni l
 fin:=tMk l
 ev e:=∃a∈l,a.ev e
 st e v w:=(∃a∈l,a.ev e)∧tSt e l v w
end Lts
namespace Lts
def mks(L:Lts Int)(s:Int):Prop:=∃m,L.tau s m∧L.fin m
def lab(L:Lts Int)(e:Int):Prop:=e= -1∨L.ev e
structure In (L:Lts Int) (V:Int→Prop):Prop where
 i:∀s,L.ini s→V s
 m:∀s,L.fin s→V s
 s:∀e s t,L.st e s t→V s∧V t
 wf:L.Wf
structure Stb (L:Lts Int) (V:Int→Prop) (P:Int→Int→Prop):Prop where
 sy:∀s t,V s→V t→P s t→P t s
 m:∀s t,V s→V t→P s t→L.mks s→L.mks t
 w:∀s t,V s→V t→P s t→∀e,L.lab e→∀s',L.wk e s s'→∃t',L.wk e t t'∧P s' t'
end Lts
def yd5(c:List Int):Prop:=∀(i:Nat) (x:Int),c[i]? =some x→0≤x∧(∀y:Int,0≤y→y<x→∃j,j<i∧c[j]? =some y)∧((∃j,j<i∧c[j]? =some x)∨∀j y,j<i→c[j]? =some y→y<x)
end
section
open Go.Proofs.Tryz Go Go.RowKit
def ltsN(a:NdT):Lts Int:=⟨fun s=>s∈a.2.2.1,fun s=>s∈a.2.2.2.1,fun e s t=>(s,e,t)∈a.2.2.2.2,fun e=>e∈a.1⟩
theorem NdOk.wf{a:NdT}(ha:NdOk a):(ltsN a).Wf:=⟨fun _ _ _ h=>(ha.esr _ h).2.2.2.2,fun h=>by have:=ha.alr _ h;omega⟩
theorem NdOk.inn{a:NdT}(ha:NdOk a):(ltsN a).In fun s=>0≤s∧s<a.2.1:=⟨fun s h=>ha.inr s h,fun s h=>ha.mkr s h,fun e s t h=>by have:=ha.esr _ h;dsimp only at this;omega,ha.wf⟩
theorem yfb{i n:Nat}(h:i<n):rng (i:Int) n=some ():=by
 unfold rng;rw [iP (by simp;omega)]
theorem yce{n:Nat}{f:Int→Option (Int⊕(Unit⊕Unit))}(hn:n≤4294967296)(step:∀j,j<n→f (j:Int)=some (.inl (((j+1:Nat):Int))))(last:f (n:Int)=some (.inr (.inl ()))):iter f 0=some (.inl ()):=by
 obtain⟨o,ho,he⟩:=ye (f:=f) (fun j st=>st=(j:Int)) (fun o=>o= .inl ()) n 0 (by omega) (fun j st hj e1=>by
   subst e1;exact .inl ⟨_,step j hj,rfl⟩)
  (fun st e1=>by
   subst e1;exact⟨_,last,rfl⟩) (by omega) 0 rfl
 rw [ho,he]
theorem yg1{xs:LI}(h:xs.length≤4294967296):y2p xs xs=some true:=by
 rw [y2p,iN (by simp),yce h (fun j hj=>by
  unfold y4x;rw [iP (ct_lt hj),yb hj,yOb,yOb,iN (by simp),nxt (by omega)]) (by
  unfold y4x;rw [iN ct_ge])]
 rfl
theorem ygW :y4D=some true:=by kernel_rfl
inductive Rc3 (es:List E3) (S:LI):Int→Prop
 | ini {s:Int}:s∈S→Rc3 es S s
 | edge {x:E3}:x∈es→Rc3 es S x.1→Rc3 es S x.2.2
def flg(B:List Bool)(s:Int):Bool:=B.getD s.toNat false
def passF(es:List E3)(B:List Bool):List Bool:=es.foldl (fun B x=>if flg B x.1=true then B.set x.2.2.toNat true else B) B
theorem y8o{B:List Bool}{s t:Int}(hs:0≤s)(ht:0≤t)(h:t.toNat<B.length):flg (B.set t.toNat true) s=if s=t then true else flg B s:=by
 unfold flg;rw [yGd,yGd,List.getElem?_set];by_cases e:s=t
 ·subst e;rw [iP rfl,iP h,iP rfl];rfl
 ·rw [iN (by omega),iN e]
theorem y8O(es:List E3):∀B:List Bool,(passF es B).length=B.length:=by
 unfold passF
 induction es with
 | nil=>intro B;rfl
 | cons x es ih=>
  intro B;rw [List.foldl_cons,ih];split
  ·rw [List.length_set]
  ·rfl
section
variable{n:Nat}
theorem ybj{es0:List E3}{S:LI}(es:List E3)(hsub:∀x∈es,x∈es0)(hr:∀x∈es,0≤x.1∧x.1<(n:Int)∧0≤x.2.2∧x.2.2<(n:Int)):∀B:List Bool,B.length=n→(∀s,0≤s→flg B s=true→Rc3 es0 S s)→
  (∀s,0≤s→flg (passF es B) s=true→Rc3 es0 S s)∧(∀s,0≤s→flg B s=true→flg (passF es B) s=true)∧(passF es B=B→∀x∈es,flg B x.1=true→flg B x.2.2=true):=by
 induction es with
 | nil=>intro B _ h;exact⟨h,fun _ _ h=>h,fun _ x hx=>by cases hx⟩
 | cons x es ih=>
  intro B hB h;have hx:=hr x (.head _);have e:passF (x::es) B=passF es (if flg B x.1=true then B.set x.2.2.toNat true else B):=rfl;have hB2:(if flg B x.1=true then B.set x.2.2.toNat true else B).length=n:=by
   split
   ·rw [List.length_set];exact hB
   ·exact hB
  have hup:∀s,0≤s→flg B s=true→flg (if flg B x.1=true then B.set x.2.2.toNat true else B) s=true:=fun s hs h1=>by
   split
   ·rw [y8o hs hx.2.2.1 (by omega)];split
    ·rfl
    ·exact h1
   ·exact h1
  obtain⟨h1,h2,h3⟩:=ih (fun y hy=>hsub y (.tail _ hy)) (fun y hy=>hr y (.tail _ hy)) _ hB2 (fun s hs hf=>by
   split at hf
   ·rename_i hf1;rw [y8o hs hx.2.2.1 (by omega)] at hf;split at hf
    ·rename_i e;rw [e];exact .edge (hsub x (.head _)) (h _ hx.1 hf1)
    ·exact h s hs hf
   ·exact h s hs hf)
  refine⟨fun s hs hf=>h1 s hs (e▸hf),fun s hs hf=>by rw [e];exact h2 s hs (hup s hs hf),fun he y hy hf=>?_⟩;have hback:∀s,0≤s→flg (if flg B x.1=true then B.set x.2.2.toNat true else B) s=true→flg B s=true:=fun s hs h4=>by
   rw [←he,e];exact h2 s hs h4
  have hBB:(if flg B x.1=true then B.set x.2.2.toNat true else B)=B:=by
   split
   ·rename_i hf1;have h5:flg B x.2.2=true:=hback _ hx.2.2.1 (by rw [iP hf1,y8o hx.2.2.1 hx.2.2.1 (by omega),iP rfl]);unfold flg at h5;rw [yGd,yGe (by omega),Option.getD_some] at h5;exact List.ext_getElem (by simp) fun i i1 i2=>by
     rw [List.getElem_set];split
     ·rename_i e2;subst e2;exact h5.symm
     ·rfl
   ·rfl
  rcases yMo.1 hy with rfl|hy
  ·exact hback _ hx.2.2.1 (by rw [iP hf,y8o hx.2.2.1 hx.2.2.1 (by omega),iP rfl])
  ·rw [hBB] at h3;exact h3 (by rw [e,hBB] at he;exact he) y hy hf
end
theorem yd6 :∀{B B':List Bool},B.length=B'.length→(∀i:Nat,B[i]? =some true→B'[i]? =some true)→B.count true≤B'.count true∧(B.count true=B'.count true→B=B')
 | [],[],_,_=>⟨yNr _,fun _=>rfl⟩
 | [],_::_,h,_=>by simp at h
 | _::_,[],h,_=>by simp at h
 | b::B,c::C,h,hi=>by
  obtain⟨h1,h2⟩:=yd6 (B:=B) (B':=C) (by simpa using h) fun i hb=>by simpa using hi (i+1) (by simpa using hb)
  have h0:=hi 0;cases b <;> cases c <;> simp at h0 ⊢
  ·exact ⟨h1,h2⟩
  ·exact ⟨by omega,fun e=>by omega⟩
  ·exact ⟨h1,h2⟩
def passN(es:List E3)(B:List Bool):Nat→List Bool
 | 0=>B
 | k+1=>passF es (passN es B k)
theorem ybk{B:List Bool}{i:Nat}:B[i]? =some true↔flg B (i:Int)=true:=by
 unfold flg;rw [yTn,yGd];cases B[i]? with
 | none=>simp
 | some b=>cases b <;> simp
theorem ybl{es:List E3}{S:LI}{n:Nat}(hr:∀x∈es,0≤x.1∧x.1<(n:Int)∧0≤x.2.2∧x.2.2<(n:Int)){B:List Bool}(hB:B.length=n)(hs:∀s,0≤s→flg B s=true→Rc3 es S s):∀k,
  (passN es B k).length=n∧(∀s,0≤s→flg (passN es B k) s=true→Rc3 es S s)∧(∀s,0≤s→flg B s=true→flg (passN es B k) s=true)∧(passF es (passN es B k)=passN es B k∨k≤(passN es B k).count true)
 | 0=>⟨hB,hs,fun _ _ h=>h,.inr (yZl _)⟩
 | k+1=>by
  obtain⟨h1,h2,h3,h4⟩:=ybl hr hB hs k;obtain⟨g1,g2,g3⟩:=ybj (es0:=es) (S:=S) es (fun _ h=>h) hr _ h1 h2;have hl:=y8O es (passN es B k);refine⟨by rw [passN,hl,h1],g1,fun s h0 h=>g2 s h0 (h3 s h0 h),?_⟩;by_cases hf:passF es (passN es B k)=passN es B k
  ·left;show passF es (passF es (passN es B k))=passF es (passN es B k);rw [hf,hf]
  ·right;rcases h4 with h4|h4
   ·exact absurd h4 hf
   ·obtain ⟨c1,c2⟩:=yd6 (B:=passN es B k) (B':=passF es (passN es B k)) hl.symm fun i hi=>ybk.2 (g2 _ (by omega) (ybk.1 hi));have:(passN es B k).count true≠(passF es (passN es B k)).count true:=fun e=>hf (c2 e).symm;show k+1≤(passF es (passN es B k)).count true;omega
theorem yg2{es:List E3}{S:LI}{n:Nat}(hr:∀x∈es,0≤x.1∧x.1<(n:Int)∧0≤x.2.2∧x.2.2<(n:Int)){B:List Bool}(hB:B.length=n)(hs:∀s,0≤s→(flg B s=true↔s∈S))(hS:∀s∈S,0≤s):(passN es B n).length=n∧∀s,0≤s→(flg (passN es B n) s=true↔Rc3 es S s):=by
 obtain⟨h1,h2,h3,h4⟩:=ybl (S:=S) hr hB (fun s h0 h=> .ini ((hs s h0).1 h)) n;obtain⟨g1,g2,g3⟩:=ybj (es0:=es) (S:=S) es (fun _ h=>h) hr _ h1 h2;have hfix:passF es (passN es B n)=passN es B n:=by
  rcases h4 with h4|h4
  ·exact h4
  ·obtain ⟨c1,c2⟩:=yd6 (B:=passN es B n) (B':=passF es (passN es B n)) (y8O es _).symm fun i hi=>ybk.2 (g2 _ (by omega) (ybk.1 hi));have c3:(passF es (passN es B n)).count true≤(passF es (passN es B n)).length:=List.count_le_length;rw [y8O,h1] at c3;exact(c2 (by omega)).symm
 refine⟨h1,fun s h0=>⟨h2 s h0,fun h=>?_⟩⟩;clear h0
 induction h with
 | ini hm=>exact h3 _ (hS _ hm) ((hs _ (hS _ hm)).2 hm)
 | edge hx _ ih=>exact g3 hfix _ hx ih
theorem ycf{β γ:Type}{xs:List β}(f:Int×γ→Option ((Int×γ)⊕γ))(g:γ→β→γ)(I:γ→Prop)(hx:xs.length≤4294967296)(hI:∀o,I o→∀x∈xs,I (g o x))
  (step:∀j (hj:j<xs.length) (o:γ),I o→f ((j:Int),o)=some (.inl (((j+1:Nat):Int),g o xs[j]))) (last:∀o:γ,f ((xs.length:Int),o)=some (.inr o)) {out:γ} (h0:I out):iter f (0,out)=some (xs.foldl g out):=by
 obtain⟨o,ho,he⟩:=ye (f:=f) (fun j (st:Int×γ)=>st=((j:Int),(xs.take j).foldl g out)∧I ((xs.take j).foldl g out)) (fun o=>o=xs.foldl g out) xs.length 0 (by omega) (fun j st hj ⟨e1,e2⟩=>by
   subst e1;have hs:(xs.take (j+1)).foldl g out=g ((xs.take j).foldl g out) xs[j]:=by rw [yTs hj,List.foldl_append];rfl
   exact .inl ⟨_,step j hj _ e2,by rw [hs],by rw [hs];exact hI _ e2 _ (yGm hj)⟩)
  (fun st ⟨e1,_⟩=>by
   subst e1;exact⟨_,last _,by rw [List.take_length]⟩) (by omega) (0,out) ⟨rfl,h0⟩
 rw [ho,he]
def setF(S:LI)(B:List Bool):List Bool:=S.foldl (fun B s=>B.set s.toNat true) B
theorem yal{α:Type}{xs:List α}{s:Int}{v:α}(h:0≤s∧s<(xs.length:Int)):upd xs s v=some (xs.set s.toNat v):=by unfold upd;rw [iP h]
theorem y7d{xs:List Bool}{s:Int}(h:0≤s∧s<(xs.length:Int)):idx xs s=some (flg xs s):=by
 unfold idx flg;rw [iP h.1,yGd,yGe (by omega)];rfl
theorem yfc{S:LI}{n:Nat}(hS:∀s∈S,0≤s∧s<(n:Int))(hl:S.length≤4294967296){B:List Bool}(hB:B.length=n):iter (y1s S) (0,B)=some (setF S B):=by
 unfold setF;refine ycf (y1s S) _ (fun B=>B.length=n) hl (fun o h x _=>by rw [List.length_set];exact h) (fun j hj o ho=>?_) (fun o=>?_) hB
 ·have:=hS _ (yGm hj);unfold y1s;simp only [ct_lt hj,if_true,yb hj,yOb];rw [y7d (by omega),yOb,yal (by omega),yOb,nxt (by omega)]
 ·unfold y1s;simp
def selE(ev:LI)(es:List E3):List E3:=es.filter fun x=>ev.isEmpty||hasB ev x.2.1
theorem yg3(es:List E3):selE [] es=es:=by unfold selE;simp
theorem yfd{a:NdT}{n:Nat}{ev:LI}(hev:ev.length≤1000000)(hr:∀x∈a.2.2.2.2,0≤x.1∧x.1<(n:Int)∧0≤x.2.2∧x.2.2<(n:Int))(hl:a.2.2.2.2.length≤4294967296){B:List Bool}(hB:B.length=n):iter (y1q a ev) (0,B)=some (passF (selE ev a.2.2.2.2) B):=by
 unfold passF selE;rw [List.foldl_filter];refine ycf (y1q a ev) _ (fun B=>B.length=n) hl (fun o h x _=>by
  split
  ·split
   ·rw [List.length_set];exact h
   ·exact h
  ·exact h) (fun j hj o ho=>?_) (fun o=>?_) hB
 ·have hx:=hr _ (yGm hj);have hc:(if ((ev.length:Int)==0)=true then some true else(yw ev a.2.2.2.2[j].2.1).bind fun r=>some r)=some (ev.isEmpty||hasB ev a.2.2.2.2[j].2.1):=by
   rw [y6M (by omega),yOb];cases ev with
   | nil=>rfl
   | cons x l=>
    have:((x::l).length:Int)≠0:=by rw [yLc];omega
    rw [iN (by simpa using this)];rfl
  unfold y1q;simp only [ct_lt hj,if_true,yb hj,yOb];rw [y7d (by omega),yOb,hc,yOb];cases hf:flg o a.2.2.2.2[j].1 with
  | true=>
   simp only [if_true,yOb];split
   ·rw [y7d (by omega),yOb,yal (by omega),yOb,yK];simp only [nxt (show j<4611686018427387904 by omega)]
   ·rw [yK];simp only [nxt (show j<4611686018427387904 by omega)]
  | false=>
   simp only [Bool.false_eq_true,if_false,yOb,ite_self];rw [yK];simp only [nxt (show j<4611686018427387904 by omega)]
 ·unfold y1q;simp
theorem yfe{a:NdT}{n:Nat}{ev:LI}(hev:ev.length≤1000000)(hn:a.2.1=(n:Int))(hn1:n≤4096)(hr:∀x∈a.2.2.2.2,0≤x.1∧x.1<(n:Int)∧0≤x.2.2∧x.2.2<(n:Int))(hl:a.2.2.2.2.length≤4294967296){B:List Bool}(hB:B.length=n):iter (y1r a ev) (0,B)=some (passN (selE ev a.2.2.2.2) B n):=by
 have hlen:∀k,(passN (selE ev a.2.2.2.2) B k).length=n:=fun k=>by
  induction k with
  | zero=>exact hB
  | succ k ih=>unfold passN;rw [y8O,ih]
 obtain⟨o,ho,he⟩:=ye (f:=y1r a ev) (fun j st=>st=((j:Int),passN (selE ev a.2.2.2.2) B j)) (fun o=>o=passN (selE ev a.2.2.2.2) B n) n 0 (by omega) (fun j st hj e1=>by
   subst e1;refine .inl ⟨_,?_,rfl⟩;unfold y1r;simp only [hn,ct_lt hj,if_true];rw [yfd hev hr hl (hlen j),yOb,nxt (by omega)];rfl)
  (fun st e1=>by
   subst e1;refine⟨_,?_,rfl⟩;unfold y1r;simp [hn]) (by omega) (0,B) rfl
 rw [ho,he]
def staL(n:Nat)(q:Nat→Bool):LI:=((List.range n).filter q).map fun i:Nat=>(i:Int)
theorem ycg(n:Nat)(q:Nat→Bool):staL (n+1) q=staL n q++if q n=true then [(n:Int)] else []:=by
 unfold staL;rw [List.range_succ,List.filter_append,List.map_append];congr 1;rw [List.filter_cons];split <;> rfl
theorem y8p(n:Nat)(q:Nat→Bool):(staL n q).length≤n:=by
 unfold staL;rw [yLm];exact Nat.le_trans (List.length_filter_le _ _) (by simp)
theorem yff{B:List Bool}(hB:B.length≤4096):iter (y1p B) (0,([]:LI))=some (staL B.length fun i=>flg B (i:Int)):=by
 obtain⟨o,ho,he⟩:=ye (f:=y1p B) (fun j st=>st=((j:Int),staL j fun i=>flg B (i:Int))) (fun o=>o=staL B.length fun i=>flg B (i:Int)) B.length 0 (by omega) (fun j st hj e1=>by
   subst e1;refine .inl ⟨_,?_,rfl⟩;have hl:=y8p j fun i=>flg B (i:Int);unfold y1p;simp only [ct_lt hj,if_true];rw [y7d (by omega),yOb,ycg];split
   ·rw [y4P (by simp;omega),yOb,y1o];simp only [nxt (show j<4611686018427387904 by omega)]
   ·rw [y1o,List.append_nil];simp only [nxt (show j<4611686018427387904 by omega)])
  (fun st e1=>by
   subst e1;refine⟨_,?_,rfl⟩;unfold y1p;simp) (by omega) (0,[]) rfl
 rw [ho,he]
theorem ych{n:Nat}:∀(S:LI),(∀s∈S,0≤s∧s<(n:Int))→∀B:List Bool,B.length=n→(setF S B).length=n∧∀s,0≤s→(flg (setF S B) s=true↔s∈S∨flg B s=true)
 | [],_,B,hB=>⟨hB,fun s _=>by simp [setF]⟩
 | x::S,hS,B,hB=>by
  have hx:=hS x (.head _);obtain⟨h1,h2⟩:=ych S (fun s hs=>hS s (.tail _ hs)) (B.set x.toNat true) (by rw [List.length_set];exact hB);refine⟨h1,fun s h0=>?_⟩;show flg (setF S (B.set x.toNat true)) s=true↔_;rw [h2 s h0,y8o h0 hx.1 (by omega),yMo];by_cases e:s=x
  ·subst e;simp
  ·rw [iN e];constructor
   ·rintro (h|h)
    ·exact .inl (.inr h)
    ·exact .inr h
   ·rintro ((h|h)|h)
    ·exact absurd h e
    ·exact .inl h
    ·exact .inr h
theorem yfg{a:NdT}(ha:NdOk a){S ev:LI}(hev:ev.length≤1000000)(hS:∀s∈S,0≤s∧s<a.2.1)(hl:S.length≤4294967296):∃q:Nat→Bool,yJ a S ev=some (staL a.2.1.toNat q)∧∀i:Nat,i<a.2.1.toNat→(q i=true↔Rc3 (selE ev a.2.2.2.2) S (i:Int)):=by
 obtain⟨n,hn⟩:∃n:Nat,a.2.1=(n:Int):=⟨a.2.1.toNat,by have:=ha.n0;omega⟩;have hn1:=ha.n1;have hle:=ha.le;rw [hn] at hS;have hr:∀x∈a.2.2.2.2,0≤x.1∧x.1<(n:Int)∧0≤x.2.2∧x.2.2<(n:Int):=fun x hx=>by
  have:=ha.esr x hx;omega
 have h0:(List.replicate n false).length=n:=List.length_replicate ..;obtain⟨h1,h2⟩:=ych S hS _ h0;obtain⟨g1,g2⟩:=yg2 (es:=selE ev a.2.2.2.2) (S:=S) (fun x hx=>hr x (List.mem_filter.1 hx).1) h1 (fun s hs=>by
  rw [h2 s hs];have:flg (List.replicate n false) s=false:=by
   unfold flg;rw [yGd,List.getElem?_replicate];split <;> rfl
  simp [this]) fun s hs=>(hS s hs).1
 refine⟨fun i=>flg (passN (selE ev a.2.2.2.2) (setF S (List.replicate n false)) n) (i:Int),?_,fun i _=>g2 _ (by omega)⟩;have hm:mkL a.2.1 false=some (List.replicate n false):=by unfold mkL;rw [hn,iP (by omega)];rfl
 have h3:=yff (B:=passN (selE ev a.2.2.2.2) (setF S (List.replicate n false)) n) (by omega);rw [g1] at h3;rw [yJ,hm,yOb,yfc hS hl h0,yOb,yfe hev hn (by omega) hr (by omega) h1,yOb,h3,yOb,hn,yTn]
theorem yci{a:NdT}(ha:NdOk a){S:LI}(hS:∀s∈S,0≤s∧s<a.2.1)(hl:S.length≤4294967296):∃q:Nat→Bool,yJ a S []=some (staL a.2.1.toNat q)∧∀i:Nat,i<a.2.1.toNat→(q i=true↔Rc3 a.2.2.2.2 S (i:Int)):=by
 have:=yfg ha (ev:=[]) (by simp) hS hl;rwa [yg3] at this
theorem ydQ{xs:LI}{p:Int→Option Bool}{g:Int→Bool}(hl:xs.length≤1000000)(hp:∀x∈xs,p x=some (g x)):yL xs p=some (xs.any g):=by
 obtain⟨o,h1,h2⟩:=ye (f:=y2w xs p) (fun i s=>s=(i:Int)∧xs.any g=(xs.drop i).any g) (fun o=>(o= .inl ()∧xs.any g=false)∨∃i:Nat,o= .inr (i:Int)∧xs.any g=true) xs.length 0 (by omega) (fun i s hi ⟨e1,e2⟩=>by
  subst e1;rw [yDc hi,List.any_cons] at e2;rw [y2w,iP (ct_lt hi),yb hi,yOb,hp _ (yGm hi),yOb];cases hg:g xs[i] with
  | true=>
   rw [hg] at e2;exact .inr ⟨_,by rw [iP rfl],.inr ⟨i,rfl,e2⟩⟩
  | false=>
   rw [hg] at e2;exact .inl ⟨_,by rw [iN (by simp),nxt (by omega)],rfl,e2⟩) (fun s ⟨e1,e2⟩=>by
  subst e1;rw [List.drop_length] at e2;exact⟨_,by rw [y2w,iN ct_ge],.inl ⟨rfl,e2⟩⟩) (yZl _) 0 ⟨rfl,rfl⟩
 rw [yL,y4n,h1,yOb];rcases h2 with ⟨rfl,e⟩|⟨i,rfl,e⟩
 ·rw [e];rfl
 ·rw [e];show some (decide ((i:Int)≥0))=some true;simp
theorem y8q{n:Nat}{q:Nat→Bool}{x:Int}:x∈staL n q↔ ∃i:Nat,x=i∧i<n∧q i=true:=by
 unfold staL;simp only [yMp,List.mem_filter,List.mem_range];constructor
 ·rintro ⟨i,⟨h1,h2⟩,rfl⟩;exact⟨i,rfl,h1,h2⟩
 ·rintro ⟨i,rfl,h1,h2⟩;exact⟨i,⟨h1,h2⟩,rfl⟩
noncomputable def goodB(a:NdT)(s:Int):Bool:=@decide (∃t∈a.2.2.2.1,Rc3 a.2.2.2.2 [s] t) (Classical.propDecidable _)
theorem yg4{a:NdT}(ha:NdOk a):∃q:Nat→Bool,(∀i:Nat,i<a.2.1.toNat→(q i=true↔Rc3 a.2.2.2.2 a.2.2.1 (i:Int)))∧y1A a=some ((staL a.2.1.toNat q).filter fun s=>!goodB a s):=by
 have hn1:=ha.n1;have hlm:=ha.lm;obtain⟨q,h1,h2⟩:=yci ha (S:=a.2.2.1) ha.inr (by have:=ha.li;omega);refine⟨q,h2,?_⟩;have hlen:=y8p a.2.1.toNat q;have hg:∀s:Int,0≤s→s<a.2.1→∃l,yJ a [s] []=some l∧yL l (y2b a)=some (goodB a s):=fun s hs0 hs1=>by
  obtain⟨r,k1,k2⟩:=yci ha (S:=[s]) (fun x hx=>by rw [yMs.1 hx];exact⟨hs0,hs1⟩) (by simp);refine⟨_,k1,?_⟩;have hl2:=y8p a.2.1.toNat r;rw [ydQ (g:=hasB a.2.2.2.1) (by omega) (fun x _=>by rw [y2b,y6M (by omega)];rfl)];congr 1;rw [Bool.eq_iff_iff,List.any_eq_true];unfold goodB;rw [@decide_eq_true_iff _ (Classical.propDecidable _)];constructor
  ·rintro ⟨t,ht,hm⟩;obtain⟨i,rfl,hi,hr⟩:=y8q.1 ht;exact⟨_,yh.1 hm,(k2 i hi).1 hr⟩
  ·rintro ⟨t,hm,hr⟩;have:=ha.mkr t hm;refine⟨t,y8q.2 ⟨t.toNat,by omega,by omega,(k2 _ (by omega)).2 ?_⟩,yh.2 hm⟩;rwa [show ((t.toNat:Nat):Int)=t by omega]
 have hf:∀(xs out:LI),xs.foldl (fun out x=>if(!goodB a x)=true then out++[x] else out) out=out++xs.filter fun s=>!goodB a s:=by
  intro xs
  induction xs with
  | nil=>intro out;simp
  | cons x xs ih=>
   intro out;rw [List.foldl_cons,ih];cases h:!goodB a x <;> simp [h]
 have hloop:iter (y1O a (staL a.2.1.toNat q)) (0,([]:LI))=some ((staL a.2.1.toNat q).foldl (fun out x=>if(!goodB a x)=true then out++[x] else out) []):=by
  obtain⟨o,ho,he⟩:=ye (f:=y1O a (staL a.2.1.toNat q)) (fun j st=>st=((j:Int),((staL a.2.1.toNat q).take j).foldl (fun out x=>if(!goodB a x)=true then out++[x] else out) [])) (fun o=>o=(staL a.2.1.toNat q).foldl (fun out x=>if(!goodB a x)=true then out++[x] else out) []) (staL a.2.1.toNat q).length 0 (by omega) (fun j st hj e1=>by
    subst e1;refine .inl ⟨_,?_,rfl⟩;obtain⟨i,hi,hin,_⟩:=y8q.1 (yGm hj);obtain⟨l,m1,m2⟩:=hg (staL a.2.1.toNat q)[j] (by omega) (by omega);have hb:(((staL a.2.1.toNat q).take j).foldl (fun out x=>if(!goodB a x)=true then out++[x] else out) []).length≤j:=by
     rw [hf,List.nil_append];exact Nat.le_trans (List.length_filter_le _ _) (by rw [yLt];omega)
    rw [yTs hj,List.foldl_append];unfold y1O;simp only [ct_lt hj,if_true,yb hj,yOb,m1,m2,List.foldl_cons,List.foldl_nil];split
    ·rw [y4P (by rw [List.length_singleton];omega),yOb,y1N];simp only [nxt (show j<4611686018427387904 by omega)]
    ·rw [y1N];simp only [nxt (show j<4611686018427387904 by omega)])
   (fun st e1=>by
    subst e1;refine⟨(staL a.2.1.toNat q).foldl (fun out x=>if(!goodB a x)=true then out++[x] else out) [],?_,rfl⟩;rw [List.take_length];unfold y1O;simp) (by omega) (0,[]) rfl
  rw [ho,he]
 rw [y1A,h1,yOb,hloop,yOb,hf,List.nil_append]
def frm(bk:Bool)(x:E3):Int:=if bk=true then x.2.2 else x.1
def tow(bk:Bool)(x:E3):Int:=if bk=true then x.1 else x.2.2
def nxF(bk:Bool)(N:List LI)(x:E3):List LI:=N.set (frm bk x).toNat (N.getD (frm bk x).toNat []++[tow bk x])
theorem yfh{a:NdT}(ha:NdOk a)(bk:Bool){n:Nat}(hn:a.2.1=(n:Int)):iter (y1W a bk) (0,List.replicate n ([]:LI))=some (a.2.2.2.2.foldl (nxF bk) (List.replicate n [])):=by
 have hle:=ha.le;obtain⟨o,ho,he⟩:=ye (f:=y1W a bk) (fun j st=>st=((j:Int),(a.2.2.2.2.take j).foldl (nxF bk) (List.replicate n []))∧st.2.length=n∧∀i:Nat,(st.2.getD i []).length≤j) (fun o=>o=a.2.2.2.2.foldl (nxF bk) (List.replicate n [])) a.2.2.2.2.length 0 (by omega) (fun j st hj ⟨e1,e2,e3⟩=>by
   obtain⟨g1,g2,g3,g4,_⟩:=ha.esr _ (yGm hj);have hf:0≤frm bk a.2.2.2.2[j]∧frm bk a.2.2.2.2[j]<(n:Int):=by
    unfold frm;split <;> omega
   have hs:(a.2.2.2.2.take (j+1)).foldl (nxF bk) (List.replicate n [])=nxF bk ((a.2.2.2.2.take j).foldl (nxF bk) (List.replicate n [])) a.2.2.2.2[j]:=by rw [yTs hj,List.foldl_append];rfl
   obtain⟨s1,N⟩:=st;obtain⟨e0,e1'⟩:=Prod.mk.inj e1;dsimp only at e2 e3;rw [←e1'] at hs;subst e0;have hj1:y1V ((j:Int),N) (frm bk a.2.2.2.2[j]) (tow bk a.2.2.2.2[j])=some (.inl (((j+1:Nat):Int),nxF bk N a.2.2.2.2[j])):=by
    have hidx:idx N (frm bk a.2.2.2.2[j])=some (N.getD (frm bk a.2.2.2.2[j]).toNat []):=by
     unfold idx;rw [iP hf.1,yGd,yGe (by omega)];rfl
    have hb:=e3 (frm bk a.2.2.2.2[j]).toNat;rw [y1V];simp only;rw [hidx,yOb,y4P (by rw [List.length_singleton];omega),yOb,yOb,yal (by omega),yOb,nxt (by omega)];rfl
   refine .inl ⟨(((j+1:Nat):Int),nxF bk N a.2.2.2.2[j]),?_,by rw [hs],by unfold nxF;rw [List.length_set];exact e2,fun i=>?_⟩
   ·unfold y1W;simp only [ct_lt hj,if_true,yb hj,yOb];rw [←hj1];unfold frm tow;cases bk <;> rfl
   ·have h1:=e3 i;have h2:=e3 (frm bk a.2.2.2.2[j]).toNat;unfold nxF;dsimp only;rw [yGd,List.getElem?_set];split
    ·split
     ·rw [Option.getD_some,yLa,List.length_singleton];omega
     ·rw [Option.getD_none,List.length_nil];omega
    ·rw [←yGd];omega)
  (fun st ⟨e1,_,_⟩=>by
   subst e1;refine⟨a.2.2.2.2.foldl (nxF bk) (List.replicate n []),?_,rfl⟩;rw [List.take_length];unfold y1W;simp) (by omega) (0,List.replicate n []) ⟨rfl,List.length_replicate ..,fun i=>by
    rw [yGd,List.getElem?_replicate];split <;> simp⟩
 rw [ho,he]
theorem ybO(bk:Bool){n:Nat}:∀(es:List E3),(∀x∈es,0≤frm bk x∧frm bk x<(n:Int))→∀N:List LI,N.length=n→
  (es.foldl (nxF bk) N).length=n∧∀(i:Nat) (t:Int),t∈(es.foldl (nxF bk) N).getD i []↔t∈N.getD i []∨∃x∈es,frm bk x=(i:Int)∧tow bk x=t
 | [],_,N,hN=>⟨hN,fun i t=>by simp⟩
 | x::es,hr,N,hN=>by
  have hx:=hr x (.head _);obtain⟨h1,h2⟩:=ybO bk es (fun y hy=>hr y (.tail _ hy)) (nxF bk N x) (by unfold nxF;rw [List.length_set];exact hN);refine⟨h1,fun i t=>?_⟩;rw [List.foldl_cons,h2];have h3:t∈(nxF bk N x).getD i []↔t∈N.getD i []∨(frm bk x=(i:Int)∧tow bk x=t):=by
   unfold nxF;rw [yGd,List.getElem?_set];by_cases e:(frm bk x).toNat=i
   ·rw [iP e,iP (by omega),Option.getD_some,e,yMa,yMs];constructor
    ·rintro (h|h)
     ·exact .inl h
     ·exact .inr ⟨by omega,h.symm⟩
    ·rintro (h|⟨_,h⟩)
     ·exact .inl h
     ·exact .inr h.symm
   ·rw [iN e,←yGd];constructor
    ·exact .inl
    ·rintro (h|⟨h,_⟩)
     ·exact h
     ·omega
  rw [h3];constructor
  ·rintro ((h|h)|⟨y,hy,h⟩)
   ·exact .inl h
   ·exact .inr ⟨x,.head _,h⟩
   ·exact .inr ⟨y,.tail _ hy,h⟩
  ·rintro (h|⟨y,hy,h⟩)
   ·exact .inl (.inl h)
   ·rcases yMo.1 hy with rfl|hy
    ·exact .inl (.inr h)
    ·exact .inr ⟨y,hy,h⟩
inductive RcL (lead:Int→LI) (S:LI):Int→Prop
 | ini {s:Int}:s∈S→RcL lead S s
 | step {s t:Int}:RcL lead S s→t∈lead s→RcL lead S t
def potS(lead:Int→LI)(B:List Bool):Nat→Nat
 | 0=>0
 | k+1=>potS lead B k+if flg B (k:Int)=true then 0 else(lead (k:Int)).length
theorem yd7{lead:Int→LI}{B:List Bool}{x:Nat}(hx:x<B.length)(hf:flg B (x:Int)=false):∀k:Nat,potS lead (B.set x true) k+(if x<k then(lead (x:Int)).length else 0)=potS lead B k
 | 0=>rfl
 | k+1=>by
  have ih:=yd7 (lead:=lead) hx hf k;have e:=y8o (B:=B) (s:=(k:Int)) (t:=(x:Int)) (by omega) (by omega) (by omega);rw [yTn] at e;show potS lead (B.set x true) k+(if flg (B.set x true) (k:Int)=true then 0 else(lead (k:Int)).length)+(if x<k+1 then(lead (x:Int)).length else 0)=potS lead B k+if flg B (k:Int)=true then 0 else(lead (k:Int)).length
  by_cases h1:k=x
  ·subst h1;rw [iN (Nat.lt_irrefl _)] at ih;rw [e,iP rfl,iP rfl,iP (Nat.lt_succ_self _),hf,iN (by simp)];omega
  ·rw [iN (by omega)] at e;rw [e];by_cases h2:x<k
   ·rw [iP h2] at ih;rw [iP (show x<k+1 by omega)];omega
   ·rw [iN h2] at ih;rw [iN (show ¬x<k+1 by omega)];omega
theorem ydR{lead:Int→LI}{B:List Bool}{M:Nat}:∀k:Nat,(∀i:Nat,i<k→(lead (i:Int)).length≤M)→potS lead B k≤k*M
 | 0,_=>by simp [potS]
 | k+1,h=>by
  have ih:=ydR (B:=B) k fun i hi=>h i (by omega);have:=h k (by omega);rw [Nat.add_mul,Nat.one_mul];unfold potS;split <;> omega
structure SrI (lead:Int→LI) (S:LI) (n:Nat) (B:List Bool) (todo:LI):Prop where
 len:B.length=n
 rng:∀x∈todo,0≤x∧x<(n:Int)
 rc:∀x∈todo,RcL lead S x
 fl:∀s,0≤s→flg B s=true→RcL lead S s
 nx:∀s,0≤s→flg B s=true→∀t∈lead s,flg B t=true∨t∈todo
 st:∀s∈S,flg B s=true∨s∈todo
theorem ydl{σ ο:Type}{f:σ→Option (σ⊕ο)}(mk:List Bool→LI→σ)(out:List Bool→ο){lead:Int→LI}{S:LI}{n M:Nat}(hn:n≤4096)(hM:M≤65536)(hSl:S.length≤300000000)(hS:∀s∈S,0≤s∧s<(n:Int))
  (hl:∀s,0≤s→s<(n:Int)→(lead s).length≤M∧∀t∈lead s,0≤t∧t<(n:Int))
  (s1:∀B todo x,B.length=n→0≤x→x<(n:Int)→todo.length≤600000000→flg B x=true→f (mk B (todo++[x]))=some (.inl (mk B todo)))
  (s2:∀B todo x,B.length=n→0≤x→x<(n:Int)→todo.length+(lead x).length≤600000000→flg B x=false→f (mk B (todo++[x]))=some (.inl (mk (B.set x.toNat true) (todo++lead x))))
  (s3:∀B,f (mk B [])=some (.inr (out B))):
  ∃B,iter f (mk (List.replicate n false) S)=some (out B)∧B.length=n∧∀s,0≤s→(flg B s=true↔RcL lead S s):=by
 have hf0:∀s,flg (List.replicate n false) s=false:=fun s=>by
  unfold flg;rw [yGd,List.getElem?_replicate];split <;> rfl
 have hp0:potS lead (List.replicate n false) n≤4096*65536:=Nat.le_trans (ydR (M:=M) n fun i hi=>(hl _ (by omega) (by omega)).1) (Nat.mul_le_mul hn hM);obtain⟨o,h1,B,rfl,h2,h3⟩:=ye (f:=f) (fun i s=>∃B todo,s=mk B todo∧SrI lead S n B todo∧i+todo.length+potS lead B n≤600000000) (fun o=>∃B,o=out B∧B.length=n∧∀s,0≤s→(flg B s=true↔RcL lead S s)) 600000001 0 (by omega) (fun i s _ ⟨B,todo,e1,hI,hm⟩=>by
   subst e1;rcases List.eq_nil_or_concat todo with rfl|⟨td,x,rfl⟩
   ·refine .inr ⟨_,s3 B,B,rfl,hI.len,fun s hs=>⟨hI.fl s hs,fun h=>?_⟩⟩;clear hs
    induction h with
    | ini h=>exact(hI.st _ h).resolve_right (by simp)
    | step hr h ih=>
     have h0:∀{s:Int},RcL lead S s→0≤s∧s<(n:Int):=fun h=>by
      clear ih
      induction h with
      | ini h=>exact hS _ h
      | step _ h ih=>exact(hl _ ih.1 ih.2).2 _ h
     exact(hI.nx _ (h0 hr).1 ih _ h).resolve_right (by simp)
   ·rw [List.concat_eq_append] at hI hm ⊢;have hx:=hI.rng x (by simp);rw [yLa,List.length_singleton] at hm;left;cases hf:flg B x with
    | true=>
     refine⟨_,s1 B td x hI.len hx.1 hx.2 (by omega) hf,B,td,rfl,⟨hI.len,fun y hy=>hI.rng y (by simp [hy]),fun y hy=>hI.rc y (by simp [hy]),hI.fl,fun s hs hb t ht=>?_,fun s hs=>?_⟩,by omega⟩
     ·rcases hI.nx s hs hb t ht with h|h
      ·exact .inl h
      ·rcases yMa.1 h with h|h
       ·exact .inr h
       ·rw [yMs.1 h];exact .inl hf
     ·rcases hI.st s hs with h|h
      ·exact .inl h
      ·rcases yMa.1 h with h|h
       ·exact .inr h
       ·rw [yMs.1 h];exact .inl hf
    | false=>
     obtain⟨k,rfl⟩:∃k:Nat,x=(k:Int):=⟨x.toNat,by omega⟩;have hk:k<B.length:=by have:=hI.len;omega
     have hp:=yd7 (lead:=lead) hk hf n;rw [iP (by omega)] at hp;have hrx:=hI.rc _ (yMr td (yMs.2 rfl));have hfs:∀s,0≤s→flg (B.set k true) s=if s=(k:Int) then true else flg B s:=fun s hs=>by
      have e:=y8o (B:=B) (t:=(k:Int)) hs (by omega) (by omega);rwa [yTn] at e
     have hms:i+1+(td++lead k).length+potS lead (B.set k true) n≤600000000:=by rw [yLa];omega
     refine⟨_,s2 B td k hI.len hx.1 hx.2 (by rw [yLa] at hms;omega) hf,B.set k true,td++lead k,rfl,⟨by rw [List.length_set];exact hI.len,fun y hy=>?_,fun y hy=>?_,fun s hs h=>?_,fun s hs hb t ht=>?_,fun s hs=>?_⟩,hms⟩
     ·rcases yMa.1 hy with hy|hy
      ·exact hI.rng y (by simp [hy])
      ·exact (hl _ hx.1 hx.2).2 y hy
     ·rcases yMa.1 hy with hy|hy
      ·exact hI.rc y (by simp [hy])
      ·exact .step hrx hy
     ·rw [hfs s hs] at h;split at h
      ·rename_i e;rw [e];exact hrx
      ·exact hI.fl s hs h
     ·rw [hfs s hs] at hb;have key:∀{t:Int},0≤t→flg B t=true∨t∈td++[(k:Int)]→flg (B.set k true) t=true∨t∈td++lead k:=fun {t} h0 h=>by
       rw [hfs t h0];rcases h with h|h
       ·left;split
        ·rfl
        ·exact h
       ·rcases yMa.1 h with h|h
        ·exact .inr (yMl _ h)
        ·rw [yMs.1 h,iP rfl];exact .inl rfl
      split at hb
      ·rename_i e;rw [e] at ht;exact .inr (yMr _ ht)
      ·rcases hI.nx s hs hb t ht with h|h
       ·by_cases h0:0≤t
        ·exact key h0 (.inl h)
        ·exfalso;have hs2:s<(n:Int):=by
          rcases Int.lt_or_le s n with h|h
          ·exact h
          ·exfalso;unfold flg at hb;rw [yGd,yGn (by have:=hI.len;omega)] at hb;simp at hb
         have:=(hl s hs hs2).2 t ht;omega
       ·exact key (hI.rng t h).1 (.inr h)
     ·have h0:=hS s hs;rw [hfs s h0.1];rcases hI.st s hs with h|h
      ·left;split
       ·rfl
       ·exact h
      ·rcases yMa.1 h with h|h
       ·exact .inr (yMl _ h)
       ·rw [yMs.1 h,iP rfl];exact .inl rfl)
  (fun s ⟨B,todo,_,_,hm⟩=>by omega) (by omega) _ ⟨_,S,rfl,⟨List.length_replicate ..,hS,fun x hx=> .ini hx,fun s _ h=>by rw [hf0 s] at h;simp at h,fun s _ h=>by rw [hf0 s] at h;simp at h,fun s hs=> .inr hs⟩,by omega⟩
 exact⟨B,h1,h2,h3⟩
theorem ydS{α:Type}{td:List α}{x:α}(h:td.length≤4294967296):idx (td++[x]) (W (((td++[x]).length:Int)-1))=some x:=by
 have e:(((td++[x]).length:Int)-1)=(td.length:Int):=by rw [yLa,List.length_singleton];omega
 rw [e,W_nat (by omega),yb (by simp)];simp
theorem ydT{α:Type}{td:List α}{x:α}(h:td.length≤4294967296):slc (td++[x]) 0 (W (((td++[x]).length:Int)-1))=some td:=by
 have e:(((td++[x]).length:Int)-1)=(td.length:Int):=by rw [yLa,List.length_singleton];omega
 have:=yht (xs:=td++[x]) (i:=0) (j:=td.length) (by omega) (by simp);rw [e,W_nat (by omega)];rw [show (0:Int)=((0:Nat):Int) from rfl,this];simp
theorem ydU{α:Type}{td:List α}{x:α}:decide (((td++[x]).length:Int)>0)=true:=by simp
def rowsN(bk:Bool)(n:Nat)(es:List E3):List LI:=es.foldl (nxF bk) (List.replicate n [])
def ledN(bk:Bool)(n:Nat)(es:List E3)(s:Int):LI:=(rowsN bk n es).getD s.toNat []
theorem ybm(bk:Bool):∀(es:List E3) (N:List LI) (i:Nat),((es.foldl (nxF bk) N).getD i []).length≤(N.getD i []).length+es.length
 | [],N,i=>yNr _
 | x::es,N,i=>by
  have h:=ybm bk es (nxF bk N x) i;rw [List.foldl_cons,yLc];have h2:((nxF bk N x).getD i []).length≤(N.getD i []).length+1:=by
   unfold nxF;rw [yGd,List.getElem?_set];split
   ·rename_i e;split
    ·rw [Option.getD_some,yLa,e];simp
    ·rw [Option.getD_none];simp
   ·rw [yGd];omega
  omega
theorem y8r{a:NdT}(ha:NdOk a){bk:Bool}{s t:Int}(hs:0≤s):t∈ledN bk a.2.1.toNat a.2.2.2.2 s↔ ∃x∈a.2.2.2.2,frm bk x=s∧tow bk x=t:=by
 have h0:=ha.n0;obtain⟨_,h2⟩:=ybO bk (n:=a.2.1.toNat) a.2.2.2.2 (fun x hx=>by
  have:=ha.esr x hx;unfold frm;split <;> omega) (List.replicate a.2.1.toNat []) (List.length_replicate ..)
 unfold ledN rowsN;rw [h2];have:t∉(List.replicate a.2.1.toNat ([]:LI)).getD s.toNat []:=by
  rw [yGd,List.getElem?_replicate];split <;> simp
 simp only [this,false_or];rw [show ((s.toNat:Nat):Int)=s by omega]
theorem ycj{a:NdT}(ha:NdOk a){S:LI}(hS:∀s∈S,0≤s∧s<a.2.1)(hl:S.length≤1000000)(bk:Bool):
  ∃B,y2H a S bk=some B∧B.length=a.2.1.toNat∧∀s,0≤s→(flg B s=true↔RcL (ledN bk a.2.1.toNat a.2.2.2.2) S s):=by
 have h0:=ha.n0;have h1:=ha.n1;have hle:=ha.le;obtain⟨n,hn⟩:∃n:Nat,a.2.1=(n:Int):=⟨a.2.1.toNat,by omega⟩;have hnn:a.2.1.toNat=n:=by omega
 have hl1:=yfh ha bk hn;have hrl:=(ybO bk (n:=n) a.2.2.2.2 (fun x hx=>by
  have:=ha.esr x hx;unfold frm;split <;> omega) (List.replicate n []) (List.length_replicate ..)).1
 have hled:∀s,0≤s→s<(n:Int)→idx (rowsN bk n a.2.2.2.2) s=some (ledN bk n a.2.2.2.2 s):=fun s hs hs2=>by
  unfold idx ledN;rw [iP hs,yGd,yGe (by unfold rowsN;omega)];rfl
 have hml:=fun s t=>y8r ha (bk:=bk) (s:=s) (t:=t);rw [hnn] at hml;rw [hnn];obtain⟨B,k1,k2,k3⟩:=ydl (f:=yY (rowsN bk n a.2.2.2.2)) (fun B todo=>(todo,B)) (fun B=>B) (lead:=ledN bk n a.2.2.2.2) (S:=S) (n:=n) (M:=65536) (by omega) (yNr _) (by omega) (fun s hs=>by have:=hS s hs;omega) (fun s hs hs2=>⟨by
   have:=ybm bk a.2.2.2.2 (List.replicate n []) s.toNat;have e:((List.replicate n ([]:LI)).getD s.toNat []).length=0:=by
    rw [yGd,List.getElem?_replicate];split <;> simp
   unfold ledN rowsN;omega,fun t ht=>by
   obtain⟨x,hx,_,rfl⟩:=(hml s t hs).1 ht;have:=ha.esr x hx;unfold tow;split <;> omega⟩)
  (fun B td x hB hx0 hx1 htd hf=>by
   unfold yY;simp only [ydU,if_true];rw [ydS (by omega),yOb,ydT (by omega),yOb,y7d (by omega),yOb,hf];simp)
  (fun B td x hB hx0 hx1 htd hf=>by
   unfold yY;simp only [ydU,if_true];rw [ydS (by omega),yOb,ydT (by omega),yOb,y7d (by omega),yOb,hf];simp only [Bool.not_false,if_true,yOb];rw [yal (by omega),yOb,hled x hx0 hx1,yOb,y4P (by omega),yOb])
  (fun B=>by
   unfold yY;simp)
 refine⟨B,?_,k2,k3⟩;have hm:mkL a.2.1 ([]:LI)=some (List.replicate n []):=by unfold mkL;rw [hn,iP (by omega)];rfl
 have hm2:mkL a.2.1 false=some (List.replicate n false):=by unfold mkL;rw [hn,iP (by omega)];rfl
 rw [y2H,hm,yOb,hl1,yOb,hm2,yOb,y8m (by omega),yOb];show(iter (yY (rowsN bk n a.2.2.2.2)) (S,List.replicate n false)).bind _=_;rw [k1];rfl
theorem ygX{a:NdT}(ha:NdOk a){S:LI}(hS:∀s∈S,0≤s){t:Int}:RcL (ledN false a.2.1.toNat a.2.2.2.2) S t↔Rc3 a.2.2.2.2 S t:=by
 constructor
 ·intro h
  suffices g:0≤t∧Rc3 a.2.2.2.2 S t from g.2
  induction h with
  | ini h=>exact⟨hS _ h,.ini h⟩
  | step _ h ih=>
   obtain⟨x,hx,h1,h2⟩:=(y8r ha ih.1).1 h;have:=ha.esr x hx;simp only [frm,tow,Bool.false_eq_true,if_false] at h1 h2;subst h2;exact⟨this.2.2.1,.edge hx (h1▸ih.2)⟩
 ·intro h
  induction h with
  | ini h=>exact .ini h
  | edge hx _ ih=>exact .step ih ((y8r ha (ha.esr _ hx).1).2 ⟨_,hx,rfl,rfl⟩)
theorem ygY{a:NdT}(ha:NdOk a){S:LI}(hS:∀s∈S,0≤s){s:Int}:RcL (ledN true a.2.1.toNat a.2.2.2.2) S s↔ ∃t∈S,Star (ltsN a).nxt1 s t:=by
 constructor
 ·intro h
  suffices g:0≤s∧∃t∈S,Star (ltsN a).nxt1 s t from g.2
  induction h with
  | ini h=>exact⟨hS _ h,_,h,.refl _⟩
  | step _ h ih=>
   obtain⟨x,hx,h1,h2⟩:=(y8r ha ih.1).1 h;have:=ha.esr x hx;simp only [frm,tow,if_true] at h1 h2;subst h2;obtain⟨t,ht,g⟩:=ih.2;rw [←h1] at g;exact⟨this.1,t,ht,Star.head ⟨_,hx⟩ g⟩
 ·rintro ⟨t,ht,h⟩;have key:∀{s u:Int},Star (ltsN a).nxt1 s u→RcL (ledN true a.2.1.toNat a.2.2.2.2) S u→RcL (ledN true a.2.1.toNat a.2.2.2.2) S s:=fun {s u} h=>by
   induction h with
   | refl=>exact id
   | tail _ g ih=>
    intro hr;obtain⟨e,g⟩:=g;exact ih (.step hr ((y8r ha (ha.esr _ g).2.2.1).2 ⟨_,g,rfl,rfl⟩))
  exact key h (.ini ht)
theorem yej{a:NdT}(ha:NdOk a){q:Nat→Bool}(hq:∀i:Nat,i<a.2.1.toNat→(q i=true↔Rc3 a.2.2.2.2 a.2.2.1 (i:Int))):y1y a=some ((staL a.2.1.toNat q).filter fun s=>!goodB a s):=by
 have h0:=ha.n0;have h1:=ha.n1;have hli:=ha.li;have hlm:=ha.lm;obtain⟨B,e1,l1,f1⟩:=ycj ha ha.inr hli false;obtain⟨C,e2,l2,f2⟩:=ycj ha ha.mkr hlm true;obtain⟨n,hn⟩:∃n:Nat,a.2.1=(n:Int):=⟨a.2.1.toNat,by omega⟩;have hnn:a.2.1.toNat=n:=by omega
 have hb:∀i:Nat,i<n→flg B (i:Int)=q i∧flg C (i:Int)=goodB a (i:Int):=fun i hi=>by
  constructor
  ·rw [Bool.eq_iff_iff,f1 _ (by omega),ygX ha (fun s hs=>(ha.inr s hs).1),hq i (by omega)]
  ·rw [Bool.eq_iff_iff,f2 _ (by omega),ygY ha (fun s hs=>(ha.mkr s hs).1)];unfold goodB;rw [@decide_eq_true_iff _ (Classical.propDecidable _)];constructor
   ·rintro ⟨t,ht,h⟩;refine⟨t,ht,?_⟩;clear ht
    induction h with
    | refl=>exact .ini (yMs.2 rfl)
    | tail _ g ih=>obtain⟨e,g⟩:=g;exact .edge (x:=(_,e,_)) g ih
   ·rintro ⟨t,ht,h⟩;refine⟨t,ht,?_⟩;clear ht
    induction h with
    | ini h=>rw [yMs.1 h];exact .refl _
    | edge hx _ ih=>exact ih.tail ⟨_,hx⟩
 have hf:∀j:Nat,(staL (j+1) q).filter (fun s=>!goodB a s)=(staL j q).filter (fun s=>!goodB a s)++if(q j && !goodB a (j:Int))=true then [(j:Int)] else []:=fun j=>by
  rw [ycg,List.filter_append];congr 1;cases q j <;> cases h:goodB a (j:Int) <;> simp [h]
 have hlen:∀j:Nat,((staL j q).filter fun s=>!goodB a s).length≤j:=fun j=>Nat.le_trans (List.length_filter_le _ _) (y8p j q);rw [hnn] at l1 l2;have hloop:iter (y1J a B C) (0,([]:LI))=some ((staL n q).filter fun s=>!goodB a s):=by
  obtain⟨o,ho,he⟩:=ye (f:=y1J a B C) (fun j st=>st=((j:Int),(staL j q).filter fun s=>!goodB a s)) (fun o=>o=(staL n q).filter fun s=>!goodB a s) n 0 (by omega) (fun j st hj e0=>by
    subst e0;refine .inl ⟨_,?_,rfl⟩;obtain⟨b1,b2⟩:=hb j hj;have hj2:=hlen j;unfold y1J;simp only [hn,ct_lt hj,if_true];rw [y7d (by omega),yOb,y7d (by omega),b1,b2,hf];cases hq2:q j <;> cases hg:goodB a (j:Int) <;> simp only [hq2,hg,Bool.false_eq_true,if_false,if_true,yOb,Bool.not_true,Bool.not_false,Bool.and_self,Bool.and_true,Bool.and_false,List.append_nil]
    all_goals first
     | (rw [y1I,nxt (by omega)])
     | (rw [y4P (by rw [List.length_singleton];omega),yOb,y1I,nxt (by omega)]))
   (fun st e0=>by
    subst e0;refine⟨_,?_,rfl⟩;unfold y1J;simp [hn]) (by omega) (0,[]) rfl
  rw [ho,he]
 rw [y1y,e1,yOb,e2,yOb,hloop,yOb,hnn]
end
section
open Go.Proofs.Tryz
def cF(c:LI)(s:Int):Int:=c.getD s.toNat 0
def Vn(n:Nat)(s:Int):Prop:=0≤s∧s<(n:Int)
section
variable{L:Lts Int}{n:Nat}{c d:LI}
def eqs(n:Nat)(c:LI):Nat:=((List.range (n*n)).filter fun k=>cF c ((k/n:Nat):Int)==cF c ((k % n:Nat):Int)).length
end
def ObsE(L:Lts Int)(n:Nat)(s t:Int):Prop:=∃P,Lts.Stb L (Vn n) P∧P s t
section
variable{L:Lts Int}{n:Nat}
theorem ygZ(L:Lts Int)(n:Nat):Lts.Stb L (Vn n) (ObsE L n) where
 sy s t hs ht:=fun⟨P,hP,h⟩=>⟨P,hP,hP.sy s t hs ht h⟩
 m s t hs ht:=fun⟨_,hP,h⟩=>hP.m s t hs ht h
 w s t hs ht:=fun⟨P,hP,h⟩ e he s' hw=>by
  obtain⟨t',h1,h2⟩:=hP.w s t hs ht h e he s' hw;exact⟨t',h1,P,hP,h2⟩
theorem yg5(s:Int):ObsE L n s s:=⟨fun s t=>s=t,⟨fun _ _ _ _ e=>e.symm,fun _ _ _ _ e h=>e▸h,fun _ _ _ _ e _ _ s' h=>⟨s',e▸h,rfl⟩⟩,rfl⟩
theorem yd8{s t:Int}(hs:Vn n s)(ht:Vn n t)(h:ObsE L n s t):ObsE L n t s:=(ygZ L n).sy s t hs ht h
structure LcI (L:Lts Int) (n j:Nat) (o:LI) (k:Int):Prop where
 len:o.length=j
 fst:yd5 o
 rng:∀(i:Nat) (x:Int),o[i]? =some x→0≤x∧x<k
 all:∀y:Int,0≤y→y<k→∃i:Nat,o[i]? =some y
 eq:∀(i i':Nat) (x x':Int),o[i]? =some x→o[i']? =some x'→(x=x'↔ObsE L n (i:Int) (i':Int))
 kn:0≤k
theorem y9V{α:Type}{l:List α}{x y:α}{i:Nat}(g:(l++[x])[i]? =some y):(i<l.length∧l[i]? =some y)∨(i=l.length∧x=y):=by
 by_cases hi:i<l.length
 ·rw [yAl hi] at g;exact .inl ⟨hi,g⟩
 ·have:=(yGs.1 g).1;rw [yLa,List.length_singleton] at this;have hi:i=l.length:=by omega
  subst hi;rw [yAr (yNr _),Nat.sub_self] at g;exact .inr ⟨rfl,by simpa using g⟩
theorem LcI.snoc{j:Nat}{o:LI}{k k' x:Int}(h:LcI L n j o k)(hj:j<n)(hk:k≤k')(hx:0≤x∧x<k')(hf:yd5 (o++[x]))(ha:∀y:Int,k≤y→y<k'→y=x)(he:∀(i:Nat) (z:Int),o[i]? =some z→(z=x↔ObsE L n (i:Int) (j:Int))):LcI L n (j+1) (o++[x]) k' where
 len:=by rw [yLa,h.len];rfl
 fst:=hf
 rng i z hz:=by
  rcases y9V hz with ⟨_,g⟩|⟨_,rfl⟩
  ·have:=h.rng i z g;omega
  ·exact hx
 all y h0 h1:=by
  by_cases hy:y<k
  ·obtain ⟨i,g⟩:=h.all y h0 hy;exact⟨i,by rw [yAl (yGs.1 g).1];exact g⟩
  ·refine ⟨o.length,?_⟩;rw [yAr (yNr _),Nat.sub_self,ha y (by omega) h1];rfl
 eq i i' y y' hy hy':=by
  have hl:=h.len;rcases y9V hy with ⟨h1,g1⟩|⟨h1,g1⟩ <;> rcases y9V hy' with ⟨h2,g2⟩|⟨h2,g2⟩
  ·exact h.eq i i' y y' g1 g2
  ·subst g2;rw [he i y g1,h2,hl]
  ·subst g1;rw [h1,hl,eq_comm,he i' y' g2];exact⟨yd8 ⟨by omega,by omega⟩ ⟨by omega,by omega⟩,yd8 ⟨by omega,by omega⟩ ⟨by omega,by omega⟩⟩
  ·subst g1;subst g2;rw [h1,h2];exact⟨fun _=>yg5 _,fun _=>rfl⟩
 kn:=Int.le_trans h.kn hk
end
def Hund(l:LI):Prop:=∀x∈l,0≤x∧x<100
end
section
open Go.Proofs.Tryz Go Go.RowKit
theorem bbeq(a b:ByteArray):(a==b)=decide (a=b):=by
 have:(a==b)=(a.data==b.data):=rfl;rw [this];cases a;cases b;simp [Bool.beq_eq_decide_eq]
instance :LawfulBEq ByteArray where
 eq_of_beq {a b} h:=by
  rw [bbeq] at h;exact of_decide_eq_true h
 rfl {a}:=by rw [bbeq];simp
section
variable{α:Type}
theorem yh0{xs:List α}{i:Nat}{v:α}(h:i<xs.length):upd xs (i:Int) v=some (xs.set i v):=by
 have:=yal (xs:=xs) (s:=(i:Int)) (v:=v) (by omega);rwa [yTn] at this
end
theorem yg6{α:Type}{o r:List α}{u v:α}:(o++u::r).set o.length v=o++v::r:=by
 rw [List.set_append_right _ _ (yNr _),Nat.sub_self];rfl
def cst(a:AutT)(x e:Int):Option Int:=if hasB a.1 e=true then st1 a x e else some x
def tup :List AutT→LI→Int→Option LI
 | [],[],_=>some []
 | a::l,x::t,e=>(cst a x e).bind fun y=>(tup l t e).map (y :: ·)
 | _,_,_=>none
theorem ybP{e:Int}:∀{l1 l2:List AutT} {t1 t2:LI},l1.length=t1.length→tup (l1++l2) (t1++t2) e=(tup l1 t1 e).bind fun u=>(tup l2 t2 e).map (u ++ ·)
 | [],l2,[],t2,_=>by
  show tup l2 t2 e=(some []).bind _;rw [yOb];cases tup l2 t2 e <;> rfl
 | a::l1,l2,x::t1,t2,h=>by
  have ih:=ybP (e:=e) (l1:=l1) (l2:=l2) (t1:=t1) (t2:=t2) (by simpa using h);show(cst a x e).bind (fun y=>(tup (l1++l2) (t1++t2) e).map (y :: ·))=((cst a x e).bind fun y=>(tup l1 t1 e).map (y :: ·)).bind _;rw [ih];cases cst a x e with
  | none=>rfl
  | some y=>
   rw [yOb,yOb];cases tup l1 t1 e with
   | none=>rfl
   | some u=>
    rw [yOb];show _=(some (y::u)).bind _;rw [yOb];cases tup l2 t2 e <;> rfl
 | [],_,_::_,_,h=>by simp at h
 | _::_,_,[],_,h=>by simp at h
theorem yar{e:Int}:∀{l:List AutT} {t u:LI},tup l t e=some u→t.length=l.length∧u.length=l.length
 | [],[],u,h=>by cases h;exact⟨rfl,rfl⟩
 | a::l,x::t,u,h=>by
  unfold tup at h;cases h1:cst a x e with
  | none=>rw [h1] at h;cases h
  | some y=>
   rw [h1,yOb] at h;cases h2:tup l t e with
   | none=>rw [h2] at h;cases h
   | some v=>
    rw [h2] at h;have h:some (y::v)=some u:=h;cases h;obtain⟨h3,h4⟩:=yar h2;exact⟨by rw [yLc,yLc,h3],by rw [yLc,yLc,h4]⟩
 | [],_::_,_,h=>by cases h
 | _::_,[],_,h=>by cases h
def tupM :List AutT→LI→Bool
 | [],[]=>true
 | a::l,x::t=>hasB a.2.2.1 x&&tupM l t
 | _,_=>false
theorem yaX :∀{l1 l2:List AutT} {t1 t2:LI},l1.length=t1.length→tupM (l1++l2) (t1++t2)=(tupM l1 t1&&tupM l2 t2)
 | [],_,[],_,_=>by simp [tupM]
 | a::l1,l2,x::t1,t2,h=>by
  have ih:=yaX (l1:=l1) (l2:=l2) (t1:=t1) (t2:=t2) (by simpa using h);show(hasB a.2.2.1 x&&tupM (l1++l2) (t1++t2))=((hasB a.2.2.1 x&&tupM l1 t1)&&tupM l2 t2);rw [ih,Bool.and_assoc]
 | [],_,_::_,_,h=>by simp at h
 | _::_,_,[],_,h=>by simp at h
def Rgt(a:AutT):Prop:=∃n:Nat,Right a n
theorem yg7{l:List AutT}(hl:l.length≤1000)(hr:∀a∈l,Rgt a){ev:LI}{os:List (List ((Int×Int)×Int))}(ho:os.length=l.length)(hk:∀i (h:i<l.length) (h':i<os.length),∀q:Int×Int,kget os[i] q=st1 l[i] q.1 q.2){t:LI}(ht:t.length=l.length)(e:Int):
  y3k (l,ev,os) t e=some (match tup l t e with
   | some u=>(u,true)
   | none=>([],false)):=by
 have hsplit:∀i (h:i<l.length),l.take (i+1)=l.take i++[l[i]]∧t.take (i+1)=t.take i++[t[i]'(by omega)]:=fun i h=>⟨by rw [yTs h],by rw [yTs (show i<t.length by omega)]⟩;have hstep:∀i (h:i<l.length),tup (l.take (i+1)) (t.take (i+1)) e=(tup (l.take i) (t.take i) e).bind fun u=>(cst l[i] (t[i]'(by omega)) e).map fun y=>u++[y]:=fun i h=>by
  obtain⟨h1,h2⟩:=hsplit i h;rw [h1,h2,ybP (by rw [yLt,yLt];omega)];congr 1;funext u;show((cst l[i] (t[i]'(by omega)) e).bind fun y=>(tup [] [] e).map (y :: ·)).map _=_;cases cst l[i] (t[i]'(by omega)) e <;> rfl
 have hnone:∀i,i≤l.length→tup (l.take i) (t.take i) e=none→tup l t e=none:=fun i h h2=>by
  have:=ybP (e:=e) (l1:=l.take i) (l2:=l.drop i) (t1:=t.take i) (t2:=t.drop i) (by rw [yLt,yLt];omega);rw [List.take_append_drop,List.take_append_drop,h2] at this;exact this
 obtain⟨o,h1,h2⟩:=ye (f:=y2u (l,ev,os) t e) (fun i s=>s.1=(i:Int)∧∃u,tup (l.take i) (t.take i) e=some u∧s.2=u++t.drop i) (fun o=>(∃u,o= .inl u∧tup l t e=some u)∨(o= .inr ()∧tup l t e=none)) l.length 0 (by omega) (fun i s hi ⟨e1,u,e2,e3⟩=>by
   obtain⟨k,out⟩:=s;dsimp only at e1 e3;subst e1;obtain⟨n,hrn⟩:=hr _ (yGm hi);have ha:l[i].1.length<4294967296:=by have:=hrn.l1;omega
   have hul:=(yar e2).2;rw [yLt,Nat.min_eq_left (by omega)] at hul;have hit:i<t.length:=by omega
   have hdrop:t.drop i=t[i]::t.drop (i+1):=yDc hit;have hs:=hstep i hi;rw [e2,yOb] at hs;have hj:∀v:LI,y1n ((i:Int),out) v=some (.inl (((i+1:Nat):Int),v)):=fun v=>by
    rw [y1n];dsimp only;rw [nxt (by omega)]
   rw [y2u];dsimp only;rw [iP (ct_lt hi),yb hi,yOb,y8n ha hrn.ali,yOb];unfold cst at hs;cases hb:hasB l[i].1 e with
   | false=>
    rw [hb,iN (by simp)] at hs;rw [iP (by simp),hj];refine .inl ⟨_,rfl,rfl,u++[t[i]],hs,?_⟩;dsimp only;rw [e3,hdrop,yAa];rfl
   | true=>
    rw [hb,iP rfl] at hs;rw [iN (by simp),yb (by omega),yOb,yb hit,yOb,hk i hi (by omega)];dsimp only;cases hg:st1 l[i] t[i] e with
    | none=>
     rw [hg] at hs;rw [iP (by simp)];exact .inr ⟨_,rfl,.inr ⟨rfl,hnone (i+1) (by omega) hs⟩⟩
    | some v=>
     rw [hg] at hs;have hol:out.length=l.length:=by rw [e3,yLa,List.length_drop];omega
     rw [iN (by simp),yb (by omega),yOb,yh0 (by omega),yOb,hj];refine .inl ⟨_,rfl,rfl,u++[v],hs,?_⟩;dsimp only;have:=yg6 (o:=u) (r:=t.drop (i+1)) (u:=t[i]) (v:=v);rw [hul,←hdrop,←e3] at this;rw [Option.getD_some,this,yAa];rfl) (fun s ⟨e1,u,e2,e3⟩=>by
   obtain⟨k,out⟩:=s;dsimp only at e1 e3;subst e1;rw [List.take_length,←ht,List.take_length] at e2;rw [←ht,List.drop_length,List.append_nil] at e3;subst e3;refine⟨.inl out,?_,.inl ⟨out,rfl,e2⟩⟩;rw [y2u];dsimp only;rw [iN ct_ge]) (yZl _) (0,t) ⟨rfl,[],rfl,rfl⟩
 rw [y3k,y8m (by omega),yOb,h1,yOb];rcases h2 with ⟨u,rfl,h3⟩|⟨rfl,h3⟩ <;> rw [h3]
theorem yg8{l:List AutT}(hl:l.length≤1000)(hr:∀a∈l,Rgt a){ev:LI}{os:List (List ((Int×Int)×Int))}{t:LI}(ht:t.length=l.length):y2B (l,ev,os) t=some (tupM l t):=by
 have hM:∀i (h:i<l.length),tupM (l.take (i+1)) (t.take (i+1))=(tupM (l.take i) (t.take i)&&hasB l[i].2.2.1 (t[i]'(by omega))):=fun i h=>by
  rw [yTs h,yTs (show i<t.length by omega),yaX (by rw [yLt,yLt];omega)];show(_&&(hasB _ _&&true))=_;rw [Bool.and_true]
 have hF:∀i,i≤l.length→tupM (l.take i) (t.take i)=false→tupM l t=false:=fun i h h2=>by
  have:=yaX (l1:=l.take i) (l2:=l.drop i) (t1:=t.take i) (t2:=t.drop i) (by rw [yLt,yLt];omega);rw [List.take_append_drop,List.take_append_drop,h2] at this;exact this
 obtain⟨o,h1,h2⟩:=ye (f:=y2h (l,ev,os) t) (fun i s=>s=(i:Int)∧tupM (l.take i) (t.take i)=true) (fun o=>(o= .inl ()∧tupM l t=true)∨(o= .inr ()∧tupM l t=false)) l.length 0 (by omega) (fun i s hi ⟨e1,e2⟩=>by
   subst e1;obtain⟨n,hrn⟩:=hr _ (yGm hi);have ha:l[i].2.2.1.length<4294967296:=by have:=hrn.l2;omega
   have hs:=hM i hi;rw [e2,Bool.true_and] at hs;rw [y2h];dsimp only;rw [iP (ct_lt hi),yb hi,yOb,yb (show i<t.length by omega),yOb,y8n ha hrn.msi,yOb];cases hb:hasB l[i].2.2.1 (t[i]'(by omega)) with
   | false=>rw [iP (by simp)];exact .inr ⟨_,rfl,.inr ⟨rfl,hF (i+1) (by omega) (by rw [hs,hb])⟩⟩
   | true=>rw [iN (by simp),nxt (by omega)];exact .inl ⟨_,rfl,rfl,by rw [hs,hb]⟩) (fun s ⟨e1,e2⟩=>by
   subst e1;rw [List.take_length,←ht,List.take_length] at e2;refine⟨.inl (),?_,.inl ⟨rfl,e2⟩⟩;rw [y2h];dsimp only;rw [iN ct_ge]) (yZl _) 0 ⟨rfl,rfl⟩
 rw [y2B,h1,yOb];rcases h2 with ⟨rfl,h3⟩|⟨rfl,h3⟩ <;> rw [h3]
def liveB(l:List AutT):Bool:=l.all fun a=>a.2.1 != 0
theorem yg9{l:List AutT}(hl:l.length≤1000){ev:LI}{os:List (List ((Int×Int)×Int))}:y2t (l,ev,os)=some (if liveB l=true then(List.replicate l.length 0,true) else([],false)):=by
 obtain⟨o,h1,h2⟩:=ye (f:=y1R (l,ev,os)) (fun i s=>s=(i:Int)∧liveB (l.take i)=true) (fun o=>(o= .inl ()∧liveB l=true)∨(o= .inr ()∧liveB l=false)) l.length 0 (by omega) (fun i s hi ⟨e1,e2⟩=>by
   subst e1;rw [y1R];dsimp only;rw [iP (ct_lt hi),yb hi,yOb];by_cases h:l[i].2.1=0
   ·right;refine⟨_,by rw [iP (by simp [h])],.inr ⟨rfl,?_⟩⟩;unfold liveB;rw [List.all_eq_false];exact⟨_,yGm hi,by simp [h]⟩
   ·left;refine⟨_,by rw [iN (by simp [h]),nxt (by omega)],rfl,?_⟩;unfold liveB at e2 ⊢;rw [yTs hi,List.all_append,e2];simp [h]) (fun s ⟨e1,e2⟩=>by
   subst e1;rw [List.take_length] at e2;refine⟨.inl (),?_,.inl ⟨rfl,e2⟩⟩;rw [y1R];dsimp only;rw [iN ct_ge]) (yZl _) 0 ⟨rfl,rfl⟩
 have hmk:mkL (l.length:Int) (0:Int)=some (List.replicate l.length 0):=by unfold mkL;rw [iP ⟨by omega,by omega⟩,yTn]
 rw [y2t,h1,yOb];rcases h2 with ⟨rfl,h3⟩|⟨rfl,h3⟩
 ·dsimp only;rw [hmk,yOb,h3,iP rfl]
 ·rw [h3,iN (by simp)]
theorem yhu{l:List AutT}(hl:l.length≤1000)(h:∀a∈l,Rgt a):∃ev,y3f l=some ev∧Alp ev∧∀e,e∈ev↔ ∃a∈l,e∈a.1:=by
 obtain⟨o,h1,h2⟩:=ye (f:=y3W l) (fun i s=>s.1=(i:Int)∧Alp s.2∧∀e,e∈s.2↔ ∃a∈l.take i,e∈a.1) (fun o=>Alp o∧∀e,e∈o↔ ∃a∈l,e∈a.1) l.length 0 (by omega) (fun i s hi ⟨e1,g1,g2⟩=>by
   obtain⟨k,out⟩:=s;dsimp only at e1 g1 g2;subst e1;obtain⟨n,hrn⟩:=h _ (yGm hi);have hal:Alp l[i].1:=⟨hrn.ali,hrn.alr⟩;have l1:=g1.len;have l2:=hal.len;have hmg:=y6G (fun a b=>a||b) out l[i].1 g1.1 hal.1;left;refine⟨(((i+1:Nat):Int),mg (fun a b=>a||b) out l[i].1),?_,rfl,⟨hmg.1,fun x hx=>?_⟩,fun e=>?_⟩
   ·rw [y3W];dsimp only;rw [iP (ct_lt hi),yb hi,yOb,yf9 (by omega) (by omega),yOb,nxt (by omega)]
   ·rcases ((hmg.2 x).1 hx).1 with h|h
    ·exact g1.2 x h
    ·exact hal.2 x h
   ·dsimp only;rw [hmg.2,yTs hi];constructor
    ·rintro ⟨h|h,_⟩
     ·obtain ⟨a,ha,hae⟩:=(g2 e).1 h;exact⟨a,yMl _ ha,hae⟩
     ·exact ⟨_,yMr _ (yMs.2 rfl),h⟩
    ·rintro ⟨a,ha,hae⟩;rcases yMa.1 ha with ha|ha
     ·have:=(g2 e).2 ⟨a,ha,hae⟩;exact⟨.inl this,by rw [yh.2 this];rfl⟩
     ·rw [yMs.1 ha] at hae;exact⟨.inr hae,by rw [yh.2 hae];simp⟩)
  (fun s ⟨e1,g1,g2⟩=>by
   obtain⟨k,out⟩:=s;dsimp only at e1 g1 g2;subst e1;rw [List.take_length] at g2;refine⟨out,?_,g1,g2⟩;rw [y3W];dsimp only;rw [iN ct_ge]) (yZl _) (0,[]) ⟨rfl,⟨yPn,fun x hx=>(by cases hx)⟩,fun e=>by simp⟩
 exact⟨o,by rw [y3f,h1];rfl,h2⟩
theorem yga{l:List AutT}(hl:l.length≤1000)(h:∀a∈l,Rgt a):∃ev os,y5D l=some (l,ev,os)∧y3f l=some ev∧Alp ev∧(∀e,e∈ev↔ ∃a∈l,e∈a.1)∧os.length=l.length∧∀i (h:i<l.length) (h':i<os.length),∀q:Int×Int,kget os[i] q=st1 l[i] q.1 q.2:=by
 obtain⟨ev,he,hev,hm⟩:=yhu hl h;obtain⟨o,h1,h2,h3⟩:=ye (f:=y4r l) (fun i s=>i≤l.length∧s.1=(i:Int)∧s.2.length=i∧∀k (h:k<l.length) (h':k<s.2.length),∀q:Int×Int,kget s.2[k] q=st1 l[k] q.1 q.2) (fun o=>o.length=l.length∧∀k (h:k<l.length) (h':k<o.length),∀q:Int×Int,kget o[k] q=st1 l[k] q.1 q.2) l.length 0 (by omega) (fun i s hi ⟨_,e1,g1,g2⟩=>by
   obtain⟨k,out⟩:=s;dsimp only at e1 g1 g2;subst e1;obtain⟨n,hrn⟩:=h _ (yGm hi);obtain⟨o,e,g3⟩:=yfa hrn;refine .inl ⟨(((i+1:Nat):Int),out++[o]),?_,by omega,rfl,by simp [g1],fun k hk hk' q=>?_⟩
   ·rw [y4r];dsimp only;rw [iP (ct_lt hi),yb hi,yOb,e,yOb,y4t (by simp;omega),yOb,nxt (by omega)]
   ·dsimp only;by_cases hki:k<out.length
    ·rw [yGl hki];exact g2 k hk hki q
    ·have hk2:k=i:=by simp at hk';omega
     subst hk2;rw [List.getElem_append_right (by omega)];simp only [g1,Nat.sub_self,List.getElem_cons_zero];exact g3 q) (fun s ⟨_,e1,g1,g2⟩=>by
   obtain⟨k,out⟩:=s;dsimp only at e1 g1 g2;subst e1;refine⟨out,?_,g1,g2⟩;rw [y4r];dsimp only;rw [iN ct_ge]) (yZl _) (0,[]) ⟨yZl _,rfl,rfl,fun k hk hk'=>(by simp at hk')⟩
 exact⟨ev,o,by rw [y5D,he,yOb,h1];rfl,he,hev,hm,h2,h3⟩
theorem ydV{l:List AutT}(hl:l.length≤12)(h:∀a∈l,Rgt a):y2A l=some 0:=by
 obtain⟨o,h1,rfl⟩:=ye (f:=y4f l) (fun i s=>s=(i:Int)) (fun o=>o= .inl ()) l.length 0 (by omega) (fun i s hi e1=>by
   subst e1;obtain⟨n,hr⟩:=h _ (yGm hi);refine .inl ⟨((i+1:Nat):Int),?_,rfl⟩;rw [y4f,iP (ct_lt hi),yb hi,yOb,hr.check,yOb,iN (by simp),nxt (by omega)]) (fun s e1=>by
   subst e1;exact⟨_,by rw [y4f,iN ct_ge],rfl⟩) (yZl _) 0 rfl
 rw [y2A,iN (by simp;omega),h1];rfl
end
end Go.Proofs.YtfdeiphkmjdifaaGreatDoor
