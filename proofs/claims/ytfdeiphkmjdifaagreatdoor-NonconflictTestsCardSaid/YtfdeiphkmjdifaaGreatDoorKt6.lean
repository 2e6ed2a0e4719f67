/- Parts of the proof, without what nothing here names. -/
import Derived.Test.YtfdeiphkmjdifaaGreatDoorProg
import Derived.Test.YtfdeiphkmjdifaaGreatDoorKt5
set_option maxRecDepth 100000
set_option maxHeartbeats 8000000
namespace Go.Proofs.YtfdeiphkmjdifaaGreatDoor
section
open Go.Proofs.Tryz Go Go.RowKit
noncomputable section
def y3G(p0:LI)(p1:Int→Option Bool)(a:Int):Option (Int⊕(Unit⊕Int)):=
 if decide (a<(p0.length:Int)) then
  (idx p0 a).bind fun c=>
  (p1 c).bind fun b=>
  if b then
   some (.inr (.inr (a)))
  else
   some (.inl (W (a+1)))
 else
  some (.inr (.inl ()))
def y5K(p0:LI)(p1:Int→Option Bool):Option Int:=
 (iter (y3G p0 p1) 0).bind fun a=>
 match a with
 | .inl c=>
  some (-1)
 | .inr (b)=>
  some b
theorem y8J{p0:LI}{p1:Int→Option Bool}{r:Int}(hm:y5K p0 p1=some r):
  F0 109 [.f qI p0,.o (lW prog (fun (x:Int)=> [.i x]) (fun (r:Bool)=> .b r) p1)] [] (.i r) []:=by
 refine Fw.mk2 func109 ntmps109 R (fun C=>?_) R;refine .sr (.an R (.seq (.sv R (.ln sl26 R (.mv R (.ns (.block (bS hm fun m k hm=>?_))))))));refine .cutU (z:= .exit 0) (fun h=> .inl h=m) (fun (h:Unit)=>⟨[],[],0⟩) ?_ fun K8=>?_
 ·rintro h rfl;dsimp only at hm;refine .blkE (.seqN (.sr (.an R (.ret ?_))));cases hm;exact .r0 results109 (.tmp R .nil) R R
 refine .cutU (z:= .ret) (fun a=> .inr (a)=m) (fun (a:Int)=>⟨[(4,.i a)],[],0⟩) ?_ fun j=>?_
 ·rintro a rfl;dsimp only at hm;refine .blkR (.seqR ?_);cases hm;exact .r0 results109 (.tmp R .nil) R R
 refine .iter (fun (d:Int)=>⟨[(8,.i d),(7,.i p0.length),(0,.f qI p0),(1,.o (lW prog (fun (x:Int)=> [.i x]) (fun (r:Bool)=> .b r) p1))],[],0⟩) k [] R ?_;intro d p hm l c;refine .sr (.bi R (.ns (.seq ?_)));refine .cc hm R (fun hm=>?_) fun hm=> .xx ((K8 _ (c _ (oj hm))).s0 R);refine .sn (.seq (.block (.sv R (.an R (.sv R (.mv R (.mv R (bS hm fun n g hm=> .ix sl26 g R (.le nag3 lv3 R (bS hm fun q e hm=>?_))))))))));refine .op (O.fv (y:=n) R R R Z R e R R) R ?_;exact .ns (.cc hm R (fun hm=> .sv R (.an R (.ret (.blkR (.seqR (.seqR ((j _ (c _ (oj hm))).s0 R))))))) fun hm=> .skip (.blkN (.seqN (.reg (.bi R (.mv R (.nil ((l _ (oj hm)).s0 R))))))))
def y1U(p0:LI)(p1:Int→Option Bool):Option Bool:=
 (y5K p0 p1).bind fun a=>
 some (decide (a≥0))
theorem y7V{p0:LI}{p1:Int→Option Bool}{r:Bool}(hm:y1U p0 p1=some r):
  F0 39 [.f qI p0,.o (lW prog (fun (x:Int)=> [.i x]) (fun (r:Bool)=> .b r) p1)] [] (.b r) []:=by
 refine Fw.mk2 func39 ntmps39 R (fun C=>?_) R;refine .sr (.an R (.sv R (.mv R (bS hm fun c a hm=> .c0 (y8J a) cf109 R (.bi R (.an R (.ret ?_)))))));cases hm;exact .r0 results39 (.tmp R .nil) R R
def y2u(a:Int×LI)(b:LI):Option ((Int×LI)⊕LI):=
 some (.inl (W (a.1+1),b))
def y2v(p0:LI×Int×LI×LI×EdgL)(c:LI)(a:Int×LI):Option ((Int×LI)⊕LI):=
 if decide (a.1<(c.length:Int)) then
  (idx c a.1).bind fun b=>
  (yX p0 ([b]:LI) ([]:LI)).bind fun d=>
  (y1U d (y2U p0)).bind fun e=>
  if(!e) then
   (app a.2 ([b]:LI)).bind fun f=>
   y2u a f
  else
   y2u a a.2
 else
  some (.inr a.2)
def y2b(p0:LI×Int×LI×LI×EdgL):Option LI:=
 (yX p0 p0.2.2.1 ([]:LI)).bind fun b=>
 (iter (y2v p0 b) (0,([]:LI))).bind fun a=>
 some a
theorem y8Z{p0:LI×Int×LI×LI×EdgL}{r:LI}(hm:y2b p0=some r):
  F0 30 [.a (lx29 p0)] [] (.h 0) [rwI r]:=by
 refine Fw.mk2 func30 ntmps30 R (fun C=>?_) R;refine .sr (.bo 0 R (.fz 0 [1] [] R R fB R R (.an R (.sr (.an R (.seq (.sr (.lg (lx29 p0) ag29 R .Q R (.fq y6t R (.lq nag26 R (bS hm fun l D hm=> .op (O.cac (r':= .h 1) [1] [(0,rwI l)] (some 2) (y6F D) cf98 R R Z R R ⟨⟨R,.rf⟩,⟨R,.rf⟩,⟨R,(.c (.nf (r:=qI)) .n)⟩,trivial⟩ R ⟨⟨_,R,I4⟩,trivial⟩ I3 R) R (.lh sl26 R (.mv R (.ns (.block (bS hm fun j s hm=>?_))))))))))))))));refine .cut1 (z:= .exit 0) j (fun (j:LI)=>⟨[(3,.h 0)],[(0,rwI j)],1⟩) ?_ fun B=>?_
 ·skip
  refine .blkE (.seqN (.sv R (.an R (.ret ?_))));cases hm;exact .rr [0] results30 (.tmp R .nil) R I3 ⟨⟨_,R,I4⟩,trivial⟩
 refine .nlg qI 3 3 0 R R (.iter (fun (d:Int×LI)=>⟨[(11,.i d.1),(10,.i l.length),(9,.h 0),(3,.h 1),(1,.o (lQ 29 (lx29 p0) 0))],[(0,rwI l),(1,rwI d.2)],2⟩) s [(0,1),(1,2)] R ?_);intro d p hm y w;refine .sr (.bi R (.ns (.seq ?_)));refine .cc hm R (fun hm=>?_) fun hm=> .xx ((B _ (w _ (oj hm))).sub [(0,1)] R);refine .sn ?_;refine .join1 (fun (e:LI)=>y2u d e=some p) (fun e=>⟨[(3,.h 0),(11,.i d.1),(10,.i l.length),(9,.h 1),(1,.o (lQ 29 (lx29 p0) 0))],[(0,rwI e),(1,rwI l)],2⟩) ?_ ?_
 ·intro e hm;exact .reg (.bi R (.mv R (.nil ((y _ (oj hm)).sub [(0,1),(1,0)] R))))
 ·intro f;refine .block (.sr (bS hm fun q g hm=> .op (O.ir sl26 Z R R R g R) R (.op (O.ld nag3 Z R (.R R g lv3) R R) R (.an R (.sr (.lg (lx29 p0) ag29 R .Q R (.mv R (.bf (r:=qI) ([q]:LI) bs26 R (.c .k .n) R (bS hm fun E t hm=> .op (O.cac (r':= .h 2) [2] [(0,rwI E)] (some 3) (y6F t) cf98 R R Z R R ⟨⟨R,.rf⟩,⟨R,.rf⟩,⟨R,(.c (.nf (r:=qI)) .n)⟩,trivial⟩ R ⟨⟨_,R,I4⟩,trivial⟩ I3 R) R (.op (O.mf (args:=(fun (x:Int)=> [.i x])) (res:=(fun (r:Bool)=> .b r)) (m:=(y2U p0)) cf99 (fun x r h=>y8m h) (fun _=>R) R Z R R) R (bS hm fun F u hm=> .op (O.caZ (y7V u) cf39 R R Z R ⟨⟨R,.hr R,trivial⟩,⟨R,LnL.rf⟩,trivial⟩ (fun _ _ _ _ _ h=>h) R) R (.no R (.ns ?_)))))))))))));exact .cc hm R (fun hm=> .reg (.mv R (.mv R (.bf (r:=qI) ([q]:LI) bs26 R (.c .k .n) R (bS hm fun G v hm=> .ap 3 underlying26 el3 R R (.fr R) v (.sa R (.nil (.blkN ((f _ hm).sub [(0,3),(1,0)] R))))))))) fun hm=> .skip (.blkN ((f _ hm).sub [(0,1),(1,0)] R))
def y2w(a:Int×LI)(b:LI):Option ((Int×LI)⊕LI):=
 some (.inl (W (a.1+1),b))
def y1o(c:LI)(f:LI)(a:Int×LI):Option ((Int×LI)⊕LI):=
 if decide (a.1<(c.length:Int)) then
  (idx c a.1).bind fun b=>
  (yl f b).bind fun d=>
  if(!d) then
   (app a.2 ([b]:LI)).bind fun e=>
   y2w a e
  else
   y2w a a.2
 else
  some (.inr a.2)
def y2x(b:List AutT)(a:Int×LI):Option ((Int×LI)⊕LI):=
 if decide (a.1<(b.length:Int)) then
  (idx b a.1).bind fun d=>
  (y3z a.2 d.1).bind fun c=>
  some (.inl (W (a.1+1),c))
 else
  some (.inr a.2)
def y2y(p0:List AutT)(a:Int×LI×LI×Int×LI×LI×EdgL)(b:LI)(g:Int)(d:LI)(e:LI)(f:List (Int×Int×Int)):Option ((Int×LI×LI×Int×LI×LI×EdgL)⊕(LI×LI×Int×LI×LI×EdgL)):=
 (slc p0 (W (a.1+1)) (p0.length:Int)).bind fun k=>
 (iter (y2x k) (0,([]:LI))).bind fun h=>
 (iter (y1o b h) (0,([]:LI))).bind fun i=>
 (yO (b,g,d,e,f) i).bind fun j=>
 (yW j.1).bind fun c=>
 (app a.2.1 ([c.1.2.1]:LI)).bind fun l=>
 some (.inl (W (a.1+1),l,c.1))
def yo(p0:List AutT)(a:Int×LI×LI×Int×LI×LI×EdgL):Option ((Int×LI×LI×Int×LI×LI×EdgL)⊕(LI×LI×Int×LI×LI×EdgL)):=
 if decide (a.1<(p0.length:Int)) then
  (idx p0 a.1).bind fun d=>
  (y1s d).bind fun c=>
  if decide (a.1>0) then
   (yz a.2.2 c.1).bind fun b=>
   y2y p0 a b.1.1 b.1.2.1 b.1.2.2.1 b.1.2.2.2.1 b.1.2.2.2.2
  else
   y2y p0 a c.1.1 c.1.2.1 c.1.2.2.1 c.1.2.2.2.1 c.1.2.2.2.2
 else
  some (.inr a.2)
def y3A(p0:List AutT):Option (Bool×LI):=
 (iter (yo p0) (0,([]:LI),([]:LI),0,([]:LI),([]:LI),([]:List (Int×Int×Int)))).bind fun a=>
 (y2b a.2).bind fun b=>
 some (((b.length:Int)==0),a.1)
theorem y9a{p0:List AutT}{r:Bool×LI}(hm:y3A p0=some r):
  F0 18 [.f rE60 p0] [] (.tp [.b r.1,.h 0]) [rwI r.2]:=by
 refine Fw.mk2 func18 ntmps18 R (fun C=>?_) R;refine .sr (.sa R (.an R (.sr (.al 0 zz29 R (.nr (.an R (.seq (.sv R (.ln sl49 R (.mv R (.ns (.block (bS hm fun g U hm=>?_)))))))))))));refine .cut1 (z:= .exit 0) g (fun (g:LI×LI×Int×LI×LI×EdgL)=>⟨[(5,.h 0),(4,.q 1 0)],[(0,rwI g.1),(1,.bx 29 [lH 2,lI g.2.2.1,lF qI g.2.2.2.1,lF qI g.2.2.2.2.1,lH 3]),(2,rwI g.2.1),(3,ROW qT 112 g.2.2.2.2.2)],4⟩) ?_ fun b3=>?_
 ·skip
  refine .blkE (.seqN (.sr (.lg [lH 2,lI g.2.2.1,lF qI g.2.2.2.1,lF qI g.2.2.2.2.1,lH 3] ag29 R (.B R) R (bS hm fun b6 X hm=> .op (O.caY (r':= .h 4) [4] [(0,rwI b6)] (some 5) (y8Z X) cf30 R R Z R R ⟨⟨R,.hr R,.rf,.rf,.rf,.hr R,trivial⟩,trivial⟩ R ⟨.row flr3,trivial⟩ (fun _ _ _ _ h=>h) ⟨⟨_,R,I4⟩,trivial⟩ I3 R) R (.lh sl26 R (.bi R (.mv R (.sa R (.an R (.ret ?_))))))))));cases hm;exact .rr [0] results18 (.tmp R (.tmp R .nil)) R I3 ⟨⟨_,R,I4⟩,trivial⟩
 refine .nlg qI 3 5 0 R R (.cno 0 R (.c .rf (.c .rf (.c (.nf (r:=qI)) (.c (.nf (r:=qI)) .rf)))) R (.nlb qI 3 0 0 R R (.nlb qT 112 0 4 R R (.iter (fun (d:Int×LI×LI×Int×LI×LI×EdgL)=>⟨[(18,.i d.1),(17,.i p0.length),(16,.f rE60 p0),(5,.h 0),(4,.q 1 0),(0,.f rE60 p0)],[(0,rwI d.2.1),(1,.bx 29 [lH 2,lI d.2.2.2.1,lF qI d.2.2.2.2.1,lF qI d.2.2.2.2.2.1,lH 3]),(2,rwI d.2.2.1),(3,ROW qT 112 d.2.2.2.2.2.2)],4⟩) U [(0,1),(1,0)] R ?_))));intro d P hm a8 a5;refine .sr (.bi R (.ns (.seq ?_)));refine .cc hm R (fun hm=>?_) fun hm=> .xx ((b3 _ (a5 _ (oj hm))).s0 R);refine .sn (.seq (.block (.sv R (bS hm fun S a2 hm=> .ix sl49 a2 R (.lg (lx60 S) ag60 R (.E lv60) R (.al 4 zz60 R (.sa R (.st ag60.sz R (.nr (.lg (lx60 S) ag60 R (.B R) R (bS hm fun t Y hm=> .cm (r':= .tp [.a [lH 5,lI t.1.2.1,lF qI t.1.2.2.1,lH 6,lH 7],.i t.2]) [5,6,7] [(0,rwI t.1.1),(1,rwI t.1.2.2.2.1),(2,ROW qT 112 t.1.2.2.2.2)] (some 8) (y6n Y) cf74 R ⟨⟨_,R,I4⟩,⟨_,R,I4⟩,⟨_,R,I4⟩,trivial⟩ R (.mv R (.ex R (.ex R (.al 8 zz29 R (.st ag29.sz R (.an R ?_)))))))))))))))));refine .join5 (fun (e:LI) (l:Int) (j:LI) (p:LI) (s:List (Int×Int×Int))=>y2y p0 d e l j p s=some P) (fun e l j p s=>⟨[(8,.q 0 0),(6,.i d.1),(18,.i d.1),(17,.i p0.length),(16,.f rE60 p0),(5,.h 4),(4,.q 5 0),(0,.f rE60 p0)],[(0,.bx 29 [lH 1,lI l,lF qI j,lH 2,lH 3]),(1,rwI e),(2,rwI p),(3,ROW qT 112 s),(4,rwI d.2.1),(5,.bx 29 [lH 6,lI d.2.2.2.1,lF qI d.2.2.2.2.1,lF qI d.2.2.2.2.2.1,lH 7]),(6,rwI d.2.2.1),(7,ROW qT 112 d.2.2.2.2.2.2)],8⟩) ?_ ?_
 ·intro e l j p s hm;refine .sr (.sa R (.an R (.seq (.sv R (.mv R (.bi R (bS hm fun T a3 hm=> .op (O.sf sl49 Z R R a3 R) R (.ln sl49 R (.mv R (.ns (.block (bS hm fun x V hm=>?_))))))))))));refine .cut1 (z:= .exit 2) x (fun (x:LI)=>⟨[(11,.o (lN)),(10,.f qI x),(8,.q 0 0),(18,.i d.1),(17,.i p0.length),(16,.f rE60 p0),(5,.h 4),(4,.q 5 0),(0,.f rE60 p0)],[(0,.bx 29 [lH 1,lI l,lF qI j,lH 2,lH 3]),(1,rwI e),(2,rwI p),(3,ROW qT 112 s),(4,rwI d.2.1),(5,.bx 29 [lH 6,lI d.2.2.2.1,lF qI d.2.2.2.2.1,lF qI d.2.2.2.2.2.1,lH 7]),(6,rwI d.2.2.1),(7,ROW qT 112 d.2.2.2.2.2.2)],8⟩) ?_ fun b4=>?_
  ·skip
   refine .blkE (.seqN (.seq (.sr (.fa y5z R (.lb nag26 R (.lh sl26 R (.mv R (.ns (.block (bS hm fun I W hm=>?_))))))))));refine .cut1 (z:= .exit 4) I (fun (I:LI)=>⟨[(11,.h 0),(8,.q 1 0),(18,.i d.1),(17,.i p0.length),(16,.f rE60 p0),(5,.h 5),(4,.q 6 0),(0,.f rE60 p0)],[(0,rwI I),(1,.bx 29 [lH 2,lI l,lF qI j,lH 3,lH 4]),(2,rwI e),(3,rwI p),(4,ROW qT 112 s),(5,rwI d.2.1),(6,.bx 29 [lH 7,lI d.2.2.2.1,lF qI d.2.2.2.2.1,lF qI d.2.2.2.2.2.1,lH 8]),(7,rwI d.2.2.1),(8,ROW qT 112 d.2.2.2.2.2.2)],9⟩) ?_ fun b5=>?_
   ·skip
    refine .blkE (.seqN (.sr (.lg [lH 2,lI l,lF qI j,lH 3,lH 4] ag29 R (.B R) R (.mv R (.fz 2 [68] [1] R R fR R R (.fz 3 [68] [1] R R fR R R (.fz 4 [68] [1] R R fR R R (.fz 0 [69] [] R R fR R R (bS hm fun u a0 hm=> .cm (r':= .tp [.a [lH 9,lI u.1.2.1,lH 10,lH 11,lF qT u.1.2.2.2.2],.i u.2]) [9,10,11] [(0,rwI u.1.1),(1,rwI u.1.2.2.1),(2,rwI u.1.2.2.2.1)] (some 12) (y6k a0) cf76 R ⟨⟨_,R,I4⟩,⟨_,R,I4⟩,⟨_,R,I4⟩,trivial⟩ R (.mv R (.ex R (.ex R (.st ag29.sz R (.nr (.lg [lH 9,lI u.1.2.1,lH 10,lH 11,lF qT u.1.2.2.2.2] ag29 R (.B R) R (.fz 9 [74] [1] R R fR R R (.fz 10 [74] [1] R R fR R R (.fz 11 [74] [1] R R fR R R (bS hm fun v a1 hm=> .cm (r':= .tp [.a [lH 12,lI v.1.2.1,lF qI v.1.2.2.1,lF qI v.1.2.2.2.1,lH 13],.i v.2]) [12,13] [(0,rwI v.1.1),(1,ROW qT 112 v.1.2.2.2.2)] (some 14) (y5i a1) cf13 R ⟨⟨_,R,I4⟩,⟨_,R,I4⟩,trivial⟩ R (.mv R (.ex R (.ex R (.st ag29.sz R (.ns (.reg (.mv R (.fa y2G R (.lb nag3 R (.bf (r:=qI) ([v.1.2.1]:LI) bs26 R (.c .k .n) R (bS hm fun c2 a4 hm=> .ap 14 underlying26 el3 R R (.fr R) a4 (.sa R ?_)))))))))))))))))))))))))))))));exact .nil (.blkN (.seqN (.reg (.bi R (.mv R (.nil ((a8 _ (oj hm)).sub [(0,14),(1,6),(2,12),(3,13)] R)))))))
   refine .nlg qI 3 11 0 R R (.iter (fun (w:Int×LI)=>⟨[(54,.i w.1),(53,.i e.length),(52,.h 0),(11,.h 1),(10,.f qI x),(8,.q 2 0),(18,.i d.1),(17,.i p0.length),(16,.f rE60 p0),(5,.h 5),(4,.q 6 0),(0,.f rE60 p0)],[(0,rwI e),(1,rwI w.2),(2,.bx 29 [lH 0,lI l,lF qI j,lH 3,lH 4]),(3,rwI p),(4,ROW qT 112 s),(5,rwI d.2.1),(6,.bx 29 [lH 7,lI d.2.2.2.1,lF qI d.2.2.2.2.1,lF qI d.2.2.2.2.2.1,lH 8]),(7,rwI d.2.2.1),(8,ROW qT 112 d.2.2.2.2.2.2)],9⟩) W [(0,1),(1,8),(2,0),(3,2),(4,3),(5,4),(6,5),(7,6),(8,7)] R ?_);intro w Q hm b0 a7;refine .sr (.bi R (.ns (.seq ?_)));refine .cc hm R (fun hm=>?_) fun hm=> .xx ((b5 _ (a7 _ (oj hm))).sub [(0,1),(1,2),(2,0)] R);refine .sn ?_;refine .join1 (fun (F:LI)=>y2w w F=some Q) (fun F=>⟨[(11,.h 0),(54,.i w.1),(53,.i e.length),(52,.h 1),(10,.f qI x),(8,.q 2 0),(18,.i d.1),(17,.i p0.length),(16,.f rE60 p0),(5,.h 5),(4,.q 6 0),(0,.f rE60 p0)],[(0,rwI F),(1,rwI e),(2,.bx 29 [lH 1,lI l,lF qI j,lH 3,lH 4]),(3,rwI p),(4,ROW qT 112 s),(5,rwI d.2.1),(6,.bx 29 [lH 7,lI d.2.2.2.1,lF qI d.2.2.2.2.1,lF qI d.2.2.2.2.2.1,lH 8]),(7,rwI d.2.2.1),(8,ROW qT 112 d.2.2.2.2.2.2)],9⟩) ?_ ?_
   ·intro F hm;exact .reg (.bi R (.mv R (.nil ((b0 _ (oj hm)).sub [(0,1),(1,0)] R))))
   ·intro H;refine .block (.sr (bS hm fun b1 D hm=> .op (O.ir sl26 Z R R R D R) R (.op (O.ld nag3 Z R (.R R D lv3) R R) R (.an R (.sv R (.mv R (bS hm fun b8 J hm=> .c0 (y4i J) cf41 R (.no R (.ns ?_)))))))));exact .cc hm R (fun hm=> .reg (.mv R (.mv R (.bf (r:=qI) ([b1]:LI) bs26 R (.c .k .n) R (bS hm fun c1 M hm=> .ap 9 underlying26 el3 R R (.fr R) M (.sa R (.nil (.blkN ((H _ hm).sub [(0,9),(1,0)] R))))))))) fun hm=> .skip (.blkN ((H _ hm).sub [(0,1),(1,0)] R))
  refine .cnt 10 R (.c (.nf (r:=qI)) .n) R (.iter (fun (y:Int×LI)=>⟨[(42,.i y.1),(41,.i T.length),(40,.f rE60 T),(11,.o (lN)),(10,.f qI y.2),(8,.q 0 0),(18,.i d.1),(17,.i p0.length),(16,.f rE60 p0),(5,.h 4),(4,.q 5 0),(0,.f rE60 p0)],[(0,.bx 29 [lH 1,lI l,lF qI j,lH 2,lH 3]),(1,rwI e),(2,rwI p),(3,ROW qT 112 s),(4,rwI d.2.1),(5,.bx 29 [lH 6,lI d.2.2.2.1,lF qI d.2.2.2.2.1,lF qI d.2.2.2.2.2.1,lH 7]),(6,rwI d.2.2.1),(7,ROW qT 112 d.2.2.2.2.2.2)],8⟩) V [] R ?_);intro y b7 hm a9 a6;refine .sr (.bi R (.ns (.seq ?_)));exact .cc hm R (fun hm=> .sn (.seq (.block (.sr (bS hm fun b2 N hm=> .ix sl49 N R (.lg (lx60 b2) ag60 R (.E lv60) R (.al 8 zz60 R (.st ag60.sz R (.ns (.reg (.mv R (.fa y5U R (.lb nag26 R (bS hm fun b9 K hm=> .c0 (y8Y K) cf78 R (.sa R (.nil (.blkN (.seqN (.reg (.bi R (.mv R (.nil ((a9 _ (oj hm)).s0 R))))))))))))))))))))))) fun hm=> .xx ((b4 _ (a6 _ (oj hm))).s0 R)
 ·intro G;refine .sv R (.bi R (.ns ?_));exact .cc hm R (fun hm=> .reg (.lg [lH 2,lI d.2.2.2.1,lF qI d.2.2.2.2.1,lF qI d.2.2.2.2.2.1,lH 3] ag29 R (.B R) R (.lg [lH 5,lI t.1.2.1,lF qI t.1.2.2.1,lH 6,lH 7] ag29 R (.B R) R (bS hm fun m L hm=> .op (O.caY (r':= .tp [.a [lH 9,lI m.1.2.1,lH 10,lH 11,lH 12],.h 13,.i m.2.2]) [9,10,11,12,13] [(0,rwI m.1.1),(1,rwI m.1.2.2.1),(2,rwI m.1.2.2.2.1),(3,ROW qT 112 m.1.2.2.2.2),(4,ROW rE70 70 m.2.1)] (some 14) (y6S L) cf14 R R Z R R ⟨⟨R,.hr R,.rf,.rf,.rf,.hr R,trivial⟩,⟨R,.hr R,.rf,.rf,.hr R,.hr R,trivial⟩,trivial⟩ R ⟨.row flr3,.row flr3,.row flr3,.row yek,.row flr70,trivial⟩ (fun _ _ _ _ h=>h) ⟨⟨_,R,I4⟩,⟨_,R,I4⟩,⟨_,R,I4⟩,⟨_,R,I4⟩,⟨_,R,I4⟩,trivial⟩ I3 R) R (.mv R (.ex R (.ex R (.ex R (.st ag29.sz R (.nil (.fz 10 [] [8] R R fR R R ((G _ _ _ _ _ hm).sub [(0,8),(1,9),(2,11),(3,12),(4,0),(5,1),(6,2),(7,3)] R)))))))))))) fun hm=> .skip ((G _ _ _ _ _ hm).sub [(0,8),(1,5),(2,6),(3,7),(4,0),(5,1),(6,2),(7,3)] R)
def yu(p0:List AutT):Option (List AutT):=
 (app ([]:List AutT) p0).bind fun a=>
 some a
theorem y5L{p0:List AutT}{r:(List AutT)}(hm:yu p0=some r):
  F0 22 [.f rE60 p0] [] (.h 0) [ROW rE60 60 r]:=by
 unfold yu at hm;refine Fw.mk2 func22 ntmps22 R (fun C=>?_) R;refine .sr (.an R (.seq (.sv R (.op (O.nil? underlying49 Z R R R) R (.ns ?_)))));refine .cN R (fun hz=>?_) ?_
 ·subst hz;replace hm:some ([]:List AutT)=some r:=by simpa [app,slc,slc3] using hm
  refine .sr (.an R (.ret (.seqR (.nlg rE60 60 2 0 R R ?_))));cases hm;exact .rr [0] results22 (.tmp R .nil) R I3 ⟨⟨_,R,I4⟩,trivial⟩
 ·skip
  refine .sn (.sr (.op (O.b0O (r:=rE60) 0 R bs49 R Z R) R (.mv R (bS hm fun b a hm=> .ap 1 underlying49 el60 R R (.fr R) a (.an R (.ret ?_))))));cases hm;exact .rr [1] results22 (.tmp R .nil) R I3 ⟨⟨_,R,I4⟩,trivial⟩
def y5q(a:(List AutT)×Int×Int):Option (((List AutT)×Int×Int)⊕(List AutT)):=
 if decide (a.2.2<a.2.1) then
  (idx a.1 a.2.1).bind fun c=>
  (idx a.1 a.2.2).bind fun d=>
  (idx a.1 a.2.2).bind fun f=>
  (upd a.1 a.2.2 c).bind fun b=>
  (idx b a.2.1).bind fun g=>
  (upd b a.2.1 d).bind fun e=>
  some (.inl (e,W (a.2.1-1),W (a.2.2+1)))
 else
  some (.inr a.1)
def yY(p0:List AutT):Option (List AutT):=
 (iter (y5q) (p0,(W ((p0.length:Int)-1)),0)).bind fun a=>
 some a
theorem y5w{p0:List AutT}{r:(List AutT)}(hm:yY p0=some r):
  Fw prog 23 ⟨1,[0]⟩ [.h 0] [ROW rE60 60 p0] (.tp []) [ROW rE60 60 r]:=by
 refine Fw.mk2 func23 ntmps23 R (fun C=>?_) R;refine .sv R (.lh sl49 R (.bi R (.sa R (.an R (.block (bS hm fun f m hm=>?_))))));refine .cut1 (z:= .exit 0) f (fun (f:(List AutT))=>⟨[],[(0,ROW rE60 60 f)],1⟩) ?_ fun t=>?_
 ·skip
  refine .blkE ?_;cases hm;exact WX.rt [0] (.inr R) results23 .nil R I3 ⟨⟨_,R,I4⟩,trivial⟩
 refine .iter (fun (a:(List AutT)×Int×Int)=>⟨[(3,.i a.2.1),(2,.i a.2.2),(0,.h 0)],[(0,ROW rE60 60 a.1)],1⟩) m [] R ?_;intro a v hm s q;refine .seq (.sv R (.mv R (.bi R (.ns ?_))));refine .cc hm R (fun hm=>?_) fun hm=> .xx ((t _ (q _ (oj hm))).s0 R);refine .sn (.seq (.block ?_));refine .sub (τ:=⟨[(3,.i a.2.1),(2,.i a.2.2),(0,.h 0)],[(0,ROW rE60 60 a.1)],1⟩) ?_ [] R;refine bS hm fun g b hm=>bS hm fun j c hm=>bS hm fun w d hm=>bS hm fun x n hm=>bS hm fun y e hm=>bS hm fun u o hm=>?_;refine .drz 1 [(13,0)] [(1,[],[],[]),(1,[],[],[]),(1,[],[0],[]),(1,[],[0],[]),(1,[],[],[]),(1,[],[],[]),(1,[oF,oF,oF,oF,oT,oT],[],[]),(1,fA 4 (tT 3),[],[]),(1,[],[],[]),(1,[],[],[]),(1,[oF,oF,oF,oF,oF,oF,oF,oF,oT,oT],[],[]),(1,fA 8 (tT 3),[],[]),(1,tA 2 (fA 2 (tT 8)),[],[]),(1,tA 2 (fA 2 (tT 9)),[],[]),(1,tT 14,[],[]),(1,tT 15,[],[])] [_,_,_,_,_,_,_,_,_,_,_,_,_,_,_,_] ⟨[(3,.i a.2.1),(2,.i a.2.2),(0,.h 0)],[(0,ROW rE60 60 u)],1⟩ ⟨zM R,zM R,zM R,zM R,zM R,zM R,O.ir sl49 Z R R R b R,O.lg (l':=(lx60 g)) ag60 Z R (.R R b lv60) R R R,zM R,zM R,O.ir sl49 Z R R R c R,O.lg (l':=(lx60 j)) ag60 Z R (.R R c lv60) R R R,O.ir sl49 Z R R R d R,O.su (z:=g) ag60.sz Z R R d n R R R lv60 R (.p .l (.p .k (.p .l .l))),O.ir sl49 Z R R R e R,O.su (z:=j) ag60.sz Z R R e o R R R lv60 R (.p .l (.p .k (.p .l .l))),trivial⟩ (by kernel_rfl) R ?_;exact .blkN (.seqN (.reg (.mv R (.bi R (.mv R (.bi R (.sa R (.sa R (.nil ((s _ (oj hm)).s0 R))))))))))
def y3s(p0:(Int×Int×Int×Int)×(yq×yq×yq×yq)×Int):Option Bool:=
 (y5Y).bind fun m=>
 if(!m) then
  some false
 else
  (y5c p0).bind fun a=>
  (y2q a).bind fun b=>
  (y3A a).bind fun l=>
  (y3w a).bind fun e=>
  (y1D a).bind fun c=>
  (if ((((b.2.2 != 0)||(e.2.2 != 0))||(c.2.2 != 0))||(b.1 != l.1)) then
   some true
  else
   (yF b.2.1 l.2).bind fun k=>
   some (!k)).bind fun f=>
  (if ((f||(b.1 != c.2.1))||(e.2.1==c.2.1)) then
   some true
  else
   (yF e.1 c.1).bind fun j=>
   some (!j)).bind fun g=>
  if g then
   some false
  else
   (yu a).bind fun h=>
   (yY h).bind fun i=>
   (y2q i).bind fun d=>
   some ((d.2.2==0)&&(d.1==b.1))
theorem y6U{p0:(Int×Int×Int×Int)×(yq×yq×yq×yq)×Int}{r:Bool}(hm:y3s p0=some r):
    F0 4 [.a (lx48 p0)] [] (.b r) []:=by
  refine Fw.mk2 func4 ntmps4 R (fun C=>?_) R;refine .sr (.bo 0 R (.an R (.seq (.sr (bS hm fun r1 N hm=> .c0 (y8V N) cf11 R (.no R (.ns ?_)))))));refine .cc hm R (fun hm=>?_) fun hm=>?_
  ·refine .sr (.an R (.ret (.seqR ?_)));cases hm;exact .r0 results4 (.tmp R .nil) R R
  ·refine .sn (.sr (.lg (lx48 p0) ag48 R (.B R) R (bS hm fun m P hm=> .cm (r':= .h 1) [1] [(0,ROW rE60 60 m)] (some 2) (y9t P) cf16 R ⟨⟨_,R,I4⟩,trivial⟩ R (.an R (.sv R (bS hm fun c Q hm=> .op (O.caY (r':= .tp [.b c.1,.h 2,.i c.2.2]) [2] [(0,rwI c.2.1)] (some 3) (y6g Q) cf17 R R Z R R ⟨⟨R,.hr R,trivial⟩,trivial⟩ R ⟨.row flr3,trivial⟩ (fun _ _ _ _ h=>h) ⟨⟨_,R,I4⟩,trivial⟩ I3 R) R (.mv R (.ex R (.ex R (.ex R (.sa R (.sa R (.an R (.sv R (bS hm fun k S hm=> .op (O.caY (r':= .tp [.b k.1,.h 3]) [3] [(0,rwI k.2)] (some 4) (y9a S) cf18 R R Z R R ⟨⟨R,.hr R,trivial⟩,trivial⟩ R ⟨.row flr3,trivial⟩ (fun _ _ _ _ h=>h) ⟨⟨_,R,I4⟩,trivial⟩ I3 R) R (.mv R (.ex R (.ex R (.sa R (.an R (.sv R (.fz 1 [35,3] [] R R fR R R ?_))))))))))))))))))))));refine bS hm fun g T hm=> .c0 (y6Q T) cf19 R (.mv R (.ex R (.ex R (.ex R (.sa R (.sa R (.an R (.sv R (bS hm fun e U hm=> .c0 (y6D U) cf20 R (.mv R (.ex R (.ex R (.ex R (.sa R (.sa R (.an R (.seq (.sv R (.bi R (.mv R ?_))))))))))))))))))));refine .cut 3 (fun (J:Bool)=>((c.2.2 != 0)||(g.2.2 != 0))=J) (fun J=>⟨[(51,.b J),(14,.i e.2.2),(13,.b e.2.1),(12,.f qI e.1),(10,.b g.2.1),(9,.f qI g.1),(8,.h 3),(7,.b k.1),(5,.h 2),(4,.b c.1),(3,.f rE60 m)],[(3,rwI k.2),(2,rwI c.2.1)],4⟩) ?_ ?_
   · rintro _ rfl;refine .mv R ?_;refine .cut 3 (fun (K:Bool)=>(((c.2.2 != 0)||(g.2.2 != 0))||(e.2.2 != 0))=K) (fun K=>⟨[(55,.b K),(13,.b e.2.1),(12,.f qI e.1),(10,.b g.2.1),(9,.f qI g.1),(8,.h 3),(7,.b k.1),(5,.h 2),(4,.b c.1),(3,.f rE60 m)],[(3,rwI k.2),(2,rwI c.2.1)],4⟩) ?_ ?_
     · rintro _ rfl;refine .mv R ?_;refine .cut 4 (fun (n:Bool)=>((((c.2.2 != 0)||(g.2.2 != 0))||(e.2.2 != 0))||(c.1 != k.1))=n) (fun n=>⟨[(60,.b n),(13,.b e.2.1),(12,.f qI e.1),(10,.b g.2.1),(9,.f qI g.1),(8,.h 3),(5,.h 2),(4,.b c.1),(3,.f rE60 m)],[(3,rwI k.2),(2,rwI c.2.1)],4⟩) ?_ ?_
       · rintro _ rfl;refine .mv R (bS hm fun l eb13 hm=>?_);refine .cut 5 (fun (o:Bool)=>l=o) (fun o=>⟨[(66,.b o),(13,.b e.2.1),(12,.f qI e.1),(10,.b g.2.1),(9,.f qI g.1),(4,.b c.1),(3,.f rE60 m)],[],4⟩) ?_ ?_
         · rintro _ rfl;refine .mv R ?_;refine .cut 4 (fun (p:Bool)=>(l||(c.1 != e.2.1))=p) (fun p=>⟨[(71,.b p),(13,.b e.2.1),(12,.f qI e.1),(10,.b g.2.1),(9,.f qI g.1),(4,.b c.1),(3,.f rE60 m)],[],4⟩) ?_ ?_
           · rintro _ rfl;refine .mv R ?_;refine .cut 4 (fun (q:Bool)=>((l||(c.1 != e.2.1))||(g.2.1==e.2.1))=q) (fun q=>⟨[(76,.b q),(12,.f qI e.1),(9,.f qI g.1),(4,.b c.1),(3,.f rE60 m)],[],4⟩) ?_ ?_
             · rintro _ rfl;refine .mv R (bS hm fun M eb20 hm=>?_);refine .cut 5 (fun (s:Bool)=>M=s) (fun s=>⟨[(82,.b s),(4,.b c.1),(3,.f rE60 m)],[],4⟩) ?_ ?_
               · rintro _ rfl;refine .ns ?_;refine .cc hm R (fun hm=>?_) fun hm=>?_
                 ·refine .sr (.an R (.ret (.seqR ?_)));cases hm;exact .r0 results4 (.tmp R .nil) R R
                 ·refine .sn (.sv R (bS hm fun V E hm=> .cm (r':= .h 4) [4] [(0,ROW rE60 60 V)] (some 5) (y5L E) cf22 R ⟨⟨_,R,I4⟩,trivial⟩ R (.an R (.sv R (bS hm fun W F hm=> .cm (r':= .tp []) [4] [(0,ROW rE60 60 W)] none (y5w F) cf23 R ⟨⟨_,R,I4⟩,trivial⟩ R (.nr (.mv R (bS hm fun j G hm=> .op (O.caY (r':= .tp [.b j.1,.h 5,.i j.2.2]) [5] [(0,rwI j.2.1)] (some 6) (y6g G) cf17 R R Z R R ⟨⟨R,.hr R,trivial⟩,trivial⟩ R ⟨.row flr3,trivial⟩ (fun _ _ _ _ h=>h) ⟨⟨_,R,I4⟩,trivial⟩ I3 R) R (.mv R (.ex R (.ex R (.ex R (.sa R (.sa R (.an R (.sv R (.bi R (.mv R ?_))))))))))))))))));refine .cut 4 (fun (t:Bool)=>((j.2.2==0)&&(j.1==c.1))=t) (fun t=>⟨[(99,.b t)],[],6⟩) ?_ ?_
                  · rintro _ rfl;refine .an R (.ret ?_);cases hm;exact .r0 results4 (.tmp R .nil) R R
                  · intro D;rcases yEt (j.2.2==0) with hc|hc
                    · refine .know (d:=95) R hc ?_;exact .mg R (.mg R (.op (O.beq underlying4 (Gu.mk R R) R R R) R (.pT R ((D (j.1==c.1) (andT hc).symm).s0 R))))
                    · refine .know (d:=95) R hc ?_;exact .s2 R R (.sk R (.pF R ((D false (andF hc).symm).s0 R)))
               · intro z;rcases ifS eb20 with ⟨hc,hm⟩|⟨hc,hm⟩
                 · refine .know (d:=77) R hc ?_;exact .s2 R R (.s2 R R (.pT R ((z true (oj hm)).s0 R)))
                 · refine .know (d:=77) R hc ?_;exact .mg R (.mg R (bS hm fun X H hm=> .op (O.ca0 (y4Z H) cf21 R R (Gu.mk R R) R R R) R (.op (O.not (Gu.mk R R) R R) R (.pF R ((z (!X) (oj hm)).s0 R)))))
             · intro y;rcases yEt (l||(c.1 != e.2.1)) with hc|hc
               · refine .know (d:=72) R hc ?_;exact .s2 R R (.sk R (.pT R ((y true (orT hc).symm).s0 R)))
               · refine .know (d:=72) R hc ?_;exact .mg R (.mg R (.op (O.beq underlying4 (Gu.mk R R) R R R) R (.pF R ((y (g.2.1==e.2.1) (orF hc).symm).s0 R))))
           · intro x;rcases yEt l with hc|hc
             · refine .know (d:=67) R hc ?_;exact .s2 R R (.sk R (.pT R ((x true (orT hc).symm).s0 R)))
             · refine .know (d:=67) R hc ?_;exact .mg R (.mg R (.op (O.bne underlying4 (Gu.mk R R) R R R) R (.pF R ((x (c.1 != e.2.1) (orF hc).symm).s0 R))))
         · intro w;rcases ifS eb13 with ⟨hc,hm⟩|⟨hc,hm⟩
           · refine .know (d:=61) R hc ?_;exact .s2 R R (.s2 R R (.pT R ((w true (oj hm)).s0 R)))
           · refine .know (d:=61) R hc ?_;exact .mg R (.mg R (bS hm fun Y I hm=> .op (O.caZ (y4Z I) cf21 R R (Gu.mk R R) R ⟨⟨R,.hr R,trivial⟩,⟨R,.hr R,trivial⟩,trivial⟩ (fun _ _ _ _ _ h=>h) R) R (.op (O.not (Gu.mk R R) R R) R (.pF R ((w (!Y) (oj hm)).s0 R)))))
       · intro v;rcases yEt (((c.2.2 != 0)||(g.2.2 != 0))||(e.2.2 != 0)) with hc|hc
         · refine .know (d:=56) R hc ?_;exact .s2 R R (.sk R (.pT R ((v true (orT hc).symm).s0 R)))
         · refine .know (d:=56) R hc ?_;exact .mg R (.mg R (.op (O.bne underlying4 (Gu.mk R R) R R R) R (.pF R ((v (c.1 != k.1) (orF hc).symm).s0 R))))
     · intro u;rcases yEt ((c.2.2 != 0)||(g.2.2 != 0)) with hc|hc
       · refine .know (d:=52) R hc ?_;exact .s2 R R (.pT R ((u true (orT hc).symm).s0 R))
       · refine .know (d:=52) R hc ?_;exact .mg R (.bg R (.pF R ((u (e.2.2 != 0) (orF hc).symm).s0 R)))
   · intro L;rcases yEt (c.2.2 != 0) with hc|hc
     · refine .know (d:=48) R hc ?_;exact .s2 R R (.pT R ((L true (orT hc).symm).s0 R))
     · refine .know (d:=48) R hc ?_;exact .mg R (.bg R (.pF R ((L (g.2.2 != 0) (orF hc).symm).s0 R)))
def y3i(a:Int×LI)(b:LI):Option ((Int×LI)⊕LI):=
 some (.inl (W (a.1+1),b))
def y1z(p0:LI×Int×LI×LI×EdgL)(p1:Int)(p2:Int)(a:Int×LI):Option ((Int×LI)⊕LI):=
 if decide (a.1<(p0.2.2.2.2.length:Int)) then
  (idx p0.2.2.2.2 a.1).bind fun b=>
  if((b.1==p1)&&(b.2.1==p2)) then
   (app a.2 ([b.2.2]:LI)).bind fun c=>
   y3i a c
  else
   y3i a a.2
 else
  some (.inr a.2)
def yr(p0:LI×Int×LI×LI×EdgL)(p1:Int)(p2:Int):Option LI:=
 (if (p2 != (-1)) then
  (yl p0.1 p2).bind fun b=>
  some (!b)
 else
  some false).bind fun c=>
 if c then
  some ([p1]:LI)
 else
  (iter (y1z p0 p1 p2) (0,([]:LI))).bind fun a=>
  some a
def y6p(p0:Int×Int)(p1:Int×Int):Option Int:=
 (y3S ([p0.1,p0.2]:LI) ([p1.1,p1.2]:LI)).bind fun a=>
 some a
def y2d(p0:List (Int×Int))(p1:Int×Int)(a:Int):Option (Int⊕(Unit⊕Int)):=
 if decide (a<(p0.length:Int)) then
  (idx p0 a).bind fun b=>
  if(p1==b) then
   some (.inr (.inr (a)))
  else
   some (.inl (W (a+1)))
 else
  some (.inr (.inl ()))
def y4T(p0:List (Int×Int))(p1:Int×Int):Option Int:=
 (iter (y2d p0 p1) 0).bind fun a=>
 match a with
 | .inl c=>
  some (-1)
 | .inr (b)=>
  some b
def y3j(c:Int×(List (Int×Int))×LI×EdgL)(d:Int)(b:LI)(a:Int×EdgL):Option ((Int×EdgL)⊕EdgL):=
 if decide (a.1<(b.length:Int)) then
  (idx b a.1).bind fun e=>
  (app a.2 ([(c.1,d,e)]:List (Int×Int×Int))).bind fun f=>
  some (.inl (W (a.1+1),f))
 else
  some (.inr a.2)
def y3k(a:Int×LI×(List (Int×Int)))(b:List (Int×Int))(c:Int):Option ((Int×LI×(List (Int×Int)))⊕(LI×(List (Int×Int)))):=
 (app a.2.1 ([c]:LI)).bind fun d=>
 some (.inl (W (a.1+1),d,b))
def y1A(b:(List (Int×Int)))(a:Int×LI×(List (Int×Int))):Option ((Int×LI×(List (Int×Int)))⊕(LI×(List (Int×Int)))):=
 if decide (a.1<(b.length:Int)) then
  (idx b a.1).bind fun d=>
  (y4T a.2.2 d).bind fun c=>
  if decide (c<0) then
   (app a.2.2 ([d]:List (Int×Int))).bind fun e=>
   y3k a e (a.2.2.length:Int)
  else
   y3k a a.2.2 c
 else
  some (.inr a.2)
def y3l(c:Int×(List (Int×Int))×LI×EdgL)(a:Int×(List (Int×Int))×EdgL)(i:Int)(d:List (Int×Int)):Option ((Int×(List (Int×Int))×EdgL)⊕((List (Int×Int))×EdgL)):=
 (yG y6p d).bind fun f=>
 (yM f).bind fun g=>
 (iter (y1A g) (0,([]:LI),a.2.1)).bind fun b=>
 (yK b.1).bind fun h=>
 (iter (y3j c i h) (0,a.2.2)).bind fun e=>
 some (.inl (W (a.1+1),b.2,e))
def y3m(c:Int×Int)(b:LI)(a:Int×(List (Int×Int))):Option ((Int×(List (Int×Int)))⊕(List (Int×Int))):=
 if decide (a.1<(b.length:Int)) then
  (idx b a.1).bind fun d=>
  (app a.2 ([(c.1,d)]:List (Int×Int))).bind fun e=>
  some (.inl (W (a.1+1),e))
 else
  some (.inr a.2)
def y3n(c:Int×Int)(b:LI)(a:Int×(List (Int×Int))):Option ((Int×(List (Int×Int)))⊕(List (Int×Int))):=
 if decide (a.1<(b.length:Int)) then
  (idx b a.1).bind fun d=>
  (app a.2 ([(d,c.2)]:List (Int×Int))).bind fun e=>
  some (.inl (W (a.1+1),e))
 else
  some (.inr a.2)
def y3o(c:Int)(b:LI)(a:Int×(List (Int×Int))):Option ((Int×(List (Int×Int)))⊕(List (Int×Int))):=
 if decide (a.1<(b.length:Int)) then
  (idx b a.1).bind fun d=>
  (app a.2 ([(c,d)]:List (Int×Int))).bind fun e=>
  some (.inl (W (a.1+1),e))
 else
  some (.inr a.2)
def y3p(p1:LI×Int×LI×LI×EdgL)(e:Int×Int)(f:Int)(b:LI)(a:Int×(List (Int×Int))):Option ((Int×(List (Int×Int)))⊕(List (Int×Int))):=
 if decide (a.1<(b.length:Int)) then
  (idx b a.1).bind fun g=>
  (yr p1 e.2 f).bind fun d=>
  (iter (y3o g d) (0,a.2)).bind fun c=>
  some (.inl (W (a.1+1),c))
 else
  some (.inr a.2)
def yV(p0:LI×Int×LI×LI×EdgL)(p1:LI×Int×LI×LI×EdgL)(e:Int×(List (Int×Int))×LI×EdgL)(c:Int×Int)(d:Int×Int)(f:LI)(b:Int×(List (Int×Int))×EdgL):Option ((Int×(List (Int×Int))×EdgL)⊕((List (Int×Int))×EdgL)):=
 if decide (b.1<(f.length:Int)) then
  (idx f b.1).bind fun a=>
  if(a==(-1)) then
   (yr p0 c.1 a).bind fun j=>
   (iter (y3n d j) (0,([]:List (Int×Int)))).bind fun g=>
   (yr p1 d.2 a).bind fun k=>
   (iter (y3m c k) (0,g)).bind fun h=>
   y3l e b a h
  else
   (yr p0 c.1 a).bind fun l=>
   (iter (y3p p1 d a l) (0,([]:List (Int×Int)))).bind fun i=>
   y3l e b a i
 else
  some (.inr b.2)
def y3q(p0:LI×Int×LI×LI×EdgL)(p1:LI×Int×LI×LI×EdgL)(g:LI)(a:Int×(List (Int×Int))×LI×EdgL)(d:Int×Int)(e:Int×Int)(c:LI):Option ((Int×(List (Int×Int))×LI×EdgL)⊕((List (Int×Int))×LI×EdgL)):=
 (app ([(-1)]:LI) g).bind fun f=>
 (iter (yV p0 p1 a d e f) (0,a.2.1,a.2.2.2)).bind fun b=>
 some (.inl (W (a.1+1),b.1,c,b.2))
def y3r(p0:LI×Int×LI×LI×EdgL)(p1:LI×Int×LI×LI×EdgL)(h:LI)(a:Int×(List (Int×Int))×LI×EdgL):Option ((Int×(List (Int×Int))×LI×EdgL)⊕((List (Int×Int))×LI×EdgL)):=
 if decide (a.1<(a.2.1.length:Int)) then
  (idx a.2.1 a.1).bind fun b=>
  (idx a.2.1 a.1).bind fun c=>
  (yl p0.2.2.2.1 b.1).bind fun e=>
  (if e then
   (yl p1.2.2.2.1 c.2).bind fun f=>
   some f
  else
   some false).bind fun d=>
  if d then
   (app a.2.2.1 ([a.1]:LI)).bind fun g=>
   y3q p0 p1 h a b c g
  else
   y3q p0 p1 h a b c a.2.2.1
 else
  some (.inr a.2)
def yH(p1:LI×Int×LI×LI×EdgL)(b:Int)(a:Int×(List (Int×Int))×LI):Option ((Int×(List (Int×Int))×LI)⊕((List (Int×Int))×LI)):=
 if decide (a.1<(p1.2.2.1.length:Int)) then
  (idx p1.2.2.1 a.1).bind fun c=>
  (app a.2.2 ([(a.2.1.length:Int)]:LI)).bind fun d=>
  (app a.2.1 ([(b,c)]:List (Int×Int))).bind fun e=>
  some (.inl (W (a.1+1),e,d))
 else
  some (.inr a.2)
def y1B(p0:LI×Int×LI×LI×EdgL)(p1:LI×Int×LI×LI×EdgL)(a:Int×(List (Int×Int))×LI):Option ((Int×(List (Int×Int))×LI)⊕((List (Int×Int))×LI)):=
 if decide (a.1<(p0.2.2.1.length:Int)) then
  (idx p0.2.2.1 a.1).bind fun c=>
  (iter (yH p1 c) (0,a.2)).bind fun b=>
  some (.inl (W (a.1+1),b))
 else
  some (.inr a.2)
def y4n(p0:LI×Int×LI×LI×EdgL)(p1:LI×Int×LI×LI×EdgL):Option ((LI×Int×LI×LI×EdgL)×(List (Int×Int))):=
 (y3z p0.1 p1.1).bind fun c=>
 (iter (y1B p0 p1) (0,([]:List (Int×Int)),([]:LI))).bind fun b=>
 (iter (y3r p0 p1 c) (0,b.1,([]:LI),([]:List (Int×Int×Int)))).bind fun a=>
 some ((c,(a.1.length:Int),b.2,a.2),a.1)
end
end
section
open Go.Proofs.Tryz
def wval(u:LI):Int:=u.foldl (fun acc e=>33*acc+e+1) 0
theorem y3B(u:LI)(e:Int):wval (u++[e])=33*wval u+e+1:=by simp [wval,List.foldl_append]
def Evs(u:LI):Prop:=∀e∈u,0≤e∧e<32
theorem Evs.nil :Evs []:=fun e h=>by cases h
theorem Evs.snoc{u:LI}{e:Int}(h:Evs u)(h0:0≤e)(h1:e<32):Evs (u++[e]):=by
 intro x hx;rcases yMa.1 hx with h2|h2
 ·exact h x h2
 ·rw [yMs.1 h2];exact⟨h0,h1⟩
theorem Evs.of_snoc{u:LI}{e:Int}(h:Evs (u++[e])):Evs u∧0≤e∧e<32:=
 ⟨fun x hx=>h x (yMl _ hx),h e (by simp)⟩
theorem y8K{α:Type}{P:List α→Prop}(h0:P [])(h1:∀u e,P u→P (u++[e]))(u:List α):P u:=by
 have h2:∀n (u:List α),u.length=n→P u:=by
  intro n
  induction n with
  | zero=>intro u hu;rw [yLz hu];exact h0
  | succ n ih=>
   intro u hu;rcases List.eq_nil_or_concat u with rfl|⟨l,b,rfl⟩
   ·cases hu
   ·have hl:l.length=n:=by simpa using hu
    simpa using h1 l b (ih l hl)
 exact h2 _ u rfl
theorem y9u(u:LI):Evs u→0≤wval u:=by
 refine y8K (P:=fun u=>Evs u→0≤wval u) (fun _=>Int.le_refl 0) (fun u e ih h=>?_) u;have h1:=h.of_snoc;have:=ih h1.1;rw [y3B];omega
def wlo :Nat→Int
 | 0=>0
 | n+1=>33*wlo n+1
def whi :Nat→Int
 | 0=>0
 | n+1=>33*whi n+32
theorem yhd(u:LI):Evs u→wlo u.length≤wval u∧wval u≤whi u.length:=by
 refine y8K (P:=fun u=>Evs u→wlo u.length≤wval u∧wval u≤whi u.length) (fun _=>⟨Int.le_refl _,Int.le_refl _⟩) (fun u e ih h=>?_) u;have h1:=h.of_snoc;have:=ih h1.1;rw [y3B,yLa,List.length_singleton,wlo,whi];omega
theorem ykw(n:Nat):whi n<wlo (n+1):=by
 induction n with
 | zero=>decide
 | succ n ih=>rw [whi,wlo];omega
theorem yin{m n:Nat}(h:m≤n):wlo m≤wlo n:=by
 induction n with
 | zero=>
  obtain rfl:m=0:=by omega
  exact Int.le_refl _
 | succ n ih=>
  by_cases e:m=n+1
  ·rw [e];exact Int.le_refl _
  ·have h1:=ih (by omega);have h2:0≤wlo n:=by
    clear h1 ih h e
    induction n with
    | zero=>exact Int.le_refl _
    | succ n ih=>rw [wlo];omega
   rw [wlo];omega
theorem yio{u v:LI}(hu:Evs u)(hv:Evs v)(h:wval u≤wval v):u.length≤v.length:=by
 by_cases hlt:v.length<u.length
 ·have h1:=(yhd u hu).1;have h2:=(yhd v hv).2;have h3:=ykw v.length;have h4:=yin (show v.length+1≤u.length by omega);omega
 ·omega
def Leads(es:List Ed)(perm:Ed→Bool)(s:Int):LI→Int→Prop
 | [],t=>s=t
 | e::u,t=>∃x∈es,x.f=s∧x.e=e∧perm x=true∧Leads es perm x.t u t
theorem Leads.snoc{es:List Ed}{perm:Ed→Bool}:∀{u:LI} {s t:Int},Leads es perm s u t→∀{x:Ed},x∈es→x.f=t→perm x=true→Leads es perm s (u++[x.e]) x.t
 | [],s,t,h,x,hx,hf,hp=>⟨x,hx,by rw [hf];exact h.symm,rfl,hp,rfl⟩
 | e::u,s,t,⟨y,hy,h1,h2,h3,h4⟩,x,hx,hf,hp=>⟨y,hy,h1,h2,h3,h4.snoc hx hf hp⟩
theorem Leads.of_snoc{es:List Ed}{perm:Ed→Bool}{e:Int}:∀{u:LI} {s t:Int},Leads es perm s (u++[e]) t→∃x∈es,Leads es perm s u x.f∧x.e=e∧x.t=t∧perm x=true
 | [],s,t,⟨y,hy,h1,h2,h3,h4⟩=>⟨y,hy,h1.symm,h2,h4,h3⟩
 | a::u,s,t,⟨y,hy,h1,h2,h3,h4⟩=>by
  obtain⟨x,hx,g1,g2,g3,g4⟩:=Leads.of_snoc (u:=u) h4;exact⟨x,hx,⟨y,hy,h1,h2,h3,g1⟩,g2,g3,g4⟩
def EvEs(es:List Ed):Prop:=∀x∈es,0≤x.e∧x.e<32
theorem Leads.evs{es:List Ed}{perm:Ed→Bool}(he:EvEs es):∀{u:LI} {s t:Int},Leads es perm s u t→Evs u
 | [],_,_,_=>Evs.nil
 | e::u,s,t,⟨y,hy,h1,h2,h3,h4⟩=>by
  intro z hz;rcases yMo.1 hz with rfl|hz
  ·rw [←h2];exact he y hy
  ·exact Leads.evs he h4 z hz
structure Found (es:List Ed) (perm:Ed→Bool) (s:Int) (L:List (LI×Int)) (b:Int):Prop where
 lead:∀r∈L,Leads es perm s r.1 r.2
 sorted:∀j k:Nat,j<k→∀r r':LI×Int,L[j]? =some r→L[k]? =some r'→wval r.1<wval r'.1
 bd:∀r∈L,wval r.1≤b
def y5m(es:List Ed)(perm:Ed→Bool)(L:List (LI×Int))(m i:Nat):Prop:=
 ∀j:Nat,j<i→∀r:LI×Int,L[j]? =some r→∀x∈es,x.f=r.2→perm x=true→∃k:Nat,m≤k∧∃r':LI×Int,L[k]? =some r'∧r'.2=x.t∧wval r'.1≤33*wval r.1+x.e+1
section
variable{es:List Ed}{perm:Ed→Bool}{s:Int}{L:List (LI×Int)}{b:Int}{m i:Nat}
theorem Found.push(h:Found es perm s L b){w:LI}{t:Int}(hl:Leads es perm s w t)(hb:b<wval w):Found es perm s (L++[(w,t)]) (wval w):=by
 refine⟨fun r hr=>?_,fun j k hjk r r' hj hk=>?_,fun r hr=>?_⟩
 ·rcases yMa.1 hr with h1|h1
  ·exact h.lead r h1
  ·rw [yMs.1 h1];exact hl
 ·by_cases hk2:k<L.length
  ·rw [yAl hk2] at hk;rw [yAl (by omega)] at hj;exact h.sorted j k hjk r r' hj hk
  ·rw [yAr (by omega)] at hk;have h3:k-L.length=0:=by
    by_cases h4:k-L.length=0
    ·exact h4
    ·rw [yGn (by simp;omega)] at hk;cases hk
   rw [h3] at hk;simp only [List.getElem?_cons_zero,yIj] at hk;subst hk;rw [yAl (by omega)] at hj;have:=h.bd r (List.mem_of_getElem? hj);dsimp only;omega
 ·rcases yMa.1 hr with h1|h1
  ·have:=h.bd r h1;omega
  ·rw [yMs.1 h1];exact Int.le_refl _
theorem Found.mono(h:Found es perm s L b){j k:Nat}(hjk:j≤k){r r':LI×Int}(hj:L[j]? =some r)(hk:L[k]? =some r'):wval r.1≤wval r'.1:=by
 by_cases e:j=k
 ·subst e;rw [hj] at hk;cases hk;exact Int.le_refl _
 ·exact Int.le_of_lt (h.sorted j k (by omega) r r' hj hk)
theorem y5m.append(h:y5m es perm L m i)(hi:i≤L.length)(M:List (LI×Int)):y5m es perm (L++M) m i:=by
 intro j hj r hr x hx hf hp;rw [yAl (by omega)] at hr;obtain⟨k,hk,r',hr',h1,h2⟩:=h j hj r hr x hx hf hp;refine⟨k,hk,r',?_,h1,h2⟩;rw [yAl (by have:=(yGs.1 hr').1;omega)];exact hr'
theorem y5m.place(he:EvEs es)(hF:Found es perm s L b)(hC:y5m es perm L m i)(h0:L[0]? =some ([],s))(u:LI):
  ∀t,Leads es perm s u t→(∃(k:Nat) (r:LI×Int),(u= []∨m≤k)∧L[k]? =some r∧r.2=t∧wval r.1≤wval u)∨(∃r:LI×Int,L[i]? =some r∧wval r.1<wval u)∨L.length≤i:=by
 induction u using y8K with
 | h0=>
  intro t ht;refine .inl ⟨0,_,.inl rfl,h0,ht,Int.le_refl _⟩
 | h1 u e ih=>
  intro t ht;by_cases hil:L.length≤i
  ·exact .inr (.inr hil)
  obtain⟨x,hx,g1,rfl,rfl,g4⟩:=ht.of_snoc;have hxe:=he x hx;have hi:L[i]? =some L[i]:=yGe (by omega);have hu:=y9u u (g1.evs he);rcases ih x.f g1 with ⟨k,r,hk0,hk,hr,hle⟩|⟨r,hk,hle⟩|h3
  ·by_cases hki:k<i
   ·obtain ⟨k',hk',r',h1,h2,h3⟩:=hC k hki r hk x hx hr.symm g4;refine .inl ⟨k',r',.inr hk',h1,h2,?_⟩;rw [y3B];omega
   ·refine .inr (.inl ⟨_,hi,?_⟩);have:=hF.mono (show i≤k by omega) hi hk;rw [y3B];omega
  ·refine .inr (.inl ⟨r,hk,?_⟩);rw [y3B];omega
  ·exact .inr (.inr h3)
theorem y5m.all(_he:EvEs es)(hC:y5m es perm L m L.length)(h0:L[0]? =some ([],s))(u:LI):
  ∀t,Leads es perm s u t→∃(k:Nat) (r:LI×Int),(u= []∨m≤k)∧L[k]? =some r∧r.2=t∧wval r.1≤wval u:=by
 induction u using y8K with
 | h0=>
  intro t ht;exact⟨0,_,.inl rfl,h0,ht,Int.le_refl _⟩
 | h1 u e ih=>
  intro t ht;obtain⟨x,hx,g1,rfl,rfl,g4⟩:=ht.of_snoc;obtain⟨k,r,hk0,hk,hr,hle⟩:=ih x.f g1;obtain⟨k',hk',r',h1,h2,h3⟩:=hC k (yGs.1 hk).1 r hk x hx hr.symm g4;refine⟨k',r',.inr hk',h1,h2,?_⟩;rw [y3B];omega
structure Least (es:List Ed) (perm:Ed→Bool) (want:Int→Bool) (s:Int) (least:Nat) (w:LI):Prop where
 ev:Evs w
 len:least≤w.length
 leads:∃t,Leads es perm s w t∧want t=true
 le:∀u t,Leads es perm s u t→want t=true→least≤u.length→wval w≤wval u
theorem Found.least{want:Int→Bool}(he:EvEs es)(hF:Found es perm s L b)(hC:y5m es perm L 0 i)(h0:L[0]? =some ([],s)){r:LI×Int}(hi:L[i]? =some r)(hw:want r.2=true)
  (hn:∀j:Nat,j<i→∀r:LI×Int,L[j]? =some r→want r.2=false):Least es perm want s 0 r.1:=by
 have hl:=hF.lead r (List.mem_of_getElem? hi);refine⟨hl.evs he,yZl _,⟨_,hl,hw⟩,fun u t hu ht _=>?_⟩;rcases hC.place he hF h0 u t hu with ⟨k,r',hk0,hk,hr,hle⟩|⟨r',hk,hle⟩|h3
 ·by_cases hki:k<i
  ·have:=hn k hki r' hk;rw [hr,ht] at this;cases this
  ·have:=hF.mono (show i≤k by omega) hi hk;omega
 ·rw [hi] at hk;cases hk;omega
 ·have:=(yGs.1 hi).1;omega
theorem y5m.none{want:Int→Bool}(he:EvEs es)(hC:y5m es perm L 0 L.length)(h0:L[0]? =some ([],s))(hn:∀(j:Nat) (r:LI×Int),L[j]? =some r→want r.2=false):
  ∀u t,Leads es perm s u t→want t=false:=by
 intro u t hu;obtain⟨k,r,_,hk,rfl,_⟩:=hC.all he h0 u t hu;exact hn k r hk
end
def edLt(x y:Ed):Prop:=x.f<y.f∨(x.f=y.f∧x.e<y.e)
def y7W(es:List Ed):Prop:=es.Pairwise edLt
theorem ycl :∀(es:List Ed),es.Pairwise (fun x y=>x.f≤y.f)→∀s:Int,es.drop (es.countP fun x=>decide (x.f<s))=es.filter fun x=>!decide (x.f<s)
 | [],_,_=>rfl
 | x::l,h,s=>by
  obtain⟨h1,h2⟩:=yPc.1 h;by_cases hx:x.f<s
  ·rw [List.countP_cons_of_pos (by simpa using hx),List.drop_succ_cons,ycl l h2 s,List.filter_cons_of_neg (by simpa using hx)]
  ·have h3:∀y∈l,¬y.f<s:=fun y hy=>by have:=h1 y hy;omega
   have h4:l.countP (fun x=>decide (x.f<s))=0:=by
    rw [List.countP_eq_zero];intro y hy;simpa using h3 y hy
   rw [List.countP_cons_of_neg (by simpa using hx),h4,List.drop_zero];symm;rw [List.filter_eq_self];intro y hy;rcases yMo.1 hy with rfl|hy
   ·simpa using hx
   ·simpa using h3 y hy
theorem ycm :∀(es:List Ed),es.Pairwise (fun x y=>x.f≤y.f)→∀s:Int,es.take (es.countP fun x=>decide (x.f<s))=es.filter fun x=>decide (x.f<s)
 | [],_,_=>rfl
 | x::l,h,s=>by
  obtain⟨h1,h2⟩:=yPc.1 h;by_cases hx:x.f<s
  ·rw [List.countP_cons_of_pos (by simpa using hx),List.take_succ_cons,ycm l h2 s,List.filter_cons_of_pos (by simpa using hx)]
  ·have h3:∀y∈l,¬y.f<s:=fun y hy=>by have:=h1 y hy;omega
   have h4:l.countP (fun x=>decide (x.f<s))=0:=by
    rw [List.countP_eq_zero];intro y hy;simpa using h3 y hy
   rw [List.countP_cons_of_neg (by simpa using hx),h4,List.take_zero];symm;rw [List.filter_eq_nil_iff];intro y hy;rcases yMo.1 hy with rfl|hy
   ·simpa using hx
   ·simpa using h3 y hy
theorem y7W.le{es:List Ed}(h:y7W es):es.Pairwise (fun x y=>x.f≤y.f):=List.Pairwise.imp (fun {x y} (h:edLt x y)=>by unfold edLt at h;omega) h
theorem yip{es:List Ed}(h:y7W es)(s:Int):subOf es s=es.filter fun x=>decide (x.f=s):=by
 have h1:=ycm es h.le (s+1);have h2:(es.filter fun x=>decide (x.f<s+1)).Pairwise (fun x y=>x.f≤y.f):=h.le.filter _;have h3:=ycl _ h2 s;have h4:(es.filter fun x=>decide (x.f<s+1)).countP (fun x=>decide (x.f<s))=es.countP fun x=>decide (x.f<s):=by
  rw [List.countP_filter];apply List.countP_congr;intro x _;simp only [yAe,decide_eq_true_eq];omega
 rw [h4,←h1,List.drop_take] at h3;rw [subOf,edSub,fstN,fstN,h3,h1,List.filter_filter];apply List.filter_congr;intro x _;rw [Bool.eq_iff_iff];simp only [yAe,Bool.not_eq_true',decide_eq_true_eq,decide_eq_false_iff_not];omega
theorem yaR{steps:List St}{y:St}(hp:∀j (h:j<steps.length),-1≤steps[j].p∧steps[j].p<j):∀(f k:Nat),k<steps.length→back (steps++[y]) f k=back steps f k
 | 0,_,_=>rfl
 | f+1,k,hk=>by
  rw [back,back,yTn,yAl hk,yGe hk];dsimp only;split
  ·rename_i h0;have:=hp k hk;obtain⟨p,hpe⟩:=Int.eq_ofNat_of_zero_le h0;rw [hpe] at this ⊢;rw [yaR hp f p (by omega)]
  ·rfl
structure PW (es:List Ed) (perm:Ed→Bool) (from_ n i:Nat) (seen:List Bool) (steps:List St) (L:List (LI×Int)) (b:Int):Prop where
 pok:POk n seen steps
 len:steps.length=L.length
 st:∀(k:Nat) (r:LI×Int),L[k]? =some r→∃x,steps[k]? =some x∧x.s=r.2∧∀f,k<f→back steps f k=r.1.reverse
 seen:∀t:Nat,t<n→seen[t]? =some true→∃(k:Nat) (r:LI×Int),L[k]? =some r∧r.2=t
 found:Found es perm from_ L b
 follow:y5m es perm L 0 i
 zero:L[0]? =some ([],(from_:Int))
 lt:i≤L.length
theorem PW.fold{es:List Ed}{perm:Ed→Bool}{from_ n i:Nat}(hes:∀x∈es,0≤x.t∧x.t<(n:Int))(he:EvEs es)(r:LI×Int):∀(l done:List Ed) {seen:List Bool} {steps:List St} {L:List (LI×Int)} {b:Int},
  PW es perm from_ n i seen steps L b→L[i]? =some r→es.filter (fun x=>decide (x.f=r.2))=done++l→l.Pairwise (fun x y=>x.e<y.e)→(∀x∈l,b<33*wval r.1+x.e+1)→b≤33*wval r.1+32→
  (∀x∈done,perm x=true→∃(k:Nat) (r':LI×Int),L[k]? =some r'∧r'.2=x.t∧wval r'.1≤33*wval r.1+x.e+1)→
  ∃L' b',PW es perm from_ n (i+1) (l.foldl (pStep perm i) (seen,steps)).1 (l.foldl (pStep perm i) (seen,steps)).2 L' b'∧b'≤33*wval r.1+32∧∃M,L'=L++M
 | [],done,seen,steps,L,b,h,hi,hf,hs,hb,hb2,hd=>by
  refine⟨L,b,⟨h.pok,h.len,h.st,h.seen,h.found,fun j hj r' hr x hx hxf hp=>?_,h.zero,?_⟩,hb2,[],(List.append_nil _).symm⟩
  ·by_cases hji:j<i
   ·exact h.follow j hji r' hr x hx hxf hp
   ·obtain rfl:j=i:=by omega
    rw [hi] at hr;cases hr;have hmem:x∈done:=by
     have:x∈es.filter (fun x=>decide (x.f=r.2)):=List.mem_filter.2 ⟨hx,by simpa using hxf⟩;rw [hf,List.append_nil] at this;exact this
    obtain⟨k,r',h1,h2,h3⟩:=hd x hmem hp;exact⟨k,yZl _,r',h1,h2,h3⟩
  ·have:=(yGs.1 hi).1;omega
 | x::l,done,seen,steps,L,b,h,hi,hf,hs,hb,hb2,hd=>by
  obtain⟨hs1,hs2⟩:=yPc.1 hs;have hxm:x∈es.filter (fun x=>decide (x.f=r.2)):=by rw [hf];simp
  obtain⟨hxe,hxf⟩:=List.mem_filter.1 hxm;have hxf:x.f=r.2:=by simpa using hxf
  have hxt:=hes x hxe;have hxv:=he x hxe;have hxb:=hb x (yMc ..);have hf':es.filter (fun x=>decide (x.f=r.2))=(done++[x])++l:=by rw [hf];simp
  have hil:i<L.length:=(yGs.1 hi).1;rw [List.foldl_cons];have hlt:x.t.toNat<seen.length:=by rw [h.pok.len];omega
  have hsv:seen[x.t.toNat]? =some seen[x.t.toNat]:=yGe hlt;by_cases hc:seen[x.t.toNat]?.getD true=false∧perm x=true
  ·have hst:pStep perm i (seen,steps) x=(seen.set x.t.toNat true,steps++[⟨x.t,i,x.e⟩]):=by unfold pStep;rw [iP hc]
   have hsf:seen[x.t.toNat]? =some false:=by
    have:=hc.1;rw [hsv] at this ⊢;simpa using this
   have hpok:=h.pok.push (i:=i) (by rw [h.len];exact hil) x.t x.e hxt.1 hxt.2 hsf;have hlead:Leads es perm from_ r.1 r.2:=h.found.lead r (List.mem_of_getElem? hi);have hF:=h.found.push (hlead.snoc hxe hxf hc.2) (by rw [y3B];omega);rw [y3B] at hF;rw [hst];have hnew:PW es perm from_ n i (seen.set x.t.toNat true) (steps++[⟨x.t,i,x.e⟩]) (L++[(r.1++[x.e],x.t)]) (33*wval r.1+x.e+1):=by
    refine⟨hpok,by simp [h.len],?_,?_,hF,h.follow.append h.lt _,?_,?_⟩
    ·intro k r' hr';by_cases hk:k<L.length
     ·rw [yAl hk] at hr';obtain⟨y,h1,h2,h3⟩:=h.st k r' hr';refine⟨y,by rw [yAl (by rw [h.len];exact hk)];exact h1,h2,fun f hf=>?_⟩;rw [yaR h.pok.parent f k (by rw [h.len];exact hk)];exact h3 f hf
     ·have hkl:k=L.length:=by
       have:=(yGs.1 hr').1;simp at this;omega
      subst hkl;rw [yAr (yNr _),Nat.sub_self] at hr';simp only [List.getElem?_cons_zero,yIj] at hr';subst hr';refine⟨⟨x.t,i,x.e⟩,by rw [yAr (by rw [h.len];exact yNr _),h.len,Nat.sub_self];rfl,rfl,fun f hf=>?_⟩;obtain⟨f',rfl⟩:∃f',f=f'+1:=⟨f-1,by omega⟩;obtain⟨y,h1,h2,h3⟩:=h.st i r hi;rw [back,yTn,yAr (by rw [h.len];exact yNr _),h.len,Nat.sub_self];simp only [List.getElem?_cons_zero];rw [iP (by omega),yaR h.pok.parent f' i (by rw [h.len];exact hil),h3 f' (by omega)];simp
    ·intro t ht hseen;by_cases htx:x.t.toNat=t
     ·exact ⟨L.length,(r.1++[x.e],x.t),by simp,by dsimp only;omega⟩
     ·rw [List.getElem?_set_ne htx] at hseen;obtain⟨k,r',h1,h2⟩:=h.seen t ht hseen;exact⟨k,r',by rw [yAl (yGs.1 h1).1];exact h1,h2⟩
    ·rw [yAl (by omega)];exact h.zero
    ·have:=h.lt;simp;omega
   obtain⟨L',b',g1,g2,M,g3⟩:=PW.fold hes he r l (done++[x]) hnew (by rw [yAl hil];exact hi) hf' hs2 (fun y hy=>by have:=hs1 y hy;omega) (by omega) (fun y hy hp=>by
    rcases yMa.1 hy with hy|hy
    ·obtain ⟨k,r',h1,h2,h3⟩:=hd y hy hp;exact⟨k,r',by rw [yAl (yGs.1 h1).1];exact h1,h2,h3⟩
    ·rw [yMs.1 hy];exact⟨L.length,(r.1++[x.e],x.t),by simp,rfl,by rw [y3B];exact Int.le_refl _⟩)
   exact⟨L',b',g1,g2,[(r.1++[x.e],x.t)]++M,by rw [g3,yAa]⟩
  ·have hst:pStep perm i (seen,steps) x=(seen,steps):=by unfold pStep;rw [iN hc]
   rw [hst];refine PW.fold hes he r l (done++[x]) h hi hf' hs2 (fun y hy=>hb y (yMm _ hy)) hb2 (fun y hy hp=>?_);rcases yMa.1 hy with hy|hy
   ·exact hd y hy hp
   ·rw [yMs.1 hy] at hp ⊢;have hst:seen[x.t.toNat]? =some true:=by
     rw [hsv] at hc ⊢;simp only [Option.getD_some] at hc;cases hb:seen[x.t.toNat] with
     | true=>rfl
     | false=>exact absurd ⟨hb,hp⟩ hc
    obtain⟨k,r',h1,h2⟩:=h.seen x.t.toNat (by omega) hst;refine⟨k,r',h1,by omega,?_⟩;have:=h.found.bd r' (List.mem_of_getElem? h1);omega
def yjE(es:List Ed)(perm:Ed→Bool)(want:Int→Bool)(from_:Nat):Option (List St×Nat)→Prop
 | some r=>∃w,back r.1 (r.2+1) r.2=w.reverse∧Least es perm want from_ 0 w
 | none=>∀u t,Leads es perm from_ u t→want t=false
theorem PW.bfs{es:List Ed}{perm:Ed→Bool}{want:Int→Bool}{from_ n:Nat}(hso:y7W es)(hes:∀x∈es,0≤x.t∧x.t<(n:Int))(he:EvEs es):∀(f i:Nat) {seen:List Bool} {steps:List St} {L:List (LI×Int)} {b:Int},
  PW es perm from_ n i seen steps L b→n+1-i≤f→(∀r,L[i]? =some r→b≤33*wval r.1)→(∀j,j<i→∀r:LI×Int,L[j]? =some r→want r.2=false)→
  yjE es perm want from_ (Go.Proofs.YtfdeiphkmjdifaaGreatDoor.bfs (subOf es) want perm f i seen steps)
 | 0,i,seen,steps,L,b,h,hf,_,_=>by
  have h1:=h.pok.le;have h2:=h.len;have h3:=h.lt;omega
 | f+1,i,seen,steps,L,b,h,hf,hb,hn=>by
  by_cases hi:i<steps.length
  ·have hiL:i<L.length:=by rw [←h.len];exact hi
   have hr:L[i]? =some L[i]:=yGe hiL;obtain⟨x,h1,h2,h3⟩:=h.st i L[i] hr;rw [yGe hi] at h1;cases h1;cases hw:want steps[i].s with
   | true=>
    rw [ydk hi hw];exact⟨L[i].1,h3 (i+1) (by omega),h.found.least he h.follow h.zero hr (by rw [←h2];exact hw) hn⟩
   | false=>
    rw [yeb hi hw,yip hso];have hpw:(es.filter fun x=>decide (x.f=L[i].2)).Pairwise (fun x y=>x.e<y.e):=by
     have h4:(es.filter fun x=>decide (x.f=L[i].2)).Pairwise edLt:=List.Pairwise.filter _ hso;refine List.Pairwise.imp_of_mem ?_ h4;intro x y hx hy hxy;have e1:=(List.mem_filter.1 hx).2;have e2:=(List.mem_filter.1 hy).2;simp only [decide_eq_true_eq] at e1 e2;unfold edLt at hxy;omega
    have hb1:=hb _ hr;obtain⟨L',b',g1,g2,M,rfl⟩:=PW.fold hes he L[i] (es.filter fun x=>decide (x.f=L[i].2)) [] h hr (by simp) hpw (fun x hx=>by have:=he x (List.mem_filter.1 hx).1;omega) (by omega) (fun x hx=>by cases hx);rw [h2];refine PW.bfs hso hes he f (i+1) g1 (by omega) (fun r' hr'=>?_) (fun j hj r' hr'=>?_)
    ·have h5:=g1.found.sorted i (i+1) (by omega) L[i] r' (by rw [yAl hiL];exact hr) hr';omega
    ·by_cases hji:j<i
     ·rw [yAl (by omega)] at hr';exact hn j hji r' hr'
     ·obtain rfl:j=i:=by omega
      rw [yAl hiL,hr] at hr';cases hr';rw [←h2];exact hw
  ·rw [yft (by omega)];have hil:i=L.length:=by have:=h.lt;have:=h.len;omega
   subst hil;exact h.follow.none he h.zero (fun j r hr=>hn j (yGs.1 hr).1 r hr)
theorem ygg{es:List Ed}{perm:Ed→Bool}{want:Int→Bool}{from_ n:Nat}(hso:y7W es)(hes:∀x∈es,0≤x.t∧x.t<(n:Int))(he:EvEs es)(hf:from_<n):
  match pathF n es want perm from_ with
  | some w=>Least es perm want from_ 0 w
  | none=>∀u t,Leads es perm from_ u t→want t=false:=by
 have h0:PW es perm from_ n 0 ((List.replicate n false).set from_ true) [⟨from_,-1,-1⟩] [([],(from_:Int))] 0:=by
  refine⟨POk.start n from_ hf,rfl,?_,?_,⟨?_,?_,?_⟩,fun j hj=>absurd hj (by omega),rfl,yZl _⟩
  ·intro k r hr;cases k with
   | zero=>
    simp only [List.getElem?_cons_zero,yIj] at hr;subst hr;refine⟨_,rfl,rfl,fun f hf=>?_⟩;obtain⟨f',rfl⟩:∃f',f=f'+1:=⟨f-1,by omega⟩;rfl
   | succ k=>simp at hr
  ·intro t ht hs;by_cases e:from_=t
   ·subst e;exact⟨0,_,rfl,rfl⟩
   ·rw [List.getElem?_set_ne e,List.getElem?_replicate,iP ht] at hs;cases hs
  ·intro r hr;rw [yMs.1 hr];rfl
  ·intro j k hjk r r' hj hk;have:=(yGs.1 hk).1;simp at this;omega
  ·intro r hr;rw [yMs.1 hr];exact Int.le_refl 0
 have h1:=h0.bfs (want:=want) hso hes he (n+1) 0 (by omega) (fun r hr=>by simp only [List.getElem?_cons_zero,yIj] at hr;subst hr;exact Int.le_refl 0) (fun j hj=>absurd hj (by omega));unfold pathF;generalize Go.Proofs.YtfdeiphkmjdifaaGreatDoor.bfs (subOf es) want perm (n+1) 0 ((List.replicate n false).set from_ true) [⟨from_,-1,-1⟩]=r at h1;cases r with
 | none=>exact h1
 | some r=>
  obtain⟨w,h2,h3⟩:=h1;simp only [Option.map_some,h2,List.reverse_reverse];exact h3
def y1u(es:List Ed)(tg:LI):Nat→Int→Prop
 | 0,s=>s∈tg
 | k+1,s=>∃x∈es,x.f=s∧y1u es tg k x.t
def y9K(es:List Ed)(tg:LI)(s d:Int):Prop:=(d= -1∧∀k,¬y1u es tg k s)∨(∃k:Nat,d=k∧y1u es tg k s∧∀j,j<k→¬y1u es tg j s)
theorem y9K.unique{es:List Ed}{tg:LI}{s d d':Int}(h:y9K es tg s d)(h':y9K es tg s d'):d=d':=by
 rcases h with ⟨rfl,h⟩|⟨k,rfl,h1,h2⟩
 ·rcases h' with ⟨rfl,_⟩|⟨k,rfl,h1,_⟩
  ·rfl
  ·exact absurd h1 (h k)
 ·rcases h' with ⟨rfl,h'⟩|⟨k',rfl,h1',h2'⟩
  ·exact absurd h1 (h' k)
  ·have a1:¬k<k':=fun hlt=>h2' k hlt h1;have a2:¬k'<k:=fun hlt=>h2 k' hlt h1';omega
structure BD (es:List Ed) (tg:LI) (n:Nat) (ds q:LI) (c:Int):Prop where
 ok:BOk n ds q
 fit:∀i,i<n→0≤ds.getD i 0→∃k:Nat,ds.getD i 0=k∧y1u es tg k i
 top:∀i,i<n→ds.getD i 0≤c+1
 low:∀s∈q,c≤ds.getD s.toNat 0
 srt:q.Pairwise fun s t=>ds.getD s.toNat 0≤ds.getD t.toNat 0
 done:∀x∈es,0≤ds.getD x.t.toNat 0→x.t∈q∨(0≤ds.getD x.f.toNat 0∧ds.getD x.f.toNat 0≤ds.getD x.t.toNat 0+1)
 tgt:∀s∈tg,ds.getD s.toNat 0=0
 bnd:∀i,i<n→ds.getD i 0≤n-negs ds
section
variable{es:List Ed}{tg:LI}{n:Nat}
theorem yfc{ds:LI}{p:Nat}{d:Int}(h:p<ds.length):(ds.set p d).getD p 0=d:=by
 rw [yGd,List.getElem?_set_self h];rfl
structure BDs (es:List Ed) (tg:LI) (n:Nat) (s:Nat) (c:Int) (ds q l:LI):Prop where
 ok:BOk n ds q
 at_:ds.getD s 0=c
 c0:0≤c
 fit:∀i,i<n→0≤ds.getD i 0→∃k:Nat,ds.getD i 0=k∧y1u es tg k i
 top:∀i,i<n→ds.getD i 0≤c+1
 low:∀s∈q,c≤ds.getD s.toNat 0
 srt:q.Pairwise fun s t=>ds.getD s.toNat 0≤ds.getD t.toNat 0
 done:∀x∈es,0≤ds.getD x.t.toNat 0→x.t∈q∨(x.t=s∧x.f∈l)∨(0≤ds.getD x.f.toNat 0∧ds.getD x.f.toNat 0≤ds.getD x.t.toNat 0+1)
 tgt:∀s∈tg,ds.getD s.toNat 0=0
 bnd:∀i,i<n→ds.getD i 0≤n-negs ds
theorem BDs.fold(hes:∀x∈es,0≤x.f∧x.f<(n:Int)∧0≤x.t∧x.t<(n:Int))(htg:∀s∈tg,0≤s∧s<(n:Int)){s:Nat}(hs:s<n){c:Int}:∀(l:LI) {ds q:LI},BDs es tg n s c ds q l→(∀p∈l,∃x∈es,x.f=p∧x.t=s)→
  BDs es tg n s c (l.foldl (bStep s) (ds,q)).1 (l.foldl (bStep s) (ds,q)).2 []
 | [],_,_,h,_=>h
 | p::l,ds,q,h,hp=>by
  rw [List.foldl_cons];obtain⟨x,hx,rfl,hxt⟩:=hp p (yMc ..);have hxr:=hes x hx;have hl:=h.ok.len;by_cases hneg:ds.getD x.f.toNat 0<0
  ·have hst:bStep s (ds,q) x.f=(ds.set x.f.toNat (ds.getD s 0+1),q++[x.f]):=by unfold bStep;rw [iP hneg]
   have hstep:=h.ok.step hs (by rw [h.at_];exact h.c0) x.f hxr.1 hxr.2.1;rw [hst] at hstep ⊢;rw [h.at_] at hstep ⊢;have hne:x.f.toNat≠s:=by
    intro e;rw [e,h.at_] at hneg;have:=h.c0;omega
   have hfl:x.f.toNat<ds.length:=by omega
   have hself:(ds.set x.f.toNat (c+1)).getD x.f.toNat 0=c+1:=yfc hfl;have hother:∀i,i≠x.f.toNat→(ds.set x.f.toNat (c+1)).getD i 0=ds.getD i 0:=fun i hi=>y7J (fun e=>hi e.symm);have hc0:=h.c0;obtain⟨k,hk1,hk2⟩:=h.fit s hs (by rw [h.at_];exact h.c0);rw [h.at_] at hk1;have hq:∀t∈q,t.toNat≠x.f.toNat:=by
    intro t ht e;have:=h.ok.nn t ht;rw [e] at this;omega
   refine BDs.fold hes htg hs l ⟨hstep.1,by rw [hother s (Ne.symm hne)];exact h.at_,h.c0,?_,?_,?_,?_,?_,?_,?_⟩ (fun p hp'=>hp p (yMm _ hp'))
   ·intro i hi h0;by_cases e:i=x.f.toNat
    ·subst e;rw [hself];refine⟨k+1,by omega,x,hx,by omega,?_⟩;rw [hxt];exact hk2
    ·rw [hother i e] at h0 ⊢;exact h.fit i hi h0
   ·intro i hi;by_cases e:i=x.f.toNat
    ·subst e;rw [hself];exact Int.le_refl _
    ·rw [hother i e];exact h.top i hi
   ·intro t ht;rcases yMa.1 ht with ht|ht
    ·rw [hother _ (hq t ht)];exact h.low t ht
    ·rw [yMs.1 ht,hself];omega
   ·rw [List.pairwise_append];refine⟨List.Pairwise.imp_of_mem (fun {a b} ha hb hab=>?_) h.srt,List.pairwise_singleton _ _,fun a ha b hb=>?_⟩
    ·rw [hother _ (hq a ha),hother _ (hq b hb)];exact hab
    ·rw [yMs.1 hb,hself,hother _ (hq a ha)];have h1:=h.ok.qr a ha;exact h.top a.toNat (by omega)
   ·intro y hy h0;by_cases e:y.t.toNat=x.f.toNat
    ·have:y.t=x.f:=by have:=hes y hy;omega
     exact .inl (by rw [this];simp)
    ·rw [hother _ e] at h0 ⊢;rcases h.done y hy h0 with h1|⟨h1,h2⟩|⟨h1,h2⟩
     ·exact .inl (yMl _ h1)
     ·rcases yMo.1 h2 with h2|h2
      ·refine .inr (.inr ?_);rw [h2,hself,h1,yTn,h.at_];omega
      ·exact .inr (.inl ⟨h1,h2⟩)
     ·refine .inr (.inr ?_);by_cases e2:y.f.toNat=x.f.toNat
      ·rw [e2] at h1;omega
      ·rw [hother _ e2];exact⟨h1,h2⟩
   ·intro t ht;have:=h.tgt t ht;by_cases e:t.toNat=x.f.toNat
    ·rw [e] at this;omega
    ·rw [hother _ e];exact this
   ·intro i hi;have h9:negs (ds.set x.f.toNat (c+1))+1=negs ds:=yee hfl (by rw [yGd,yGe hfl] at hneg;exact hneg) (by omega);have h8:=h.bnd s hs;rw [h.at_] at h8;by_cases e:i=x.f.toNat
    ·subst e;rw [hself];omega
    ·rw [hother i e];have:=h.bnd i hi;omega
  ·have hst:bStep s (ds,q) x.f=(ds,q):=by unfold bStep;rw [iN hneg]
   rw [hst];refine BDs.fold hes htg hs l ⟨h.ok,h.at_,h.c0,h.fit,h.top,h.low,h.srt,?_,h.tgt,h.bnd⟩ (fun p hp'=>hp p (yMm _ hp'));intro y hy h0;rcases h.done y hy h0 with h1|⟨h1,h2⟩|h1
   ·exact .inl h1
   ·rcases yMo.1 h2 with h2|h2
    ·refine .inr (.inr ?_);rw [h2,h1,yTn,h.at_];exact⟨by omega,h.top _ (by omega)⟩
    ·exact .inr (.inl ⟨h1,h2⟩)
   ·exact .inr (.inr h1)
theorem BD.bwd(hes:∀x∈es,0≤x.f∧x.f<(n:Int)∧0≤x.t∧x.t<(n:Int))(htg:∀s∈tg,0≤s∧s<(n:Int)):∀(f:Nat) {ds q:LI} {c:Int},BD es tg n ds q c→2*negs ds+q.length<f→
  ∃c',BD es tg n (Go.Proofs.YtfdeiphkmjdifaaGreatDoor.bwd (inL es) f ds q) [] c'
 | 0,_,_,_,_,hf=>absurd hf (by omega)
 | f+1,ds,[],c,h,_=>⟨c,h⟩
 | f+1,ds,s::q,c,h,hf=>by
  rw [Go.Proofs.YtfdeiphkmjdifaaGreatDoor.bwd];have hs:=h.ok.qr s (yMc ..);have h0:=h.ok.nn s (yMc ..);have hc:=h.low s (yMc ..);obtain⟨hs1,hs2⟩:=yPc.1 h.srt;have h1:BDs es tg n s.toNat (ds.getD s.toNat 0) ds q (inL es s.toNat):=by
   refine⟨h.ok.pop,rfl,h0,h.fit,fun i hi=>?_,hs1,hs2,fun x hx hx0=>?_,h.tgt,h.bnd⟩
   ·have:=h.top i hi;omega
   ·rcases h.done x hx hx0 with h2|h2
    ·rcases yMo.1 h2 with h2|h2
     ·refine .inr (.inl ⟨by omega,?_⟩);unfold inL;exact yMp.2 ⟨x,List.mem_filter.2 ⟨hx,by rw [h2];simp;omega⟩,rfl⟩
     ·exact .inl h2
    ·exact .inr (.inr h2)
  have h2:=h1.fold hes htg (by omega) (inL es s.toNat) (fun p hp=>yfu hp);have h3:=BOk.fold (show s.toNat<n by omega) (inL es s.toNat) h.ok.pop h0 (yaM hes);refine BD.bwd hes htg f (c:=ds.getD s.toNat 0) ⟨h2.ok,h2.fit,h2.top,h2.low,h2.srt,fun x hx hx0=>?_,h2.tgt,h2.bnd⟩ ?_
  ·rcases h2.done x hx hx0 with h4|⟨_,h4⟩|h4
   ·exact .inl h4
   ·cases h4
   ·exact .inr h4
  ·have:=h3.2.2;simp only [yLc] at hf;omega
theorem ybn(hn:n≤1000000)(hes:∀x∈es,0≤x.f∧x.f<(n:Int)∧0≤x.t∧x.t<(n:Int))(htg:∀s∈tg,0≤s∧s<(n:Int))(i:Nat)(hi:i<n):y9K es tg i ((y2V n es tg).getD i 0)∧(y2V n es tg).getD i 0≤n:=by
 have hst:=ya4 n tg (fun s hs=>(htg s hs).1);have h0:BD es tg n (y1w n tg) tg 0:=by
  refine⟨BOk.start n tg hn htg,?_,?_,?_,?_,?_,?_,?_⟩
  ·intro i hi h0;rw [hst i hi] at h0 ⊢;by_cases hm:(i:Int)∈tg
   ·rw [iP hm];exact⟨0,rfl,hm⟩
   ·rw [iN hm] at h0;omega
  ·intro i hi;rw [hst i hi];split <;> omega
  ·intro s hs;have h1:=htg s hs;rw [hst s.toNat (by omega),iP (by rw [Int.toNat_of_nonneg h1.1];exact hs)];exact Int.le_refl _
  ·refine List.Pairwise.imp_of_mem (R:=fun _ _=>True) (fun {a b} ha hb _=>?_) (List.pairwise_of_forall (fun _ _=>trivial));have h1:=htg a ha;have h2:=htg b hb;rw [hst a.toNat (by omega),hst b.toNat (by omega),iP (by rw [Int.toNat_of_nonneg h1.1];exact ha),iP (by rw [Int.toNat_of_nonneg h2.1];exact hb)];exact Int.le_refl _
  ·intro x hx h0;have h1:=hes x hx;rw [hst x.t.toNat (by omega)] at h0;by_cases hm:((x.t.toNat:Nat):Int)∈tg
   ·exact .inl (by rwa [Int.toNat_of_nonneg h1.2.2.1] at hm)
   ·rw [iN hm] at h0;omega
  ·intro s hs;have h1:=htg s hs;rw [hst s.toNat (by omega),iP (by rw [Int.toNat_of_nonneg h1.1];exact hs)]
  ·intro i hi;have h1:=ycR (y1w n tg);rw [y8b] at h1;rw [hst i hi];split <;> omega
 obtain⟨c,h⟩:=h0.bwd hes htg (2*negs (y1w n tg)+tg.length+1) (by omega);have hE:Go.Proofs.YtfdeiphkmjdifaaGreatDoor.bwd (inL es) (2*negs (y1w n tg)+tg.length+1) (y1w n tg) tg=y2V n es tg:=rfl;rw [hE] at h;generalize y2V n es tg=D at h;have key:∀(k:Nat) (s:Int),0≤s→s<n→y1u es tg k s→0≤D.getD s.toNat 0∧D.getD s.toNat 0≤k:=by
  intro k
  induction k with
  | zero=>
   intro s h0 h1 hr;rw [h.tgt s hr];omega
  | succ k ih=>
   rintro s h0 h1 ⟨x,hx,rfl,hr⟩;have hxr:=hes x hx;obtain⟨g1,g2⟩:=ih x.t hxr.2.2.1 hxr.2.2.2 hr;rcases h.done x hx g1 with h3|⟨h3,h4⟩
   ·cases h3
   ·omega
 refine⟨?_,by have:=h.bnd i hi;omega⟩;by_cases hneg:0≤D.getD i 0
 ·obtain ⟨k,h1,h2⟩:=h.fit i hi hneg;refine .inr ⟨k,h1,h2,fun j hj hr=>?_⟩;have:=key j i (by omega) (by omega) hr;rw [yTn] at this;omega
 ·refine .inl ⟨?_,fun k hr=>?_⟩
  ·have hl:=h.ok.len;have h1:=h.ok.lo (D.getD i 0) (by rw [yGd,yGe (by omega)];exact yGm _);omega
  ·have:=key k i (by omega) (by omega) hr;rw [yTn] at this;omega
theorem ydW(hn:n≤1000000)(hes:∀x∈es,0≤x.f∧x.f<(n:Int)∧0≤x.t∧x.t<(n:Int))(htg:∀s∈tg,0≤s∧s<(n:Int))(i:Nat)(hi:i<n):y9K es tg i ((y2V n es tg).getD i 0):=(ybn hn hes htg i hi).1
end
end
section
open Go.Proofs.Tryz Go Go.RowKit
theorem W_of{x:Int}(h0: -9223372036854775808≤x)(h1:x<9223372036854775808):W x=x:=IntWalk.i64_in _ (by omega)
theorem W_nat{k:Nat}(h:k<9223372036854775808):W (k:Int)=k:=W_of (by omega) (by omega)
theorem ya{α:Type}{xs:List α}{i:Nat}(h:i<xs.length):idx xs (i:Int)=some xs[i]:=by rw [yjj,yGe h]
theorem y5x{S O:Type}{f:S→Option (S⊕O)}{s:S}{o:O}{n:Nat}(hn:n≤18446744073709551616)(h:iterF f n s=some o):iter f s=some o:=by
 have mono:∀(n m:Nat) (s:S),n≤m→iterF f n s=some o→iterF f m s=some o:=by
  intro n
  induction n with
  | zero=>intro m s _ h;cases h
  | succ n ih=>
   intro m s hm h;obtain⟨k,rfl⟩:∃k,m=k+1:=⟨m-1,by omega⟩;rw [yi] at h ⊢;split at h
   ·cases h
   ·rename_i h1;exact ih k _ (by omega) h
   ·rename_i h1;exact h
 exact mono n _ s hn h
theorem yb{S O:Type}{f:S→Option (S⊕O)}(P:Nat→S→Prop)(Q:O→Prop):∀(n i:Nat),n<i+18446744073709551616→(∀i s,i<n→P i s→(∃s',f s=some (.inl s')∧P (i+1) s')∨∃o,f s=some (.inr o)∧Q o)→(∀s,P n s→∃o,f s=some (.inr o)∧Q o)→i≤n→
  ∀s,P i s→∃o,iter f s=some o∧Q o:=by
 have key:∀(n:Nat),(∀i s,i<n→P i s→(∃s',f s=some (.inl s')∧P (i+1) s')∨∃o,f s=some (.inr o)∧Q o)→(∀s,P n s→∃o,f s=some (.inr o)∧Q o)→∀(j i:Nat),i+j=n→∀s,P i s→∃o,iterF f (j+1) s=some o∧Q o:=by
  intro n step fin j
  induction j with
  | zero=>
   intro i hi s h;obtain rfl:i=n:=by omega
   obtain⟨o,h1,h2⟩:=fin s h;exact⟨o,by rw [yi,h1],h2⟩
  | succ j ih=>
   intro i hi s h;rcases step i s (by omega) h with ⟨s',h1,h2⟩|⟨o,h1,h2⟩
   ·obtain ⟨o,h3,h4⟩:=ih (i+1) (by omega) s' h2;exact⟨o,by rw [yi,h1];exact h3,h4⟩
   ·exact ⟨o,by rw [yi,h1],h2⟩
 intro n i hn step fin hi s h;obtain⟨o,h1,h2⟩:=key n step fin (n-i) i (by omega) s h;exact⟨o,y5x (by omega) h1,h2⟩
theorem nxt{i:Nat}(h:i<4611686018427387904):W ((i:Int)+1)=((i+1:Nat):Int):=by rw [show (i:Int)+1=((i+1:Nat):Int) by omega,W_nat (by omega)]
theorem ct_lt{i n:Nat}(h:i<n):decide ((i:Int)<(n:Int))=true:=by simp;omega
theorem ct_ge{n:Nat}:¬decide ((n:Int)<(n:Int))=true:=by simp
def negL(p:LI)(k:Nat):LI:=((List.range k).filter fun i=>decide (p.getD i 0<0)).map fun(i:Nat)=>(i:Int)
theorem yhe(p:LI)(k:Nat):negL p (k+1)=if p.getD k 0<0 then negL p k++[(k:Int)] else negL p k:=by
 unfold negL;rw [List.range_succ,List.filter_append,List.map_append];by_cases h:p.getD k 0<0
 ·rw [iP h,List.filter_cons_of_pos (by simpa using h)];rfl
 ·rw [iN h,List.filter_cons_of_neg (by simpa using h)];simp
theorem yet(p:LI)(k:Nat):(negL p k).length≤k:=by
 unfold negL;rw [yLm];exact Nat.le_trans (List.length_filter_le _ _) (by simp)
theorem ygh{p:LI}(hl:p.length≤1000000):y5C p=some (negL p p.length):=by
 have h:=yb (f:=y4N p) (fun i s=>i≤p.length∧s=((i:Int),negL p i)) (fun o=>o=negL p p.length) p.length 0 (by omega) ?_ ?_ (yZl _) (0,[]) ⟨yZl _,rfl⟩
 ·obtain ⟨o,h1,rfl⟩:=h;simp [y5C,h1]
 ·rintro i s hi ⟨_,rfl⟩;refine .inl ⟨_,?_,by omega,rfl⟩;have hn:=yet p i;rw [y4N];simp only [iP (show decide ((i:Int)<(p.length:Int))=true by simp;omega),ya hi,yOb];have hg:p.getD i 0=p[i]:=by rw [yGd,yGe hi];rfl
  rw [yhe,hg];by_cases hx:p[i]<0
  ·rw [iP (by simpa using hx),iP hx,y5S (by simp;omega),yOb,y3v,nxt (by omega)]
  ·rw [iN (by simpa using hx),iN hx,y3v,nxt (by omega)]
 ·rintro s ⟨_,rfl⟩;refine⟨_,?_,rfl⟩;rw [y4N];simp only [ct_ge,if_false];simp
def allL(n:Nat):LI:=(List.range n).map fun(i:Nat)=>(i:Int)
theorem yhf(n:Nat):allL (n+1)=allL n++[(n:Int)]:=by simp [allL,List.range_succ]
theorem yaf(n:Nat):(allL n).length=n:=by simp [allL]
theorem ycn{α:Type}{xs:List α}{i:Nat}{y:α}(h:i<xs.length):upd xs (i:Int) y=some (xs.set i y):=by
 unfold upd;rw [iP ⟨by omega,by omega⟩,yTn]
theorem yjF{a:LI}{n:Nat}{m:LI}{es:List (Int×Int×Int)}(hn:n≤1000000):y5X (a,(n:Int),m,es)=some (allL n):=by
 have hm:mkL (n:Int) (0:Int)=some (List.replicate n 0):=by unfold mkL;rw [iP ⟨by omega,by omega⟩,yTn]
 have h:=yb (f:=y5R (List.replicate n 0)) (fun i s=>i≤n∧s=((i:Int),allL i++List.replicate (n-i) 0)) (fun o=>o=allL n) n 0 (by omega) ?_ ?_ (yZl _) (0,List.replicate n 0) ⟨yZl _,by simp [allL]⟩
 ·obtain ⟨o,h1,rfl⟩:=h;simp only [y5X,hm,yOb,h1]
 ·rintro i s hi ⟨_,rfl⟩;refine .inl ⟨_,?_,by omega,rfl⟩;have hlen:(allL i++List.replicate (n-i) (0:Int)).length=n:=by rw [yLa,yaf,List.length_replicate];omega
  have hset:(allL i++List.replicate (n-i) (0:Int)).set i (i:Int)=allL (i+1)++List.replicate (n-(i+1)) 0:=by
   rw [yhf,List.set_append_right _ _ (by rw [yaf];exact yNr _),yaf,Nat.sub_self,show n-i=(n-(i+1))+1 by omega,List.replicate_succ,List.set_cons_zero];simp
  rw [y5R];simp only [List.length_replicate,ct_lt hi,if_true];rw [ya (by rw [hlen];exact hi),yOb,ycn (by rw [hlen];exact hi),yOb,hset,nxt (by omega)]
 ·rintro s ⟨_,rfl⟩;refine⟨_,?_,rfl⟩;rw [y5R];simp
theorem yfd{n:Nat}(hn:n≤1000000):iter (y3Q (List.replicate n 0)) (0,List.replicate n 0)=some (List.replicate n (-1)):=by
 have h:=yb (f:=y3Q (List.replicate n 0)) (fun i s=>i≤n∧s=((i:Int),List.replicate i (-1)++List.replicate (n-i) 0)) (fun o=>o=List.replicate n (-1)) n 0 (by omega) ?_ ?_ (yZl _) (0,List.replicate n 0) ⟨yZl _,by simp⟩
 ·obtain ⟨o,h1,rfl⟩:=h;exact h1
 ·rintro i s hi ⟨_,rfl⟩;refine .inl ⟨_,?_,by omega,rfl⟩;have hlen:(List.replicate i (-1)++List.replicate (n-i) (0:Int)).length=n:=by simp;omega
  have hset:(List.replicate i (-1)++List.replicate (n-i) (0:Int)).set i (-1)=List.replicate (i+1) (-1)++List.replicate (n-(i+1)) 0:=by
   rw [List.set_append_right _ _ (by simp),List.length_replicate,Nat.sub_self,show n-i=(n-(i+1))+1 by omega,List.replicate_succ,List.set_cons_zero,List.replicate_succ'];simp
  rw [y3Q];simp only [List.length_replicate,ct_lt hi,if_true];rw [ya (by rw [hlen];exact hi),yOb,ycn (by rw [hlen];exact hi),yOb,hset,nxt (by omega)]
 ·rintro s ⟨_,rfl⟩;refine⟨_,?_,rfl⟩;rw [y3Q];simp
theorem ygi(n:Nat)(tg:LI):(y1w n tg).length=n:=by
 unfold y1w;have:∀(l:LI) (ds:LI),(l.foldl (fun ds (s:Int)=>ds.set s.toNat 0) ds).length=ds.length:=by
  intro l
  induction l with
  | nil=>intro ds;rfl
  | cons s l ih=>intro ds;rw [List.foldl_cons,ih,List.length_set]
 rw [this,List.length_replicate]
theorem ydX{n:Nat}{tg:LI}(ht:tg.length≤1000000)(hr:∀s∈tg,0≤s∧s<(n:Int)):iter (y3P tg) (0,List.replicate n (-1))=some (y1w n tg):=by
 have h:=yb (f:=y3P tg) (fun i s=>i≤tg.length∧s=((i:Int),y1w n (tg.take i))) (fun o=>o=y1w n tg) tg.length 0 (by omega) ?_ ?_ (yZl _) (0,List.replicate n (-1)) ⟨yZl _,by simp [y1w]⟩
 ·obtain ⟨o,h1,rfl⟩:=h;exact h1
 ·rintro i s hi ⟨_,rfl⟩;refine .inl ⟨_,?_,by omega,rfl⟩;obtain⟨h0,h1⟩:=hr _ (yGm hi);obtain⟨k,hk⟩:=Int.eq_ofNat_of_zero_le h0;have hkn:k<(y1w n (tg.take i)).length:=by rw [ygi];omega
  have hset:y1w n (tg.take (i+1))=(y1w n (tg.take i)).set k 0:=by
   rw [y5y tg i hi,hk];simp [y1w,List.foldl_append]
  rw [y3P];simp only [ct_lt hi,if_true,ya hi,yOb,hk];rw [ya hkn,yOb,ycn hkn,yOb,hset,nxt (by omega)]
 ·rintro s ⟨_,rfl⟩;refine⟨_,?_,rfl⟩;rw [y3P];simp
theorem yeu{n s i:Nat}{q0 ds0 ps:LI}(z:LI×LI)(hps:∀p∈ps,0≤p∧p<(n:Int))(hpl:ps.length≤1000000)(hq:q0[i]? =some (s:Int))(hs:s<n)(hB:BOk n ds0 q0)(hnn:0≤ds0.getD s 0)(hsz:2*negs ds0+q0.length≤4000000):
  ∃o,iter (y3O ((i:Int),z) ps) (0,q0,ds0)=some o∧(o.2,o.1)=ps.foldl (bStep s) (ds0,q0):=by
 refine yb (f:=y3O ((i:Int),z) ps) (fun k st=>k≤ps.length∧∃ds q,st=((k:Int),q,ds)∧(ds,q)=(ps.take k).foldl (bStep s) (ds0,q0)∧BOk n ds q∧0≤ds.getD s 0∧q[i]? =some (s:Int)∧2*negs ds+q.length≤4000000) (fun o=>(o.2,o.1)=ps.foldl (bStep s) (ds0,q0)) ps.length 0 (by omega) ?_ ?_ (yZl _) (0,q0,ds0) ⟨yZl _,ds0,q0,rfl,by simp,hB,hnn,hq,hsz⟩
 ·rintro k st hk ⟨_,ds,q,rfl,hf,hB,hnn,hq,hsz⟩;obtain⟨h0,h1⟩:=hps _ (yGm hk);have hstep:=hB.step hs hnn ps[k] h0 h1;have hfs:(ps.take (k+1)).foldl (bStep s) (ds0,q0)=bStep s (ds,q) ps[k]:=by rw [y5y ps k hk,List.foldl_append,←hf];rfl
  obtain⟨p,hp⟩:=Int.eq_ofNat_of_zero_le h0;have hpn:p<ds.length:=by rw [hB.len];omega
  have hsn:s<ds.length:=by rw [hB.len];omega
  obtain⟨hil,hie⟩:=yGs.1 hq;have hgp:ds.getD p 0=ds[p]:=by rw [yGd,yGe hpn];rfl
  have hgs:ds.getD s 0=ds[s]:=by rw [yGd,yGe hsn];rfl
  have hlo:=hB.lo _ (yGm hsn);refine .inl ⟨((k+1:Nat),(bStep s (ds,q) ps[k]).2,(bStep s (ds,q) ps[k]).1),?_,by omega,_,_,rfl,hfs.symm,hstep.1,hstep.2.1,?_,by have:=hstep.2.2;omega⟩
  ·rw [y3O];simp only [ct_lt hk,if_true,ya hk,yOb,hp,ya hpn,bStep,yTn,hgp];by_cases hx:ds[p]<0
   ·have happ:=y5S (xs:=q) (ys:=[(p:Int)]) (by simp;omega);simp only [hx,decide_true,if_true,ya hil,hie,yOb,ya hsn,ycn hpn,happ,y3N,hgs,W_of (show -9223372036854775808≤ds[s]+1 by omega) (show ds[s]+1<9223372036854775808 by omega),nxt (show k<4611686018427387904 by omega)]
   ·simp only [hx,decide_false,if_false,y3N,nxt (show k<4611686018427387904 by omega)];simp
  ·unfold bStep;split
   ·dsimp only;rw [yAl hil];exact hq
   ·exact hq
 ·rintro st ⟨_,ds,q,rfl,hf,_⟩;refine⟨(q,ds),?_,by rw [List.take_length] at hf;exact hf⟩;rw [y3O];simp
theorem ydt(s:Nat):∀(l:LI) (ds q1 q2:LI),l.foldl (bStep s) (ds,q1++q2)=((l.foldl (bStep s) (ds,q2)).1,q1++(l.foldl (bStep s) (ds,q2)).2)
 | [],_,_,_=>rfl
 | p::l,ds,q1,q2=>by
  have h:bStep s (ds,q1++q2) p=((bStep s (ds,q2) p).1,q1++(bStep s (ds,q2) p).2):=by
   unfold bStep;dsimp only;split <;> simp
  rw [List.foldl_cons,h,ydt s l,List.foldl_cons]
theorem yev{n:Nat}{es:List Ed}{ds0 q0:LI}(hin:∀x∈es,0≤x.f∧x.f<n∧0≤x.t∧x.t<(n:Int))(hl:es.length≤1000000)(hB:BOk n ds0 q0)(hsz:2*negs ds0+q0.length≤4000000):
  iter (y2D ((List.range n).map (inL es))) (0,q0,ds0)=some (bwd (inL es) (2*negs ds0+q0.length+1) ds0 q0):=by
 have h:=yb (f:=y2D ((List.range n).map (inL es))) (fun i st=>∃ds q f,st=((i:Int),q,ds)∧i≤q.length∧BOk n ds q∧2*negs ds+q.length≤2*negs ds0+q0.length∧bwd (inL es) f ds (q.drop i)=bwd (inL es) (2*negs ds0+q0.length+1) ds0 q0∧2*negs ds+(q.length-i)+1≤f)
  (fun o=>o=bwd (inL es) (2*negs ds0+q0.length+1) ds0 q0) (2*negs ds0+q0.length) 0 (by omega) ?_ ?_ (yZl _) (0,q0,ds0) ⟨ds0,q0,_,rfl,yZl _,hB,yNr _,rfl,by omega⟩
 ·obtain ⟨o,h1,rfl⟩:=h;exact h1
 ·rintro i st _ ⟨ds,q,f,rfl,hi,hB,hm,hR,hf⟩;by_cases hlt:i<q.length
  ·obtain ⟨g0,g1⟩:=hB.qr _ (yGm hlt);have hnn:=hB.nn _ (yGm hlt);obtain⟨s,hs⟩:=Int.eq_ofNat_of_zero_le g0;have hsn:s<n:=by omega
   rw [hs,yTn] at hnn;have hps:=yaM (s:=s) hin;have hil:=ykl es s;obtain⟨o,h1,h2⟩:=yeu (n:=n) (s:=s) (i:=i) (q0:=q) (ds0:=ds) (ps:=inL es s) (q,ds) hps (by omega) (by rw [yGe hlt,hs]) hsn hB hnn (by omega);have hfold:=BOk.fold hsn (inL es s) hB hnn hps;rw [←h2] at hfold;obtain⟨f,rfl⟩:∃f',f=f'+1:=⟨f-1,by omega⟩;have hpre:=ydt s (inL es s) ds (q.take (i+1)) (q.drop (i+1));rw [List.take_append_drop,←h2] at hpre;have ho1:o.1=q.take (i+1)++((inL es s).foldl (bStep s) (ds,q.drop (i+1))).2:=congrArg Prod.snd hpre;have ho2:o.2=((inL es s).foldl (bStep s) (ds,q.drop (i+1))).1:=congrArg Prod.fst hpre;have hol:i+1≤o.1.length:=by rw [ho1,yLa,yLt];omega
   have hdr:o.1.drop (i+1)=((inL es s).foldl (bStep s) (ds,q.drop (i+1))).2:=by
    rw [ho1,List.drop_append_of_le_length (by rw [yLt];omega),List.drop_eq_nil_of_le (by rw [yLt];omega),List.nil_append]
   refine .inl ⟨((i+1:Nat),o.1,o.2),?_,o.2,o.1,f,rfl,hol,hfold.1,by have:=hfold.2.2;dsimp only at this;omega,?_,by have:=hfold.2.2;dsimp only at this;omega⟩
   ·rw [y2D];simp only [ct_lt hlt,if_true,ya hlt,yOb,hs];rw [ya (by simpa using hsn),yOb,List.getElem_map,List.getElem_range,h1,yOb,nxt (by omega)]
   ·rw [hdr,ho2,←hR,yDc hlt,bwd,hs,yTn]
  ·have hi':i=q.length:=by omega
   refine .inr ⟨ds,?_,?_⟩
   ·subst hi';rw [y2D];simp
   ·obtain ⟨f,rfl⟩:∃f',f=f'+1:=⟨f-1,by omega⟩;rw [←hR,hi',List.drop_length,bwd]
 ·rintro st ⟨ds,q,f,rfl,hi,hB,hm,hR,hf⟩;have hi':2*negs ds0+q0.length=q.length:=by omega
  refine⟨ds,?_,?_⟩
  ·rw [y2D,hi'];simp
  ·obtain ⟨f,rfl⟩:∃f',f=f'+1:=⟨f-1,by omega⟩;rw [←hR,hi',List.drop_length,bwd]
theorem y6h{xs:LI}(h:xs.length≤4294967296):yn xs=some xs:=by
 rw [yn,y5S (by simpa using h)];rfl
theorem yhg{a:LI}{n:Nat}{m:LI}{es:List (Int×Int×Int)}{tg:LI}(hn:n≤1000000)(hl:es.length≤1000000)(ht:tg.length≤1000000)(hin:∀x∈es,0≤x.1∧x.1<(n:Int)∧0≤x.2.2∧x.2.2<(n:Int))(hr:∀s∈tg,0≤s∧s<(n:Int)):
  y4V (a,(n:Int),m,es) tg=some (y2V n (es.map toEd) tg):=by
 have hm:mkL (n:Int) (0:Int)=some (List.replicate n 0):=by unfold mkL;rw [iP ⟨by omega,by omega⟩,yTn]
 have hi:y4M (a,(n:Int),m,es)=some ((List.range n).map (inL (es.map toEd))):=by
  unfold y4M;rw [iP ⟨hl,by dsimp only;omega,by dsimp only;omega,yAt.2 fun x hx=>by have:=hin x hx;simp;omega⟩];simp
 have hB:=BOk.start n tg hn hr;have hq:=yev (n:=n) (es:=es.map toEd) (ds0:=y1w n tg) (q0:=tg) (fun x hx=>by
  obtain⟨y,hy,rfl⟩:=yMp.1 hx;exact hin y hy) (by simpa using hl) hB (by have:=ycR (y1w n tg);rw [y8b] at this;omega)
 simp only [y4V,hi,yOb,hm,yfd hn,y6h (show tg.length≤4294967296 by omega),ydX ht hr,hq,y2V]
def errO(e:Int):Unit⊕Int:=if e=0 then .inl () else .inr e
theorem yfe{xs:LI}{n:Int}(hl:xs.length<4611686018427387904):∀(j i:Nat),i+j=xs.length→
  iterF (y2M xs n) (j+1) (i:Int)=some (errO (ym n (y4G xs i) (xs.drop i))):=by
 intro j
 induction j with
 | zero=>
  intro i hi;have e:xs.drop i= []:=List.drop_of_length_le (by omega);rw [yi,y2M,iN (by simp;omega),e];rfl
 | succ j ih=>
  intro i hi;have hlt:i<xs.length:=by omega
  rw [yi,y2M,iP (by simp;omega),ya hlt,yOb];by_cases h1:xs[i]<0∨n≤xs[i]
  ·rw [iP (by simpa using h1),ybv hlt h1];rfl
  ·rw [iN (by simpa using h1)];by_cases h0:0<i
   ·rw [iP (by simp;omega),show(i:Int)-1=((i-1:Nat):Int) by omega,W_nat (by omega),ya (show i-1<xs.length by omega),yOb,yOb];by_cases h2:xs[i]≤xs[i-1]
    ·rw [iP (by simpa using h2),ybw hlt h1 h0 h2];rfl
    ·rw [iN (by simpa using h2),show(i:Int)+1=((i+1:Nat):Int) by omega,W_nat (by omega),y7I hlt h1 (fun _=>by omega)];exact ih (i+1) (by omega)
   ·rw [iN (by simp;omega),yOb,iN (by simp),show(i:Int)+1=((i+1:Nat):Int) by omega,W_nat (by omega),y7I hlt h1 (fun h=>absurd h h0)];exact ih (i+1) (by omega)
theorem ybo{xs:LI}{n:Int}(hl:xs.length<4611686018427387904):y1v xs n=some (ym n none xs):=by
 have h:iter (y2M xs n) 0=some (errO (ym n none xs)):=y5x (by omega) (yfe (n:=n) hl xs.length 0 (by omega));rw [y1v,h,yOb];by_cases h0:ym n none xs=0
 ·rw [h0];rfl
 ·rw [errO,iN h0]
theorem yiq{xs:LI}{x:Int}(hl:xs.length<4611686018427387904):∀(j i:Nat),i+j=xs.length→
  ∃o,iterF (y3u xs x) (j+1) (i:Int)=some o∧((o= .inl ()∧x∉xs.drop i)∨∃k:Nat,i≤k∧o= .inr (k:Int)∧x∈xs.drop i):=by
 intro j
 induction j with
 | zero=>
  intro i hi;have e:xs.drop i= []:=List.drop_of_length_le (by omega);refine⟨.inl (),?_,.inl ⟨rfl,by rw [e];simp⟩⟩;rw [yi,y3u,iN (by simp;omega)]
 | succ j ih=>
  intro i hi;have hlt:i<xs.length:=by omega
  rw [yi,y3u,iP (by simp;omega),ya hlt,yOb];by_cases h1:x=xs[i]
  ·rw [iP (by simpa using h1)];exact⟨_,rfl,.inr ⟨i,yNr _,rfl,by rw [yDc hlt,h1];exact yMc⟩⟩
  ·rw [iN (by simpa using h1),show(i:Int)+1=((i+1:Nat):Int) by omega,W_nat (by omega)];obtain⟨o,h2,h3⟩:=ih (i+1) (by omega);refine⟨o,h2,?_⟩;rw [yDc hlt];rcases h3 with ⟨h4,h5⟩|⟨k,h4,h5,h6⟩
   ·exact .inl ⟨h4,fun hc=>(yMo.1 hc).elim h1 h5⟩
   ·exact .inr ⟨k,by omega,h5,yMm _ h6⟩
theorem y5M{xs:LI}{x:Int}(hl:xs.length<4611686018427387904):yl xs x=some (hasB xs x):=by
 obtain⟨o,h1,h2⟩:=yiq (x:=x) hl xs.length 0 (by omega);have h:iter (y3u xs x) 0=some o:=y5x (by omega) h1;rw [yl,y6B,h,yOb];rcases h2 with ⟨rfl,h4⟩|⟨k,_,rfl,h4⟩
 ·rw [y7n.2 (by simpa using h4)];rfl
 ·rw [yd.2 (by simpa using h4)];show some (decide ((k:Int)≥0))=some true;simp
def edP(x:Ed):Int×Int×Int:=(x.f,x.e,x.t)
def autP(a:Aut):LI×Int×LI×List (Int×Int×Int):=(a.al,a.n,a.ms,a.es.map edP)
def prevE(es:List Ed)(k:Nat):Option Ed:=if k=0 then none else es[k-1]?
theorem yff{al:LI}{n:Int}{es:List Ed}{k:Nat}(hk:k<es.length):edErr al n (prevE es k) (es.drop k)=
  if(es[k].f<0∨n≤es[k].f∨es[k].t<0∨n≤es[k].t) then 2 else if hasB al es[k].e=false then 9 else if(∃q,prevE es k=some q∧(es[k].f<q.f∨(es[k].f=q.f∧es[k].e≤q.e))) then 5 else edErr al n (prevE es (k+1)) (es.drop (k+1)):=by
 rw [yDc hk,edErr];congr 3;simp [prevE,yGe hk]
theorem yir{a:Aut}(hl:a.es.length<4611686018427387904)(hal:a.al.length<4611686018427387904):∀(j i:Nat),i+j=a.es.length→
  iterF (y1N (autP a)) (j+1) (i:Int)=some (errO (edErr a.al a.n (prevE a.es i) (a.es.drop i))):=by
 have hlen:(autP a).2.2.2.length=a.es.length:=by simp [autP]
 have hat:∀(i:Nat) (h:i<a.es.length),idx (autP a).2.2.2 (i:Int)=some (edP a.es[i]):=fun i h=>by
  rw [ya (by rw [hlen];exact h)];simp [autP]
 intro j
 induction j with
 | zero=>
  intro i hi;have e:a.es.drop i= []:=List.drop_of_length_le (by omega);rw [yi,y1N,iN (by rw [hlen];simp;omega),e];rfl
 | succ j ih=>
  intro i hi;have hlt:i<a.es.length:=by omega
  have hnext:y1M (i:Int)=some (.inl ((i+1:Nat):Int)):=by
   rw [y1M,show(i:Int)+1=((i+1:Nat):Int) by omega,W_nat (by omega)]
  rw [yi,y1N,iP (by rw [hlen];simp;omega),hat i hlt,yOb,yff hlt];by_cases h1:a.es[i].f<0∨a.n≤a.es[i].f∨a.es[i].t<0∨a.n≤a.es[i].t
  ·rw [iP (by simp only [Bool.or_eq_true,decide_eq_true_eq];show((a.es[i].f<0∨a.es[i].f≥a.n)∨a.es[i].t<0)∨a.es[i].t≥a.n;omega),iP h1];rfl
  ·rw [iN (by simp only [Bool.or_eq_true,decide_eq_true_eq];show ¬(((a.es[i].f<0∨a.es[i].f≥a.n)∨a.es[i].t<0)∨a.es[i].t≥a.n);omega),iN h1];rw [show yl (autP a).1 (edP a.es[i]).2.1=some (hasB a.al a.es[i].e) from y5M hal,yOb];cases h2:hasB a.al a.es[i].e with
   | false=>rfl
   | true=>
    rw [iN (show ¬(!true)=true by simp),iN (show ¬(true=false) by simp)];by_cases h0:i=0
    ·subst h0;rw [iP (by simp),hnext,iN (by rintro⟨q,hq,_⟩;simp [prevE] at hq)];exact ih 1 (by omega)
    ·have hp:prevE a.es i=some a.es[i-1]:=by rw [prevE,iN h0,yGe (by omega)]
     rw [iN (by simp;omega),show(i:Int)-1=((i-1:Nat):Int) by omega,W_nat (by omega),hat (i-1) (by omega),yOb];by_cases h3:a.es[i].f<a.es[i-1].f∨(a.es[i].f=a.es[i-1].f∧a.es[i].e≤a.es[i-1].e)
     ·rw [iP (by simp only [Bool.or_eq_true,yAe,decide_eq_true_eq,beq_iff_eq];exact h3),iP ⟨_,hp,h3⟩];rfl
     ·rw [iN (by simp only [Bool.or_eq_true,yAe,decide_eq_true_eq,beq_iff_eq];exact h3),hnext,iN (by rintro⟨q,hq,h4⟩;rw [hp] at hq;cases hq;exact h3 h4)];exact ih (i+1) (by omega)
theorem yis{a:Aut}(hl:a.es.length<4611686018427387904)(hal:a.al.length<4611686018427387904)(hms:a.ms.length<4611686018427387904):y4c (autP a)=some a.err:=by
 have h:iter (y1N (autP a)) 0=some (errO (edErr a.al a.n none a.es)):=y5x (by omega) (yir hl hal a.es.length 0 (by omega));have he:y4B (autP a)=some (edErr a.al a.n none a.es):=by
  rw [y4B,h,yOb];by_cases h0:edErr a.al a.n none a.es=0
  ·rw [h0];rfl
  ·rw [errO,iN h0]
 rw [y4c,show y1v (autP a).1 32=some (ym 32 none a.al) from ybo hal,yOb,Aut.err];by_cases h1:(ym 32 none a.al != 0)=true
 ·rw [iP h1,iP h1]
 ·rw [iN h1,iN h1];by_cases h2:a.n<0
  ·rw [iP (show decide ((autP a).2.1<0)=true from decide_eq_true h2),iP h2]
  ·rw [iN (show ¬decide ((autP a).2.1<0)=true from fun e=>h2 (of_decide_eq_true e)),iN h2];by_cases h3:4096<a.n
   ·rw [iP (show decide ((autP a).2.1>4096)=true from decide_eq_true h3),iP h3]
   ·rw [iN (show ¬decide ((autP a).2.1>4096)=true from fun e=>h3 (of_decide_eq_true e)),iN h3,show y1v (autP a).2.2.1 (autP a).2.1=some (ym a.n none a.ms) from ybo hms,yOb];by_cases h4:(ym a.n none a.ms != 0)=true
    ·rw [iP h4,iP h4]
    ·rw [iN h4,iN h4,he];rfl
abbrev Inc(xs:LI):Prop:=xs.Pairwise (· < ·)
theorem yfJ{i j:Nat}(h:i+j<9223372036854775808):W ((IntKind.u64.wrap (W ((i:Int)+(j:Int)))).fdiv (2 ^ (min (1:Int).toNat 64)))=(((i+j)/2:Nat):Int):=by
 rw [W_of (x:=(i:Int)+j) (by omega) (by omega),IntWalk.u64_in _ (by omega),show(2:Int) ^ (min (1:Int).toNat 64)=2 from rfl,Int.fdiv_eq_ediv_of_nonneg _ (by omega),W_of (by omega) (by omega)];omega
theorem yjG(x y:Int):y6J x y=some (decide (x<y)):=by
 rw [y6J,show y1J x=some false by rw [y1J];simp,yOb,iN (by simp),yOb,Bool.false_or]
theorem ykx{xs:LI}{t:Int}(hl:xs.length<4294967296)(hs:Inc xs):∀(f i j:Nat),j≤i+f→i≤j→j≤xs.length→(∀k (h:k<xs.length),k<i→xs[k]<t)→(∀k (h:k<xs.length),j≤k→t≤xs[k])→
  ∃p:Nat,iterF (y1g xs t) (f+1) ((j:Int),(i:Int))=some (p:Int)∧p≤xs.length∧(∀k (h:k<xs.length),k<p→xs[k]<t)∧(∀k (h:k<xs.length),p≤k→t≤xs[k]):=by
 intro f
 induction f with
 | zero=>
  intro i j h1 h2 h3 h4 h5;refine⟨i,?_,by omega,h4,fun k h hk=>h5 k h (by omega)⟩;rw [yi,y1g,iN (by simp;omega)]
 | succ f ih=>
  intro i j h1 h2 h3 h4 h5;rw [yi,y1g];dsimp only;by_cases hij:i<j
  ·have hm:(i+j)/2<xs.length:=by omega
   rw [iP (by simp;omega),yfJ (by omega),ya hm,yOb,yjG,yOb];have mono:∀(a b:Nat) (ha:a<xs.length) (hb:b<xs.length),a≤b→xs[a]≤xs[b]:=fun a b ha hb hab=>by
    rcases Nat.lt_or_ge a b with h|h
    ·exact Int.le_of_lt (yPg.1 hs a b ha hb h)
    ·have:a=b:=by omega
     subst this;exact Int.le_refl _
   by_cases hc:xs[(i+j)/2]<t
   ·rw [iP (decide_eq_true hc),show(((i+j)/2:Nat):Int)+1=(((i+j)/2+1:Nat):Int) by omega,W_nat (by omega)];exact ih _ j (by omega) (by omega) h3 (fun k h hk=>by have:=mono k _ h hm (by omega);omega) h5
   ·rw [iN (by simpa using hc)];exact ih i _ (by omega) (by omega) (by omega) h4 (fun k h hk=>by have:=mono _ k hm h hk;omega)
  ·rw [iN (by simp;omega)];exact⟨i,rfl,by omega,h4,fun k h hk=>h5 k h (by omega)⟩
theorem y4a{xs:LI}{t:Int}(hl:xs.length<4294967296)(hs:Inc xs):yp xs t=some (hasB xs t):=by
 obtain⟨p,hp,hle,hlo,hhi⟩:=ykx (t:=t) hl hs xs.length 0 xs.length (by omega) (by omega) (by omega) (fun k h hk=>absurd hk (by omega)) (fun k h hk=>absurd hk (by omega));have hi:iter (y1g xs t) ((xs.length:Int),0)=some (p:Int):=y5x (by omega) hp;rw [yp,y4W,hi,yOb];by_cases hlt:p<xs.length
 ·rw [iP (by simpa using hlt),ya hlt,yOb];by_cases he:xs[p]=t
  ·rw [iP (by simpa using he)];show some true=_;rw [yd.2 (he▸yGm hlt)]
  ·rw [iN (by simpa using he),yOb,show y4I xs[p]=some false by rw [y4I];simp,yOb,iN (by simp)];show some false=_;rw [y7n.2];intro hm;obtain⟨k,hk,hk2⟩:=yGo hm;rcases Nat.lt_trichotomy k p with h|h|h
   ·have:=hlo k hk h;omega
   ·subst h;exact he hk2
   ·have:=hhi p hlt (yNr _);have:=yPg.1 hs p k hlt hk h;omega
 ·rw [iN (by simpa using hlt)];show some false=_;rw [y7n.2];intro hm;obtain⟨k,hk,hk2⟩:=yGo hm;have:=hlo k hk (by omega);omega
theorem y7X{n:Int}:∀{p:Option Int} {xs:LI},xs.Pairwise (· < ·)→(∀x∈xs,0≤x∧x<n)→(∀q,p=some q→∀x∈xs,q<x)→ym n p xs=0
 | _,[],_,_,_=>rfl
 | p,x::xs,h,hr,hp=>by
  obtain⟨h1,h2⟩:=yPc.1 h;have h3:=hr x (yMc ..);rw [ym,iN (by omega),iN ?_]
  ·exact y7X h2 (fun y hy=>hr y (yMm _ hy)) (fun q hq y hy=>by cases hq;exact h1 y hy)
  ·rintro ⟨q,hq,hle⟩;have:=hp q hq x (yMc ..);omega
theorem yew{al:LI}{n:Int}:∀{p:Option Ed} {es:List Ed},y7W es→(∀x∈es,0≤x.f∧x.f<n∧0≤x.t∧x.t<n∧hasB al x.e=true)→(∀q,p=some q→∀x∈es,edLt q x)→edErr al n p es=0
 | _,[],_,_,_=>rfl
 | p,x::xs,h,hr,hp=>by
  obtain⟨h1,h2⟩:=yPc.1 h;have h3:=hr x (yMc ..);rw [edErr,iN (by omega),iN (by rw [h3.2.2.2.2];simp),iN ?_]
  ·exact yew h2 (fun y hy=>hr y (yMm _ hy)) (fun q hq y hy=>by cases hq;exact h1 y hy)
  ·rintro ⟨q,hq,hle⟩;have:=hp q hq x (yMc ..);unfold edLt at this;omega
theorem ygj(a:AutT):autP (toAut a)=a:=by
 obtain⟨x,y,z,es⟩:=a;simp only [autP,toAut,List.map_map];rw [show (edP∘toEd)=id from rfl,List.map_id]
structure Right (a:AutT) (n:Nat):Prop where
 nn:a.2.1=(n:Int)
 nl:n≤4096
 ali:Inc a.1
 alr:∀x∈a.1,0≤x∧x<32
 msi:Inc a.2.2.1
 msr:∀x∈a.2.2.1,0≤x∧x<(n:Int)
 es:∀x∈a.2.2.2,0≤x.1∧x.1<(n:Int)∧0≤x.2.2∧x.2.2<(n:Int)∧x.2.1∈a.1
 so:a.2.2.2.Pairwise fun x y=>x.1<y.1∨(x.1=y.1∧x.2.1<y.2.1)
 l1:a.1.length≤1000000
 l2:a.2.2.1.length≤1000000
 l3:a.2.2.2.length≤1000000
namespace Right
variable{a:AutT}{n:Nat}
theorem sorted(h:Right a n):y7W (a.2.2.2.map toEd):=by
 unfold y7W;rw [List.pairwise_map];exact h.so
theorem ein(h:Right a n):∀x∈a.2.2.2.map toEd,0≤x.f∧x.f<(n:Int)∧0≤x.t∧x.t<(n:Int):=fun x hx=>by
 obtain⟨y,hy,rfl⟩:=List.mem_map.1 hx;have:=h.es y hy;exact⟨this.1,this.2.1,this.2.2.1,this.2.2.2.1⟩
theorem evs(h:Right a n):EvEs (a.2.2.2.map toEd):=fun x hx=>by
 obtain⟨y,hy,rfl⟩:=List.mem_map.1 hx;exact h.alr _ (h.es y hy).2.2.2.2
theorem err(h:Right a n):(toAut a).err=0:=by
 have h1:ym 32 none (toAut a).al=0:=y7X h.ali h.alr (fun q hq=>by cases hq);have hn:(toAut a).n=n:=h.nn;have h2:ym (toAut a).n none (toAut a).ms=0:=by rw [hn];exact y7X h.msi h.msr (fun q hq=>by cases hq)
 have h3:edErr (toAut a).al (toAut a).n none (toAut a).es=0:=by
  rw [hn];refine yew h.sorted (fun x hx=>?_) (fun q hq=>by cases hq);obtain⟨y,hy,rfl⟩:=List.mem_map.1 hx;have:=h.es y hy;exact⟨this.1,this.2.1,this.2.2.1,this.2.2.2.1,yd.2 this.2.2.2.2⟩
 have:=h.nl;unfold Aut.err;rw [h1,if_neg (by decide),if_neg (by rw [hn];omega),if_neg (by rw [hn];omega),h2,if_neg (by decide),h3]
theorem check(h:Right a n):y4c a=some 0:=by
 have h1:=h.l1;have h2:=h.l2;have h3:=h.l3;have:=yis (a:=toAut a) (by simp [toAut];omega) (by simp [toAut];omega) (by simp [toAut];omega);rwa [ygj,h.err] at this
end Right
theorem y5Z{n:Nat}:∀{xs:List Int} {lo:Int},Inc xs→(∀x∈xs,lo≤x∧x<(n:Int))→0≤lo→xs.length≤n-lo.toNat
 | [],_,_,_,_=>yZl _
 | x::xs,lo,h,hr,h0=>by
  obtain⟨h1,h2⟩:=List.pairwise_cons.1 h;have hx:=hr x (List.mem_cons_self ..);have:=y5Z (n:=n) (lo:=x+1) h2 (fun y hy=>⟨by have:=h1 y hy;omega,(hr y (List.mem_cons_of_mem _ hy)).2⟩) (by omega);rw [List.length_cons];omega
theorem y7b{α:Type}(a:α)(us:List α):idx (a::us) 0=some a:=rfl
theorem y9L{α:Type}(a:α)(us:List α):slc (a::us) 1 ((a::us).length:Int)=some us:=by
 rw [slc,if_pos ⟨by omega,by simp;omega,by omega⟩];simp
def Alp(xs:List Int):Prop:=Inc xs∧∀x∈xs,0≤x∧x<32
theorem Alp.len{xs:List Int}(h:Alp xs):xs.length≤32:=by
 have:=y5Z (n:=32) (lo:=0) h.1 h.2 (Int.le_refl _);simpa using this
def keyK(t:List Int):ByteArray:=⟨(keyB t).toArray⟩
theorem y6a :∀(N:Nat) (l:List Nat),l.Nodup→(∀x∈l,x<N)→l.length≤N
 | 0,[],_,_=>Nat.le_refl _
 | 0,x::l,_,h=>absurd (h x (List.mem_cons_self ..)) (by omega)
 | N+1,l,hn,h=>by
  by_cases hm:N∈l
  ·have h1:=y6a N (l.erase N) (hn.erase N) (fun x hx=>by
    have h2:=(hn.mem_erase_iff).1 hx;have:=h x h2.2;omega)
   rw [List.length_erase_of_mem hm] at h1;omega
  ·have h1:=y6a N l hn (fun x hx=>by
    have:=h x hx;have:x≠N:=fun e=>hm (e▸hx);omega)
   omega
abbrev Kno :=List (ByteArray×Int)
section
variable{l:List AutT}{ev:List Int}{i j:Nat}{kn:Kno}{T:List (List Int)}{E:List (Int×Int×Int)}
theorem yjH(he:Inc ev)(hj:j<ev.length):∀x∈ev.take j,x<ev[j]:=fun x hx=>by
 obtain⟨k,hk,rfl⟩:=List.getElem_of_mem hx;rw [List.length_take] at hk;rw [List.getElem_take];exact List.pairwise_iff_getElem.1 he k j (by omega) hj (by omega)
end
theorem y7c{es:List Ed}{tg:List Int}:∀{k:Nat} {x:Int},y1u es tg k x↔ ∃y∈tg,y1u es [y] k x
 | 0,x=>by simp [y1u]
 | k+1,x=>by
  constructor
  ·rintro ⟨e,he,h1,h2⟩;obtain⟨y,hy,h3⟩:=y7c.1 h2;exact⟨y,hy,e,he,h1,h3⟩
  ·rintro ⟨y,hy,e,he,h1,h2⟩;exact⟨e,he,h1,y7c.2 ⟨y,hy,h2⟩⟩
theorem y1u.snoc{es:List Ed}:∀{k:Nat} {x:Int} {e:Ed},e∈es→y1u es [e.f] k x→y1u es [e.t] (k+1) x
 | 0,x,e,he,h=>⟨e,he,(yMs.1 h).symm,yMs.2 rfl⟩
 | k+1,x,e,he,⟨y,hy,h1,h2⟩=>⟨y,hy,h1,h2.snoc he⟩
theorem ybp{es:List Ed}{perm:Ed→Bool}:∀{u:List Int} {s t:Int},Leads es perm s u t→y1u es [t] u.length s
 | [],s,t,h=>yMs.2 h
 | e::u,s,t,⟨x,hx,h1,h2,h3,h4⟩=>⟨x,hx,h1,ybp h4⟩
theorem y9v{es:List Ed}{perm:Ed→Bool}(hp:∀x∈es,perm x=true){t:Int}:∀{k:Nat} {s:Int},y1u es [t] k s→∃u:List Int,u.length=k∧Leads es perm s u t
 | 0,s,h=>⟨[],rfl,yMs.1 h⟩
 | k+1,s,⟨x,hx,h1,h2⟩=>by
  obtain⟨u,h3,h4⟩:=y9v hp h2;exact⟨x.e::u,by rw [List.length_cons,h3],x,hx,h1,rfl,hp x hx,h4⟩
theorem yit(n:Nat):Inc (allL n):=by
 unfold allL Inc;rw [List.pairwise_map];exact List.Pairwise.imp (fun {a b} h=>by omega) List.pairwise_lt_range
theorem yjI(n:Nat):∀x∈allL n,0≤x∧x<(n:Int):=by
 intro x hx;obtain⟨i,hi,rfl⟩:=List.mem_map.1 hx;have:=List.mem_range.1 hi;omega
theorem yex{n:Nat}{s:Int}(h0:0≤s)(h1:s<n):hasB (allL n) s=true:=by
 rw [yd];exact List.mem_map.2 ⟨s.toNat,List.mem_range.2 (by omega),by omega⟩
structure PathSays (es:List Ed) (tg:List Int) (x:Int) (r:List Int×Bool×Int):Prop where
 err:r.2.2=0
 no:r.2.1=false→r.1= []∧∀k,¬y1u es tg k x
 yes:r.2.1=true→y1u es tg r.1.length x∧∀j,j<r.1.length→¬y1u es tg j x
theorem yjJ{p:AutT}{n:Nat}(h:Right p n){x:Int}(x0:0≤x)(x1:x<(n:Int)){tg:List Int}(hi:Inc tg)(hr:∀y∈tg,0≤y∧y<(n:Int))(hl:tg.length≤1000000):
  ∃r,y4H p x tg (allL n)=some r∧PathSays (p.2.2.2.map toEd) tg x r:=by
 have hn:=h.nl;have hN:(toAut p).n=n:=h.nn;have hpe:y4t (toAut p) x tg (allL n)=0:=by
  unfold y4t;rw [h.err,hN,if_neg (by omega),y7X hi hr (fun q hq=>by cases hq),y7X (yit n) (yjI n) (fun q hq=>by cases hq)];rfl
 have hall:=yaf n;have hp:∀e∈(p.2.2.2.map toEd),(fun e:Ed=>hasB (allL n) e.t) e=true:=fun e he=>by
  have:=h.ein e he;exact yex this.2.2.1 this.2.2.2
 have hpa:y6r (toAut p) x tg (allL n)=pathF n (p.2.2.2.map toEd) (hasB tg) (fun e=>hasB (allL n) e.t) x.toNat:=by
  unfold y6r;rw [if_pos (yex x0 x1),hN,Int.toNat_natCast];rfl
 have hs:=ygg (es:=p.2.2.2.map toEd) (perm:=fun e=>hasB (allL n) e.t) (want:=hasB tg) (from_:=x.toNat) (n:=n) h.sorted (fun e he=>(h.ein e he).2.2) h.evs (by omega);rw [Int.toNat_of_nonneg x0] at hs;have hc:p.1.length≤1000000∧p.2.2.1.length≤1000000∧p.2.2.2.length≤1000000∧tg.length≤1000000∧(allL n).length≤1000000:=⟨h.l1,h.l2,h.l3,hl,by omega⟩;rw [y4H,if_pos hc,if_pos hpe,hpa];generalize pathF n (p.2.2.2.map toEd) (hasB tg) (fun e=>hasB (allL n) e.t) x.toNat=r at hs ⊢;cases r with
 | none=>
  refine⟨_,rfl,rfl,fun _=>⟨rfl,fun k hk=>?_⟩,fun e=>by cases e⟩;obtain⟨y,hy,h1⟩:=y7c.1 hk;obtain⟨u,_,h2⟩:=y9v hp h1;have h3:=hs u y h2;rw [yd.2 hy] at h3;cases h3
 | some w=>
  refine⟨_,rfl,rfl,fun e=>(by cases e),fun _=>⟨?_,fun j hj hk=>?_⟩⟩
  ·obtain ⟨t,h1,h2⟩:=hs.leads;exact y7c.2 ⟨t,yd.1 h2,ybp h1⟩
  ·obtain ⟨y,hy,h1⟩:=y7c.1 hk;obtain⟨u,hu,h2⟩:=y9v hp h1;have h3:=hs.le u y h2 (yd.2 hy) (yZl _);have h4:=yio hs.ev (h2.evs h.evs) h3;dsimp only at hj;omega
abbrev edsOf(p:AutT):List Ed:=p.2.2.2.map toEd
theorem sprd{p:AutT}{n:Nat}(hR:Right p n){tg:List Int}(hl:tg.length≤1000000)(hr:∀s∈tg,0≤s∧s<(n:Int)):y4V p tg=some (y2V n (edsOf p) tg):=by
 have hnl:=hR.nl;have:=yhg (a:=p.1) (n:=n) (m:=p.2.2.1) (es:=p.2.2.2) (tg:=tg) (by omega) hR.l3 hl (fun x hx=>by have:=hR.es x hx;exact⟨this.1,this.2.1,this.2.2.1,this.2.2.2.1⟩) hr;rw [←hR.nn] at this;exact this
theorem yky{p:AutT}{n:Nat}(hR:Right p n){tg:List Int}(hr:∀s∈tg,0≤s∧s<(n:Int)):(y2V n (edsOf p) tg).length=n:=by
 have hnl:=hR.nl;have hB:=BOk.start n tg (by omega) hr;have h:∀(f:Nat) (ds q:List Int),BOk n ds q→(bwd (inL (edsOf p)) f ds q).length=n:=by
  intro f
  induction f with
  | zero=>intro ds q h;exact h.len
  | succ f ih=>
   intro ds q h;cases q with
   | nil=>exact h.len
   | cons s q=>
    rw [bwd];have hs:=h.qr s (List.mem_cons_self ..);have h0:=h.nn s (List.mem_cons_self ..);exact ih _ _ (BOk.fold (show s.toNat<n by omega) (inL (edsOf p) s.toNat) h.pop h0 (yaM hR.ein)).1
 exact h _ _ _ hB
theorem yiu(k:Nat)(p:Nat→Bool):Inc (((List.range k).filter p).map fun(i:Nat)=>(i:Int)):=by
 unfold Inc;rw [List.pairwise_map];refine List.Pairwise.filter _ ?_;exact List.Pairwise.imp (fun {a b} h=>by omega) List.pairwise_lt_range
theorem yjK(k:Nat)(p:Nat→Bool):∀x∈((List.range k).filter p).map fun(i:Nat)=>(i:Int),0≤x∧x<(k:Int):=by
 intro x hx;obtain⟨i,hi,rfl⟩:=List.mem_map.1 hx;have:=List.mem_range.1 (List.mem_filter.1 hi).1;omega
theorem yiv{p:AutT}{n:Nat}(hR:Right p n){x:Int}(hx:x<(n:Int)){tg:List Int}{r:List Int×Bool×Int}(h:y4H p x tg (allL n)=some r):y5D p x tg=some (r.1,r.2.1):=by
 have:=hR.nl;have hb:=yjF (a:=p.1) (n:=n) (m:=p.2.2.1) (es:=p.2.2.2) (by omega);rw [←hR.nn] at hb;rw [y5D,hR.nn,if_neg (by simp;omega),show y5X p=some (allL n) from hb,yOb,h];rfl
section
variable{κ β:Type}[DecidableEq κ][BEq κ][LawfulBEq κ]
theorem y7Y(p:κ×β)(m:List (κ×β))(q:κ):kget (p::m) q=if q=p.1 then some p.2 else kget m q:=by
 unfold kget;by_cases h:q=p.1
 ·rw [if_pos h,List.find?_cons_of_pos (by simp [h])];rfl
 ·rw [if_neg h,List.find?_cons_of_neg (by simp [h])]
omit [DecidableEq κ] [LawfulBEq κ] in
theorem yiw(k:κ)(v:β):kput [] k v= [(k,v)]:=by
 unfold kput;rw [if_neg (by simp)];rfl
theorem yhh(p:κ×β)(m:List (κ×β))(k:κ)(v:β):kput (p::m) k v=if k=p.1 then(k,v)::m else p::kput m k v:=by
 unfold kput;rw [List.map_cons,y7L];by_cases h:k=p.1
 ·subst h;rw [if_pos (by simp),if_pos (by simp),if_pos rfl];rfl
 ·have e:(if (k==p.1)=true then 0 else kidx (m.map (·.1)) k+1)=kidx (m.map (·.1)) k+1:=if_neg (by simp [h]);rw [e,if_neg h];by_cases h2:kidx (m.map (·.1)) k<m.length
  ·rw [if_pos h2,if_pos (by rw [List.length_cons];omega),List.set_cons_succ]
  ·rw [if_neg h2,if_neg (by rw [List.length_cons];omega)];rfl
theorem y6b{k q:κ}{v:β}:∀(m:List (κ×β)),kget (kput m k v) q=if q=k then some v else kget m q
 | []=>by rw [yiw,y7Y]
 | p::m=>by
  rw [yhh];by_cases h:k=p.1
  ·rw [if_pos h,y7Y,y7Y];by_cases h2:q=k
   ·rw [if_pos h2,if_pos h2]
   ·rw [if_neg h2,if_neg h2,if_neg (by rw [←h];exact h2)]
  ·rw [if_neg h,y7Y,y7Y,y6b m];by_cases h2:q=p.1
   ·rw [if_pos h2,if_neg (by rw [h2];exact fun e=>h e.symm),if_pos h2]
   ·rw [if_neg h2,if_neg h2]
end
def y6G(B:Nat):List Int→Nat
 | []=>0
 | x::t=>x.toNat+B*y6G B t
theorem yco{B:Nat}:∀{s t:List Int},s.length=t.length→(∀x∈s,0≤x∧x<B)→(∀x∈t,0≤x∧x<B)→y6G B s=y6G B t→s=t
 | [],[],_,_,_,_=>rfl
 | [],_::_,h,_,_,_=>by simp at h
 | _::_,[],h,_,_,_=>by simp at h
 | x::s,y::t,h,hs,ht,e=>by
  have h1:=hs x (List.mem_cons_self ..);have h2:=ht y (List.mem_cons_self ..);simp only [y6G] at e;have e2:x.toNat=y.toNat:=by
   have h3:=congrArg (· % B) e;simp only [Nat.add_mul_mod_self_left] at h3;rwa [Nat.mod_eq_of_lt (by omega),Nat.mod_eq_of_lt (by omega)] at h3
  have hxy:x=y:=by omega
  subst hxy;have e3:B*y6G B s=B*y6G B t:=by omega
  rw [yco (s:=s) (t:=t) (by simpa using h) (fun z hz=>hs z (List.mem_cons_of_mem _ hz)) (fun z hz=>ht z (List.mem_cons_of_mem _ hz)) (Nat.eq_of_mul_eq_mul_left (by omega) e3)]
theorem ydu{B:Nat}:∀{t:List Int},(∀x∈t,0≤x∧x<B)→y6G B t<B ^ t.length
 | [],_=>by simp [y6G]
 | x::t,h=>by
  have h1:=h x (List.mem_cons_self ..);have h2:=ydu (t:=t) (fun z hz=>h z (List.mem_cons_of_mem _ hz));rw [List.length_cons,Nat.pow_succ,y6G];have h3:B*(y6G B t+1)≤B*B ^ t.length:=Nat.mul_le_mul_left B h2;rw [Nat.mul_add,Nat.mul_one] at h3;rw [Nat.mul_comm (B ^ t.length) B];omega
end
section
open Go.Proofs.Tryz
abbrev anyE :Ed→Bool:=fun _=>true
structure Num (es:List Ed) (n:Nat):Prop where
 so:es.Pairwise fun x y=>x.f<y.f∨(x.f=y.f∧x.e<y.e)
 rng:∀x∈es,0≤x.f∧x.f<(n:Int)∧0≤x.t∧x.t<(n:Int)∧0≤x.e∧x.e<32
 cov:∀k:Nat,0<k→k<n→∃x∈es,x.t=(k:Int)
 ear:∀i (hi:i<es.length) (k:Int),0<k→k<es[i].t→∃j,∃hj:j<es.length,j<i∧es[j].t=k
 fst:∀i (hi:i<es.length),(∀j (hj:j<es.length),j<i→es[j].t≠es[i].t)→es[i].t=0∨es[i].f<es[i].t
theorem yag{es:List Ed}{k:Int}{x:Ed}(h:es.find? (fun y=>y.t==k)=some x):∃i,∃hi:i<es.length,es[i]=x∧x.t=k∧∀j (hj:j<es.length),j<i→es[j].t≠k:=by
 rw [List.find?_eq_some_iff_getElem] at h;obtain⟨h1,i,hi,h2,h3⟩:=h;refine⟨i,hi,h2,by simpa using h1,fun j hj hji e=>?_⟩;have:=h3 j hji;simp [e] at this
def wordN(es:List Ed):Nat→Int→LI
 | 0,_=> []
 | f+1,k=>if k≤0 then [] else match es.find? (fun y=>y.t==k) with
  | none=> []
  | some x=>wordN es f x.f++[x.e]
def wN(es:List Ed)(k:Int):LI:=wordN es k.toNat k
namespace Num
variable{es:List Ed}{n:Nat}
theorem find(h:Num es n){k:Nat}(h0:0<k)(h1:k<n):∃x,es.find? (fun y=>y.t==(k:Int))=some x∧x∈es∧x.t=(k:Int)∧0≤x.f∧x.f<(k:Int):=by
 obtain⟨y,hy,ht⟩:=h.cov k h0 h1;cases hf:es.find? (fun y=>y.t==(k:Int)) with
 | none=>exact absurd (by simpa using ht) (by simpa using List.find?_eq_none.1 hf y hy)
 | some x=>
  obtain⟨i,hi,e1,e2,e3⟩:=yag hf;have hm:x∈es:=e1▸yGm hi;refine⟨x,rfl,hm,e2,(h.rng x hm).1,?_⟩;have:=h.fst i hi (fun j hj hji=>by rw [e1,e2];exact e3 j hj hji);rw [e1,e2] at this;omega
theorem fuel(h:Num es n):∀(f:Nat) (k:Int),k<(n:Int)→k.toNat≤f→wordN es f k=wN es k:=by
 have key:∀(m:Nat) (k:Int),k.toNat=m→k<(n:Int)→∀f g,m≤f→m≤g→wordN es f k=wordN es g k:=by
  intro m
  induction m using Nat.strongRecOn with
  | ind m ih=>
   intro k hk hn f g hf hg;by_cases h0:k≤0
   ·have e:∀f,wordN es f k= []:=fun f=>by
     cases f with
     | zero=>rfl
     | succ f=>rw [wordN,if_pos h0]
    rw [e,e]
   ·obtain ⟨f,rfl⟩:∃f',f=f'+1:=⟨f-1,by omega⟩;obtain⟨g,rfl⟩:∃g',g=g'+1:=⟨g-1,by omega⟩;obtain⟨k',rfl⟩:∃k':Nat,k=(k':Int):=⟨k.toNat,by omega⟩;obtain⟨x,hx,_,ht,hf0,hfk⟩:=h.find (k:=k') (by omega) (by omega);rw [wordN,wordN,if_neg h0,if_neg h0,hx];dsimp only;rw [ih x.f.toNat (by omega) x.f rfl (by omega) f g (by omega) (by omega)]
 intro f k hn hf;exact key k.toNat k rfl hn f k.toNat hf (Nat.le_refl _)
theorem step(h:Num es n){k:Nat}(h0:0<k)(h1:k<n):∃x∈es,es.find? (fun y=>y.t==(k:Int))=some x∧x.t=(k:Int)∧0≤x.f∧x.f<(k:Int)∧wN es (k:Int)=wN es x.f++[x.e]:=by
 obtain⟨x,hx,hm,ht,hf0,hfk⟩:=h.find h0 h1;refine⟨x,hm,hx,ht,hf0,hfk,?_⟩;obtain⟨k,rfl⟩:∃k',k=k'+1:=⟨k-1,by omega⟩;unfold wN;rw [Int.toNat_natCast,wordN,if_neg (by omega),hx];dsimp only;rw [h.fuel k x.f (by omega) (by omega)];rfl
theorem zero :wN es 0= []:=rfl
theorem evs(h:Num es n):∀(k:Nat),k<n→Evs (wN es (k:Int)):=by
 intro k
 induction k using Nat.strongRecOn with
 | ind k ih=>
  intro hk;by_cases h0:k=0
  ·subst h0;exact Evs.nil
  ·obtain ⟨x,hm,_,_,hf0,hfk,e⟩:=h.step (k:=k) (by omega) hk;rw [e];have hx:=h.rng x hm;have:=ih x.f.toNat (by omega) (by omega);rw [Int.toNat_of_nonneg hf0] at this;exact this.snoc hx.2.2.2.2.1 hx.2.2.2.2.2
theorem leads(h:Num es n):∀(k:Nat),k<n→Leads es anyE 0 (wN es (k:Int)) (k:Int):=by
 intro k
 induction k using Nat.strongRecOn with
 | ind k ih=>
  intro hk;by_cases h0:k=0
  ·subst h0;rfl
  ·obtain ⟨x,hm,_,ht,hf0,hfk,e⟩:=h.step (k:=k) (by omega) hk;rw [e,←ht];have:=ih x.f.toNat (by omega) (by omega);rw [Int.toNat_of_nonneg hf0] at this;exact this.snoc hm rfl rfl
theorem mono(h:Num es n):∀(k' k:Nat),k<k'→k'<n→wval (wN es (k:Int))<wval (wN es (k':Int)):=by
 intro k'
 induction k' using Nat.strongRecOn with
 | ind k' ih=>
  intro k hkk hk';obtain⟨x',hm',hf',ht',hf0',hfk',e'⟩:=h.step (k:=k') (by omega) hk';have hx':=h.rng x' hm';have hw':0≤wval (wN es x'.f):=by
   have:=h.evs x'.f.toNat (by omega);rw [Int.toNat_of_nonneg hf0'] at this;exact y9u _ this
  rw [e',y3B];by_cases h0:k=0
  ·subst h0;show wval []<_;show(0:Int)<_;omega
  ·obtain ⟨x,hm,hf,ht,hf0,hfk,e⟩:=h.step (k:=k) (by omega) (by omega);have hx:=h.rng x hm;rw [e,y3B];obtain⟨i,hi,a1,a2,a3⟩:=yag hf;obtain⟨i',hi',b1,b2,b3⟩:=yag hf';obtain⟨j,hj,hji,hjt⟩:=h.ear i' hi' (k:Int) (by omega) (by rw [b1,b2];omega);have hij:i≤j:=Nat.le_of_not_lt fun hlt=>a3 j hj hlt hjt;have hlt:=List.pairwise_iff_getElem.1 h.so i i' hi hi' (by omega);rw [a1,b1] at hlt;rcases hlt with hlt|⟨hlt,hle⟩
   ·have:=ih x'.f.toNat (by omega) x.f.toNat (by omega) (by omega);rw [Int.toNat_of_nonneg hf0,Int.toNat_of_nonneg hf0'] at this;omega
   ·rw [hlt];omega
theorem least(h:Num es n):∀(u:List Int) (k:Int),Leads es anyE 0 u k→0≤k→k<(n:Int)→wval (wN es k)≤wval u:=by
 intro u
 induction u using y8K with
 | h0=>
  intro k hk _ _;have hk:(0:Int)=k:=hk;rw [←hk];exact Int.le_refl _
 | h1 u e ih=>
  intro k hk h0 h1;obtain⟨x,hm,hl,he,ht,_⟩:=hk.of_snoc;have hx:=h.rng x hm;have hu:=ih x.f hl hx.1 hx.2.1;rw [y3B];have hE:EvEs es:=fun y hy=>by have:=h.rng y hy;omega
  have hun:=y9u u (Leads.evs hE hl);by_cases hz:k=0
  ·rw [hz];show(0:Int)≤_;omega
  ·obtain ⟨k,rfl⟩:∃k':Nat,k=(k':Int):=⟨k.toNat,by omega⟩;obtain⟨y,hym,hyf,hyt,hy0,hyk,e'⟩:=h.step (k:=k) (by omega) (by omega);have hy:=h.rng y hym;rw [e',y3B];obtain⟨i,hi,a1,a2,a3⟩:=yag hyf;obtain⟨j,hj,hjx⟩:=List.getElem_of_mem hm;have hij:i≤j:=Nat.le_of_not_lt fun hlt=>a3 j hj hlt (by rw [hjx,ht]);by_cases hE2:i=j
   ·subst hE2;rw [a1] at hjx;subst hjx;omega
   ·have hlt:=List.pairwise_iff_getElem.1 h.so i j hi hj (by omega);rw [a1,hjx] at hlt;rcases hlt with hlt|⟨hlt,hle⟩
    ·have:=h.mono x.f.toNat y.f.toNat (by omega) (by omega);rw [Int.toNat_of_nonneg hy0,Int.toNat_of_nonneg hx.1] at this;omega
    ·rw [hlt];omega
end Num
end
section
open Go.Proofs.Tryz Go Go.RowKit
noncomputable section
structure Disc {τ:Type} (st:τ→Int→Option τ) (al:LI) (T:List τ) (E:List (Int×Int×Int)):Prop where
 nd:T.Nodup
 so:E.Pairwise fun x y=>x.1<y.1∨(x.1=y.1∧x.2.1<y.2.1)
 sn:∀x∈E,∃(a q:Nat) (t r:τ),x.1=(a:Int)∧x.2.2=(q:Int)∧T[a]? =some t∧T[q]? =some r∧x.2.1∈al∧st t x.2.1=some r
 ed:∀(a:Nat) (t:τ) (e:Int) (r:τ),T[a]? =some t→e∈al→st t e=some r→∃q:Nat,((a:Int),e,(q:Int))∈E∧T[q]? =some r
 cov:∀k:Nat,0<k→k<T.length→∃x∈E,x.2.2=(k:Int)
 ear:∀n (hn:n<E.length) (k:Int),0<k→k<E[n].2.2→∃p,∃hp:p<E.length,p<n∧E[p].2.2=k
 fst:∀n (hn:n<E.length),(∀p (hp:p<E.length),p<n→E[p].2.2≠E[n].2.2)→E[n].2.2=0∨E[n].1<E[n].2.2
 evr:∀e∈al,0≤e∧e<32
section
variable{τ:Type}{st:τ→Int→Option τ}{al:LI}{T T':List τ}{E E':List (Int×Int×Int)}
theorem ycp{lt:τ→τ→Prop}(hir:∀a b,lt a b→lt b a→False):∀{xs ys:List τ},xs.Pairwise lt→ys.Pairwise lt→(∀x,x∈xs↔x∈ys)→xs=ys
 | [],[],_,_,_=>rfl
 | [],y::ys,_,_,h=>by have:=(h y).2 (yMc ..);cases this
 | x::xs,[],_,_,h=>by have:=(h x).1 (yMc ..);cases this
 | x::xs,y::ys,hx,hy,h=>by
  obtain⟨x1,x2⟩:=yPc.1 hx;obtain⟨y1,y2⟩:=yPc.1 hy;have hxy:x=y:=by
   rcases yMo.1 ((h x).1 (yMc ..)) with e|e
   ·exact e
   ·rcases yMo.1 ((h y).2 (yMc ..)) with e'|e'
    ·exact e'.symm
    ·exact (hir x y (x1 y e') (y1 x e)).elim
  subst hxy;have hne1:∀z∈xs,z≠x:=fun z hz e=>by subst e;exact hir z z (x1 z hz) (x1 z hz)
  have hne2:∀z∈ys,z≠x:=fun z hz e=>by subst e;exact hir z z (y1 z hz) (y1 z hz)
  rw [ycp hir x2 y2 fun z=>?_];constructor
  ·intro hz;exact(yMo.1 ((h z).1 (yMm _ hz))).resolve_left (hne1 z hz)
  ·intro hz;exact(yMo.1 ((h z).2 (yMm _ hz))).resolve_left (hne2 z hz)
end
theorem yah{α:Type}{xs:List α}{x:α}{n:Nat}(hn:n<(xs++[x]).length):(∃h:n<xs.length,(xs++[x])[n]=xs[n])∨(n=xs.length∧(xs++[x])[n]=x):=by
 by_cases h:n<xs.length
 ·exact .inl ⟨h,yGl h⟩
 ·have h2:n=xs.length:=by simp at hn;omega
  subst h2;exact .inr ⟨rfl,by rw [List.getElem_append_right (yNr _)];simp⟩
structure Fnd {τ:Type} (st:τ→Int→Option τ) (ev:LI) (i j:Nat) (T:List τ) (E:List (Int×Int×Int)):Prop where
 sn:∀x∈E,∃(a q:Nat) (t r:τ),x.1=(a:Int)∧x.2.2=(q:Int)∧T[a]? =some t∧T[q]? =some r∧st t x.2.1=some r
 ed:∀(a b:Nat) (t:τ) (e:Int) (r:τ),(a<i∨(a=i∧b<j))→T[a]? =some t→ev[b]? =some e→st t e=some r→∃q:Nat,((a:Int),e,(q:Int))∈E∧T[q]? =some r
 cov:∀k:Nat,0<k→k<T.length→∃x∈E,x.2.2=(k:Int)
 ear:∀n (hn:n<E.length) (k:Int),0<k→k<E[n].2.2→∃p,∃hp:p<E.length,p<n∧E[p].2.2=k
 fst:∀n (hn:n<E.length),(∀p (hp:p<E.length),p<n→E[p].2.2≠E[n].2.2)→E[n].2.2=0∨E[n].1<E[n].2.2
section
variable{τ:Type}{st:τ→Int→Option τ}{ev:LI}{i j:Nat}{T:List τ}{E:List (Int×Int×Int)}
theorem Fnd.skip(h:Fnd st ev i j T E){t:τ}{e:Int}(ht:T[i]? =some t)(he:ev[j]? =some e)(hs:st t e=none):Fnd st ev i (j+1) T E:=by
 refine⟨h.sn,fun a b t' e' r hab ha hb hst=>?_,h.cov,h.ear,h.fst⟩;by_cases hx:a=i∧b=j
 ·obtain ⟨rfl,rfl⟩:=hx;rw [ht] at ha;rw [he] at hb;cases ha;cases hb;rw [hs] at hst;cases hst
 ·exact h.ed a b t' e' r (by omega) ha hb hst
theorem Fnd.next(h:Fnd st ev i j T E)(hj:ev.length≤j):Fnd st ev (i+1) 0 T E:=
 ⟨h.sn,fun a b t e r hab ha hb hst=>h.ed a b t e r (by have:=(yGs.1 hb).1;omega) ha hb hst,h.cov,h.ear,h.fst⟩
theorem Fnd.edge(h:Fnd st ev i j T E){t r:τ}{e:Int}{q:Nat}(ht:T[i]? =some t)(he:ev[j]? =some e)(hs:st t e=some r)(hq:T[q]? =some r):Fnd st ev i (j+1) T (E++[((i:Int),e,(q:Int))]):=by
 have hql:=(yGs.1 hq).1;refine⟨fun x hx=>?_,fun a b t' e' r' hab ha hb hst=>?_,fun k h0 h1=>?_,fun n hn k h0 h1=>?_,fun n hn hf=>?_⟩
 ·rcases yMa.1 hx with hx|hx
  ·exact h.sn x hx
  ·rw [yMs.1 hx];exact⟨i,q,t,r,rfl,rfl,ht,hq,hs⟩
 ·by_cases hx:a=i∧b=j
  ·obtain ⟨rfl,rfl⟩:=hx;rw [ht] at ha;rw [he] at hb;cases ha;cases hb;rw [hs] at hst;cases hst;exact⟨q,yMr _ (yMs.2 rfl),hq⟩
  ·obtain ⟨q',g1,g2⟩:=h.ed a b t' e' r' (by omega) ha hb hst;exact⟨q',yMl _ g1,g2⟩
 ·obtain ⟨x,hx,h2⟩:=h.cov k h0 h1;exact⟨x,yMl _ hx,h2⟩
 ·rcases yah hn with ⟨hn2,e2⟩|⟨hn2,e2⟩
  ·rw [e2] at h1;obtain⟨p,hp,h3,h4⟩:=h.ear n hn2 k h0 h1;exact⟨p,by simp;omega,h3,by rw [yGl hp];exact h4⟩
  ·rw [e2] at h1;dsimp only at h1;obtain⟨x,hx,h3⟩:=h.cov k.toNat (by omega) (by omega);obtain⟨p,hp,rfl⟩:=yGo hx;exact⟨p,by simp;omega,by omega,by rw [yGl hp,h3];omega⟩
 ·rcases yah hn with ⟨hn2,e2⟩|⟨hn2,e2⟩
  ·rw [e2];refine h.fst n hn2 fun p hp hpn=>?_;have:=hf p (by simp;omega) hpn;rwa [yGl hp,e2] at this
  ·rw [e2];dsimp only;by_cases hz:q=0
   ·left;omega
   ·exfalso;obtain⟨x,hx,h3⟩:=h.cov q (by omega) hql;obtain⟨p,hp,rfl⟩:=yGo hx;have:=hf p (by simp;omega) (by omega);rw [yGl hp,e2,h3] at this;exact this rfl
theorem Fnd.new(h:Fnd st ev i j T E){t r:τ}{e:Int}(hi:i<T.length)(ht:T[i]? =some t)(he:ev[j]? =some e)(hs:st t e=some r):Fnd st ev i (j+1) (T++[r]) (E++[((i:Int),e,(T.length:Int))]):=by
 have hup:∀{a:Nat} {u:τ},T[a]? =some u→(T++[r])[a]? =some u:=fun {a u} hu=>by rw [yAl (yGs.1 hu).1];exact hu
 have hnew:(T++[r])[T.length]? =some r:=by rw [yAr (yNr _)];simp
 have hto:∀x∈E,0≤x.2.2∧x.2.2<(T.length:Int):=fun x hx=>by
  obtain⟨a,q,u,v,_,h2,_,h4,_⟩:=h.sn x hx;have:=(yGs.1 h4).1;omega
 refine⟨fun x hx=>?_,fun a b t' e' r' hab ha hb hst=>?_,fun k h0 h1=>?_,fun n hn k h0 h1=>?_,fun n hn hf=>?_⟩
 ·rcases yMa.1 hx with hx|hx
  ·obtain ⟨a,q,u,v,h1,h2,h3,h4,h5⟩:=h.sn x hx;exact⟨a,q,u,v,h1,h2,hup h3,hup h4,h5⟩
  ·rw [yMs.1 hx];exact⟨i,T.length,t,r,rfl,rfl,hup ht,hnew,hs⟩
 ·have hal:a<T.length:=by omega
  rw [yAl hal] at ha;by_cases hx:a=i∧b=j
  ·obtain ⟨rfl,rfl⟩:=hx;rw [ht] at ha;rw [he] at hb;cases ha;cases hb;rw [hs] at hst;cases hst;exact⟨T.length,yMr _ (yMs.2 rfl),hnew⟩
  ·obtain ⟨q',g1,g2⟩:=h.ed a b t' e' r' (by omega) ha hb hst;exact⟨q',yMl _ g1,hup g2⟩
 ·by_cases hk:k<T.length
  ·obtain ⟨x,hx,h2⟩:=h.cov k h0 hk;exact⟨x,yMl _ hx,h2⟩
  ·have:k=T.length:=by simp at h1;omega
   subst this;exact⟨_,yMr _ (yMs.2 rfl),rfl⟩
 ·rcases yah hn with ⟨hn2,e2⟩|⟨hn2,e2⟩
  ·rw [e2] at h1;obtain⟨p,hp,h3,h4⟩:=h.ear n hn2 k h0 h1;exact⟨p,by simp;omega,h3,by rw [yGl hp];exact h4⟩
  ·rw [e2] at h1;dsimp only at h1;obtain⟨x,hx,h3⟩:=h.cov k.toNat (by omega) (by omega);obtain⟨p,hp,rfl⟩:=yGo hx;exact⟨p,by simp;omega,by omega,by rw [yGl hp,h3];omega⟩
 ·rcases yah hn with ⟨hn2,e2⟩|⟨hn2,e2⟩
  ·rw [e2];refine h.fst n hn2 fun p hp hpn=>?_;have:=hf p (by simp;omega) hpn;rwa [yGl hp,e2] at this
  ·rw [e2];dsimp only;right;omega
end
theorem Fnd.start{τ:Type}{st:τ→Int→Option τ}{ev:LI}{T:List τ}(h:T.length≤1):Fnd st ev 0 0 T []:=
 ⟨fun x hx=>(by cases hx),fun a b t e r hab=>by omega,fun k h0 h1=>by omega,fun n hn=>by simp at hn,fun n hn=>by simp at hn⟩
theorem Fnd.disc{τ:Type}{st:τ→Int→Option τ}{ev:LI}{T:List τ}{E:List (Int×Int×Int)}(h:Fnd st ev T.length 0 T E)(nd:T.Nodup)(so:E.Pairwise fun x y=>x.1<y.1∨(x.1=y.1∧x.2.1<y.2.1))(hal:∀x∈E,x.2.1∈ev)(evr:∀e∈ev,0≤e∧e<32):Disc st ev T E:=by
 refine⟨nd,so,fun x hx=>?_,fun a t e r ha he hs=>?_,h.cov,h.ear,h.fst,evr⟩
 ·obtain ⟨a,q,t,r,h1,h2,h3,h4,h5⟩:=h.sn x hx;exact⟨a,q,t,r,h1,h2,h3,h4,hal x hx,h5⟩
 ·obtain ⟨b,hb,hbe⟩:=yGo he;exact h.ed a b t e r (.inl (yGs.1 ha).1) ha (by rw [yGe hb,hbe]) hs
theorem yb4{u:Nat}(hu:u<100):(32:UInt8)∉dig2 u:=by
 have h:∀v:_root_.Fin 100,(32:UInt8)∉dig2 v.val:=by decide +kernel
 exact h ⟨u,hu⟩
theorem ybM{u v:Nat}(hu:u<100)(hv:v<100)(e:dig2 u=dig2 v):u=v:=by
 have h:∀v:_root_.Fin 100,((dig2 v.val).foldl (fun acc d=>10*acc+(d.toNat-48)) 0)=v.val:=by decide +kernel
 have h1:=h ⟨u,hu⟩;have h2:=h ⟨v,hv⟩;dsimp only at h1 h2;rw [e] at h1;omega
theorem yai{α:Type}{c:α}:∀{l1 l2 r1 r2:List α},c∉l1→c∉l2→l1++c::r1=l2++c::r2→l1=l2∧r1=r2
 | [],[],_,_,_,_,h=>⟨rfl,(List.cons.inj h).2⟩
 | [],b::l2,_,_,_,h2,h=>absurd (List.cons.inj h).1 (fun e=>h2 (e▸yMc ..))
 | a::l1,[],_,_,h1,_,h=>absurd (List.cons.inj h).1 (fun e=>h1 (e▸yMc ..))
 | a::l1,b::l2,_,_,h1,h2,h=>by
  obtain⟨e1,e2⟩:=List.cons.inj h;obtain⟨e3,e4⟩:=yai (fun hm=>h1 (yMm _ hm)) (fun hm=>h2 (yMm _ hm)) e2;exact⟨by rw [e1,e3],e4⟩
theorem yey :∀{t u:LI},(∀x∈t,0≤x∧x<100)→(∀x∈u,0≤x∧x<100)→keyB t=keyB u→t=u
 | [],[],_,_,_=>rfl
 | [],y::u,_,_,h=>by simp [keyB] at h
 | x::t,[],_,_,h=>by simp [keyB] at h
 | x::t,y::u,ht,hu,h=>by
  have h1:=ht x (yMc ..);have h2:=hu y (yMc ..);obtain⟨e1,e2⟩:=yai (yb4 (by omega)) (yb4 (by omega)) h;have e3:=ybM (u:=x.toNat) (v:=y.toNat) (by omega) (by omega) e1;rw [show x=y by omega,yey (fun z hz=>ht z (yMm _ hz)) (fun z hz=>hu z (yMm _ hz)) e2]
theorem yez{t u:LI}(ht:∀x∈t,0≤x∧x<100)(hu:∀x∈u,0≤x∧x<100)(h:keyK t=keyK u):t=u:=by
 refine yey ht hu ?_;have:=congrArg ByteArray.data h;simpa [keyK] using this
def mg(kp:Bool→Bool→Bool):LI→LI→LI
 | [],[]=> []
 | [],b::vs=>if kp false true=true then b::mg kp [] vs else mg kp [] vs
 | a::us,[]=>if kp true false=true then a::mg kp us [] else mg kp us []
 | a::us,b::vs=>if a<b then(if kp true false=true then a::mg kp us (b::vs) else mg kp us (b::vs)) else if b<a then(if kp false true=true then b::mg kp (a::us) vs else mg kp (a::us) vs) else(if kp true true=true then b::mg kp us vs else mg kp us vs)
termination_by us vs=>us.length+vs.length
theorem y9M{kp:Bool→Bool→Bool}{h:Int}{us vs us' vs' r:LI}{bu bv:Bool}(hr:Inc r∧∀x,x∈r↔((x∈us'∨x∈vs')∧kp (hasB us' x) (hasB vs' x)=true))
  (hu:∀x,x∈us↔(x=h∧bu=true)∨x∈us') (hv:∀x,x∈vs↔(x=h∧bv=true)∨x∈vs') (gu:∀x∈us',h<x) (gv:∀x∈vs',h<x) (hb:bu=true∨bv=true):
  Inc (if kp bu bv=true then h::r else r)∧∀x,x∈(if kp bu bv=true then h::r else r)↔((x∈us∨x∈vs)∧kp (hasB us x) (hasB vs x)=true):=by
 have e1:hasB us h=bu:=by
  rw [Bool.eq_iff_iff,yd,hu];exact⟨fun e=>e.elim (fun e=>e.2) (fun e=>by have:=gu _ e;omega),fun e=> .inl ⟨rfl,e⟩⟩
 have e2:hasB vs h=bv:=by
  rw [Bool.eq_iff_iff,yd,hv];exact⟨fun e=>e.elim (fun e=>e.2) (fun e=>by have:=gv _ e;omega),fun e=> .inl ⟨rfl,e⟩⟩
 have e3:∀x,x≠h→hasB us x=hasB us' x:=fun x hx=>by
  rw [Bool.eq_iff_iff,yd,yd,hu];exact⟨fun e=>e.elim (fun e=>absurd e.1 hx) id,.inr⟩
 have e4:∀x,x≠h→hasB vs x=hasB vs' x:=fun x hx=>by
  rw [Bool.eq_iff_iff,yd,yd,hv];exact⟨fun e=>e.elim (fun e=>absurd e.1 hx) id,.inr⟩
 have hgt:∀x∈r,h<x:=fun x hx=>((hr.2 x).1 hx).1.elim (gu x) (gv x);have hne:∀x,x≠h→(x∈r↔((x∈us∨x∈vs)∧kp (hasB us x) (hasB vs x)=true)):=fun x hx=>by
  rw [hr.2 x,e3 x hx,e4 x hx,hu,hv];constructor
  ·rintro ⟨h1|h1,h2⟩
   ·exact ⟨.inl (.inr h1),h2⟩
   ·exact ⟨.inr (.inr h1),h2⟩
  ·rintro ⟨(h1|h1)|(h1|h1),h2⟩
   ·exact absurd h1.1 hx
   ·exact ⟨.inl h1,h2⟩
   ·exact absurd h1.1 hx
   ·exact ⟨.inr h1,h2⟩
 have hh:(h∈us∨h∈vs):=hb.elim (fun e=> .inl ((hu h).2 (.inl ⟨rfl,e⟩))) (fun e=> .inr ((hv h).2 (.inl ⟨rfl,e⟩)));cases hk:kp bu bv with
 | true=>
  rw [iP rfl];refine⟨yPc.2 ⟨hgt,hr.1⟩,fun x=>?_⟩;rw [yMo];by_cases hx:x=h
  ·subst hx;exact⟨fun _=>⟨hh,by rw [e1,e2,hk]⟩,fun _=> .inl rfl⟩
  ·rw [←hne x hx];exact⟨fun e=>e.resolve_left hx,.inr⟩
 | false=>
  rw [iN (by simp)];refine⟨hr.1,fun x=>?_⟩;by_cases hx:x=h
  ·subst hx;refine⟨fun e=>absurd (hgt x e) (by omega),fun e=>?_⟩;rw [e1,e2,hk] at e;cases e.2
  ·exact hne x hx
theorem y6M(kp:Bool→Bool→Bool):∀(us vs:LI),Inc us→Inc vs→Inc (mg kp us vs)∧∀x,x∈mg kp us vs↔((x∈us∨x∈vs)∧kp (hasB us x) (hasB vs x)=true)
 | [],[],_,_=>by
  rw [mg];exact⟨yPn,fun x=>⟨fun h=>(by cases h),fun h=>(by rcases h.1 with h|h <;> cases h)⟩⟩
 | [],b::vs,_,hv=>by
  obtain⟨v1,v2⟩:=yPc.1 hv;rw [mg];exact y9M (bu:=false) (bv:=true) (y6M kp [] vs yPn v2) (fun x=>by simp) (fun x=>by simp) (fun x hx=>by cases hx) v1 (.inr rfl)
 | a::us,[],hu,_=>by
  obtain⟨u1,u2⟩:=yPc.1 hu;rw [mg];exact y9M (bu:=true) (bv:=false) (y6M kp us [] u2 yPn) (fun x=>by simp) (fun x=>by simp) u1 (fun x hx=>by cases hx) (.inl rfl)
 | a::us,b::vs,hu,hv=>by
  obtain⟨u1,u2⟩:=yPc.1 hu;obtain⟨v1,v2⟩:=yPc.1 hv;rw [mg];by_cases h1:a<b
  ·rw [iP h1];refine y9M (bu:=true) (bv:=false) (y6M kp us (b::vs) u2 hv) (fun x=>by simp) (fun x=>by simp) u1 (fun x hx=>?_) (.inl rfl);rcases yMo.1 hx with rfl|hx
   ·exact h1
   ·have:=v1 x hx;omega
  ·rw [iN h1];by_cases h2:b<a
   ·rw [iP h2];refine y9M (bu:=false) (bv:=true) (y6M kp (a::us) vs hu v2) (fun x=>by simp) (fun x=>by simp) (fun x hx=>?_) v1 (.inr rfl);rcases yMo.1 hx with rfl|hx
    ·exact h2
    ·have:=u1 x hx;omega
   ·obtain rfl:a=b:=by omega
    rw [iN h2];exact y9M (bu:=true) (bv:=true) (y6M kp us vs u2 v2) (fun x=>by simp) (fun x=>by simp) u1 v1 (.inl rfl)
termination_by us vs=>us.length+vs.length
theorem ygk{kp:Bool→Bool→Bool}{f:Bool→Bool→Option Bool}(hf:∀a b,f a b=some (kp a b)){out us vs:LI}(hl:out.length≤4000000)(hne:0<us.length+vs.length):
  ∃o u v,y1I f (out,us,vs)=some (.inl (o,u,v))∧o++mg kp u v=out++mg kp us vs∧o.length≤out.length+1∧u.length+v.length+1≤us.length+vs.length:=by
 have ho:∀a:Int,app out ([a]:LI)=some (out++[a]):=fun a=>y5S (by simp;omega);have fin:∀(bu bv:Bool) (h:Int) (u v:LI),∃o,y4p f (out,us,vs) bu bv u v h=some (.inl (o,u,v))∧o++mg kp u v=out++(if kp bu bv=true then h::mg kp u v else mg kp u v)∧o.length≤out.length+1:=fun bu bv h u v=>by
  rw [y4p,hf,yOb];dsimp only;cases kp bu bv with
  | true=>rw [iP rfl,ho,yOb];exact⟨_,rfl,by simp,by simp⟩
  | false=>rw [iN (by simp)];exact⟨_,rfl,by simp,by omega⟩
 cases us with
 | nil=>
  cases vs with
  | nil=>simp at hne
  | cons b vs=>
   obtain⟨o,h1,h2,h3⟩:=fin false true b [] vs;refine⟨o,[],vs,?_,by rw [h2,mg],h3,by simp⟩;rw [y1I];dsimp only;rw [iP (by simp),iN (by simp),y1H];dsimp only;rw [iP (by simp),iP (by simp),y1e,iN (by simp),y1d,iP rfl];dsimp only;rw [y7b,yOb,y9L,yOb];exact h1
 | cons a us=>
  cases vs with
  | nil=>
   obtain⟨o,h1,h2,h3⟩:=fin true false a us [];refine⟨o,us,[],?_,by rw [h2,mg],h3,by simp⟩;rw [y1I];dsimp only;rw [iP (by simp),iP (by simp),iP (by simp),y1H];dsimp only;rw [iN (by simp),y1e,iP rfl];dsimp only;rw [y7b,yOb,y9L,yOb,y1d,iN (by simp)];exact h1
  | cons b vs=>
   have e0:y1I f (out,a::us,b::vs)=y1e f (out,a::us,b::vs) (decide (a≤b)) (decide (b≤a)):=by
    rw [y1I];dsimp only;rw [iP (by simp),iP (by simp),iN (by simp;omega),y7b,yOb,y7b,yOb,y1H];dsimp only;rw [iP (by simp),iN (by simp;omega),y7b,yOb,y7b,yOb]
   rw [e0,y1e];dsimp only;by_cases h1:a<b
   ·obtain ⟨o,g1,g2,g3⟩:=fin true false a us (b::vs);refine⟨o,us,b::vs,?_,by rw [g2,mg,iP h1],g3,by simp;omega⟩;rw [show decide (a≤b)=true by simp;omega,show decide (b≤a)=false by simp;omega,iP rfl,y7b,yOb,y9L,yOb,y1d,iN (by simp)];exact g1
   ·by_cases h2:b<a
    ·obtain ⟨o,g1,g2,g3⟩:=fin false true b (a::us) vs;refine⟨o,a::us,vs,?_,by rw [g2,mg,iN h1,iP h2],g3,by simp;omega⟩;rw [show decide (a≤b)=false by simp;omega,show decide (b≤a)=true by simp;omega,iN (by simp),y1d,iP rfl];dsimp only;rw [y7b,yOb,y9L,yOb];exact g1
    ·obtain ⟨o,g1,g2,g3⟩:=fin true true b us vs;refine⟨o,us,vs,?_,by rw [g2,mg,iN h1,iN h2],g3,by simp;omega⟩;rw [show decide (a≤b)=true by simp;omega,show decide (b≤a)=true by simp;omega,iP rfl,y7b,yOb,y9L,yOb,y1d,iP rfl];dsimp only;rw [y7b,yOb,y9L,yOb];exact g1
theorem ybN{kp:Bool→Bool→Bool}{f:Bool→Bool→Option Bool}(hf:∀a b,f a b=some (kp a b)){us vs:LI}(hu:us.length≤1000000)(hv:vs.length≤1000000):y4w us vs f=some (mg kp us vs):=by
 obtain⟨o,h1,h2⟩:=yb (f:=y1I f) (fun i s=>s.1++mg kp s.2.1 s.2.2=mg kp us vs∧s.1.length≤i∧s.2.1.length+s.2.2.length+i≤us.length+vs.length) (fun o=>o=mg kp us vs) (us.length+vs.length) 0 (by omega) (fun i s hi ⟨g1,g0,g2⟩=>by
   obtain⟨out,u,v⟩:=s;dsimp only at g1 g0 g2;by_cases hne:0<u.length+v.length
   ·obtain ⟨o,u',v',e,g3,g5,g4⟩:=ygk hf (out:=out) (by omega) hne;exact .inl ⟨_,e,by rw [←g1];exact g3,by dsimp only;omega,by dsimp only;omega⟩
   ·have e1:u= []:=yLz (by omega);have e2:v= []:=yLz (by omega);subst e1;subst e2;rw [mg,List.append_nil] at g1;exact .inr ⟨out,rfl,g1⟩) (fun s ⟨g1,g0,g2⟩=>by
   obtain⟨out,u,v⟩:=s;dsimp only at g1 g2;have e1:u= []:=yLz (by omega);have e2:v= []:=yLz (by omega);subst e1;subst e2;rw [mg,List.append_nil] at g1;exact⟨out,rfl,g1⟩) (yZl _) ([],us,vs) ⟨rfl,by simp,by dsimp only;omega⟩
 rw [y4w,h1,h2];rfl
theorem ydv{us vs:LI}(hu:us.length≤1000000)(hv:vs.length≤1000000):y4x us vs=some (mg (fun a b=>a||b) us vs):=by
 rw [y4x,ybN (f:=y6C) (kp:=fun a b=>a||b) (fun a b=>rfl) hu hv];rfl
def st1(a:AutT)(s e:Int):Option Int:=(a.2.2.2.find? fun x=>x.1==s&&x.2.1==e).map fun x=>x.2.2
theorem ybO{a:AutT}{n:Nat}(hr:Right a n){s e t:Int}:st1 a s e=some t↔(s,e,t)∈a.2.2.2:=by
 unfold st1;rw [Option.map_eq_some_iff];constructor
 ·rintro ⟨x,h1,rfl⟩;have h2:=List.find?_some h1;have h3:=List.mem_of_find?_eq_some h1;simp only [yAe,beq_iff_eq] at h2;obtain⟨rfl,rfl⟩:=h2;exact h3
 ·intro h;cases hf:a.2.2.2.find? fun x=>x.1==s&&x.2.1==e with
  | none=>exact absurd (List.find?_eq_none.1 hf _ h) (by simp)
  | some x=>
   refine⟨x,rfl,?_⟩;have h2:=List.find?_some hf;have h3:=List.mem_of_find?_eq_some hf;simp only [yAe,beq_iff_eq] at h2;obtain⟨i,hi,e1⟩:=yGo h;obtain⟨j,hj,e2⟩:=yGo h3;rcases Nat.lt_trichotomy i j with hij|hij|hij
   ·have:=yPg.1 hr.so i j hi hj hij;rw [e1,e2] at this;dsimp only at this;omega
   ·subst hij;rw [e1] at e2;rw [←e2]
   ·have:=yPg.1 hr.so j i hj hi hij;rw [e1,e2] at this;dsimp only at this;omega
theorem yd0{a:AutT}{n:Nat}(hr:Right a n){s e t:Int}(h:st1 a s e=some t):0≤s∧s<(n:Int)∧0≤t∧t<(n:Int)∧e∈a.1:=hr.es _ ((ybO hr).1 h)
theorem yjL{es:List (Int×Int×Int)}(so:es.Pairwise fun x y=>x.1<y.1∨(x.1=y.1∧x.2.1<y.2.1)){i:Nat}(hi:i<es.length)(q:Int×Int):
  ((es.take (i+1)).find? fun x=>x.1==q.1&&x.2.1==q.2).map (fun x=>x.2.2)=if q=(es[i].1,es[i].2.1) then some es[i].2.2 else((es.take i).find? fun x=>x.1==q.1&&x.2.1==q.2).map fun x=>x.2.2:=by
 rw [yTs hi,List.find?_append];by_cases h:q=(es[i].1,es[i].2.1)
 ·rw [iP h];have hn:(es.take i).find? (fun x=>x.1==q.1&&x.2.1==q.2)=none:=by
   rw [List.find?_eq_none];intro x hx hx2;simp only [yAe,beq_iff_eq] at hx2;obtain⟨k,hk,rfl⟩:=yGo hx;rw [yLt] at hk;rw [List.getElem_take,h] at hx2;have:=yPg.1 so k i (by omega) hi (by omega);omega
  rw [hn,Option.none_or,List.find?_cons_of_pos (by rw [h];simp)];rfl
 ·rw [iN h,List.find?_cons_of_neg (by
   intro hx;simp only [yAe,beq_iff_eq] at hx;exact h (by rw [hx.1,hx.2])),List.find?_nil,Option.or_none]
theorem yhi{a:AutT}{n:Nat}(hr:Right a n):∃o,iter (y4U a) (0,([]:List ((Int×Int)×Int)))=some o∧∀q:Int×Int,kget o q=st1 a q.1 q.2:=by
 have hl:=hr.l3;refine yb (f:=y4U a) (fun i s=>s.1=(i:Int)∧∀q:Int×Int,kget s.2 q=((a.2.2.2.take i).find? fun x=>x.1==q.1&&x.2.1==q.2).map fun x=>x.2.2) (fun o=>∀q:Int×Int,kget o q=st1 a q.1 q.2) a.2.2.2.length 0 (by omega) (fun i s hi ⟨e1,g1⟩=>?_) (fun s ⟨e1,g1⟩=>?_) (yZl _) _ ⟨rfl,fun q=>rfl⟩
 ·obtain ⟨k,out⟩:=s;dsimp only at e1 g1;subst e1;refine .inl ⟨(((i+1:Nat):Int),kput out (a.2.2.2[i].1,a.2.2.2[i].2.1) a.2.2.2[i].2.2),?_,rfl,fun q=>?_⟩
  ·rw [y4U];dsimp only;rw [iP (ct_lt hi),ya hi,yOb,nxt (by omega)]
  ·dsimp only;rw [y6b,yjL hr.so hi,g1]
 ·obtain ⟨k,out⟩:=s;dsimp only at e1 g1;subst e1;rw [List.take_length] at g1;refine⟨out,?_,g1⟩;rw [y4U];dsimp only;rw [iN ct_ge]
def dd{α:Type}[DecidableEq α]:List α→List α
 | []=> []
 | [x]=> [x]
 | x::y::l=>if x=y then dd (y::l) else x::dd (y::l)
section
variable{α:Type}[DecidableEq α]
theorem yfK(x y:α):∀l:List α,dd (l++[x,y])=if x=y then dd (l++[x]) else dd (l++[x])++[y]
 | []=>by simp only [List.nil_append,dd];split <;> simp_all
 | [z]=>by
  show dd (z::x::[y])=if x=y then dd [z,x] else dd [z,x]++[y]
  simp only [dd];by_cases h1:z=x <;> by_cases h2:x=y <;> simp [h1,h2]
 | z::w::l=>by
  have ih:=yfK x y (w::l);show dd (z::w::(l++[x,y]))=if x=y then dd (z::w::(l++[x])) else dd (z::w::(l++[x]))++[y]
  have ih:dd (w::(l++[x,y]))=if x=y then dd (w::(l++[x])) else dd (w::(l++[x]))++[y]:=ih
  simp only [dd,ih];by_cases h1:z=w <;> by_cases h2:x=y <;> simp [h1,h2]
theorem yd1{xs:List α}{k:Nat}(h:k+1<xs.length):dd (xs.take (k+2))=if xs[k]=xs[k+1] then dd (xs.take (k+1)) else dd (xs.take (k+1))++[xs[k+1]]:=by
 have h1:xs.take (k+1)=xs.take k++[xs[k]]:=by rw [yTs]
 have h2:xs.take (k+2)=xs.take k++[xs[k],xs[k+1]]:=by rw [yTs h,h1,yAa];rfl
 rw [h2,h1,yfK]
theorem yix{xs:List α}(h:0<xs.length):dd (xs.take 1)=xs.take 1:=by
 cases xs with
 | nil=>simp at h
 | cons x l=>rfl
theorem yd2{xs:List α}:∀{k:Nat},k≤xs.length→(∀i (h:i+1<xs.length),i+1<k→xs[i]≠xs[i+1])→dd (xs.take k)=xs.take k
 | 0,_,_=>rfl
 | 1,h,_=>yix (by omega)
 | k+2,h,hn=>by
  rw [yd1 (by omega),iN (hn k (by omega) (by omega)),yd2 (k:=k+1) (by omega) fun i h1 h2=>hn i h1 (by omega),yTs (i:=k+1) (by omega)]
theorem yaS :∀{xs:List α} {x:α},x∈dd xs↔x∈xs
 | [],_=>Iff.rfl
 | [_],_=>Iff.rfl
 | y::z::l,x=>by
  have ih:=yaS (xs:=z::l) (x:=x);unfold dd;split
  ·rename_i e;subst e;rw [ih];simp
  ·rw [yMo,ih,yMo (a:=x) (b:=y)]
theorem y9N :∀(xs:List α),(dd xs).length≤xs.length
 | []=>yNr _
 | [_]=>yNr _
 | y::z::l=>by
  have ih:=y9N (z::l);unfold dd;split
  ·simp only [yLc] at *;omega
  ·simp only [yLc] at *;omega
/-! The loops, for any elements. -/
def cpL2(k:Int)(st:List α×Int×Int):Option ((List α×Int×Int)⊕(List α×Int)):=
 if decide (st.2.1<((st.1.length-k.toNat:Nat):Int))=true then
  (idxV st.1 k.toNat st.2.1).bind fun x=>(idxV st.1 k.toNat (W (st.2.1-1))).bind fun y=>
  if x≠y then(idxV st.1 k.toNat st.2.1).bind fun z=>(idx st.1 st.2.2).bind fun _=>(upd st.1 st.2.2 z).bind fun l=>some (.inl (l,W (st.2.1+1),W (st.2.2+1)))
  else some (.inl (st.1,W (st.2.1+1),st.2.2))
 else some (.inr (st.1,st.2.2))
def cpL1(z0:α)(p0:List α)(st:Int):Option (Int⊕(Unit⊕List α)):=
 if decide (st<(p0.length:Int))=true then
  (idx p0 st).bind fun x=>(idx p0 (W (st-1))).bind fun y=>
  if x=y then(slc p0 st (p0.length:Int)).bind fun _=>(iter (cpL2 st) (p0,1,st)).bind fun o=>(slc o.1 o.2 (o.1.length:Int)).bind fun _=>
   (slc (o.1.take o.2.toNat++List.replicate (o.1.length-o.2.toNat) z0) 0 o.2).bind fun x=>some (.inr (.inr x))
  else some (.inl (W (st+1)))
 else some (.inr (.inl ()))
def cpL(z0:α)(p0:List α):Option (List α):=
 if decide ((p0.length:Int)<2)=true then some p0
 else(iter (cpL1 z0 p0) 1).bind fun o=>match o with
  | .inl _=>some p0
  | .inr u=>some u
end
theorem y9O{α:Type}{xs:List α}{i j:Nat}(h1:i≤j)(h2:j≤xs.length):slc xs (i:Int) (j:Int)=some ((xs.take j).drop i):=by
 unfold slc;rw [iP (by omega)];simp
section
variable{α:Type}[DecidableEq α]
omit [DecidableEq α] in
theorem yfL{xs:List α}{k j:Nat}(h:k+j<xs.length):idxV xs k (j:Int)=some xs[k+j]:=by
 unfold idxV;rw [iP (by omega),show((k:Nat):Int)+(j:Int)=((k+j:Nat):Int) by omega,ya h]
theorem yiy{xs:List α}(hl:xs.length≤4294967296){k:Nat}(hkn:k<xs.length)(hd:dd (xs.take (k+1))=xs.take k):∃(row:List α) (m:Nat),iter (cpL2 (k:Int)) (xs,1,(k:Int))=some (row,(m:Int))∧row.length=xs.length∧m≤xs.length∧row.take m=dd xs:=by
 obtain⟨o,h1,row,m,rfl,h2,h3,h4⟩:=yb (f:=cpL2 (k:Int))
  (fun j (st:List α×Int×Int)=>∃(row:List α) (m:Nat),st=(row,((j+1:Nat):Int),(m:Int))∧row.length=xs.length∧m≤k+j∧row.take m=dd (xs.take (k+j+1))∧∀i,k+j≤i→row[i]? =xs[i]?)
  (fun o=>∃(row:List α) (m:Nat),o=(row,(m:Int))∧row.length=xs.length∧m≤xs.length∧row.take m=dd xs)
  (xs.length-k-1) 0 (by omega) (fun j st hj ⟨row,m,e,g1,g2,g3,g4⟩=>by
   subst e;have hx:idxV row k (((j+1:Nat):Int))=some xs[k+j+1]:=by
    rw [yfL (by omega)];have:=g4 (k+(j+1)) (by omega);rw [yGe (by omega),yGe (by omega)] at this;rw [ySi this];rfl
   have hy:idxV row k (W (((j+1:Nat):Int)-1))=some xs[k+j]:=by
    rw [show ((j+1:Nat):Int)-1=(j:Int) by omega,W_nat (by omega),yfL (by omega)];have:=g4 (k+j) (by omega);rw [yGe (by omega),yGe (by omega)] at this;rw [ySi this]
   have hdd:=yd1 (xs:=xs) (k:=k+j) (by omega);refine .inl ?_;unfold cpL2;rw [iP (by simp;omega)];simp only [yTn,hx,hy,yOb];by_cases he:xs[k+j]=xs[k+j+1]
   ·rw [iN (by simpa using he.symm)];refine⟨_,rfl,row,m,?_,g1,by omega,?_,fun i hi=>g4 i (by omega)⟩
    ·simp only [nxt (show j+1<4611686018427387904 by omega)]
    ·rw [g3];rw [iP he] at hdd;exact hdd.symm
   ·rw [iP (fun e=>he e.symm),ya (show m<row.length by omega),yOb];have hu:upd row (m:Int) xs[k+j+1]=some (row.set m xs[k+j+1]):=by unfold upd;rw [iP (by omega)];simp
    rw [hu,yOb];refine⟨_,rfl,row.set m xs[k+j+1],m+1,?_,by simpa using g1,by omega,?_,fun i hi=>?_⟩
    ·simp only [nxt (show j+1<4611686018427387904 by omega),nxt (show m<4611686018427387904 by omega)]
    ·rw [iN he] at hdd;rw [show k+(j+1)+1=k+j+2 by omega,hdd,←g3,yTs (by simp;omega),List.getElem_set_self];congr 1;rw [List.take_set];exact List.set_eq_of_length_le (by rw [yLt];omega)
    ·rw [List.getElem?_set_ne (by omega)];exact g4 i (by omega))
  (fun st ⟨row,m,e,g1,g2,g3,_⟩=>by
   subst e;refine⟨_,?_,row,m,rfl,g1,by omega,?_⟩
   ·unfold cpL2;rw [iN (by simp;omega)]
   ·rw [g3,show k+(xs.length-k-1)+1=xs.length by omega,List.take_length])
  (by omega) (xs,1,(k:Int)) ⟨xs,k,rfl,rfl,by omega,hd.symm,fun _ _=>rfl⟩
 exact⟨row,m,h1,h2,h3,h4⟩
theorem cp_eq(z0:α){xs:List α}(hl:xs.length≤4294967296):cpL z0 xs=some (dd xs):=by
 unfold cpL;by_cases h2:xs.length<2
 ·rw [iP (by simp;omega)]
  match xs,h2 with
  | [],_=>rfl
  | [_],_=>rfl
 rw [iN (by simp;omega)];obtain⟨o,h1,ho⟩:=yb (f:=cpL1 z0 xs)
  (fun j (st:Int)=>st=((j+1:Nat):Int)∧∀i (h:i+1<xs.length),i+1<j+1→xs[i]≠xs[i+1])
  (fun o=>o= .inl ()∧dd xs=xs∨o= .inr (dd xs)) (xs.length-1) 0 (by omega) (fun j st hj ⟨e,hn⟩=>by
   subst e;have hx:idx xs (((j+1:Nat):Int))=some xs[j+1]:=ya (by omega);have hy:idx xs (W (((j+1:Nat):Int)-1))=some xs[j]:=by rw [show ((j+1:Nat):Int)-1=(j:Int) by omega,W_nat (by omega),ya (by omega)]
   unfold cpL1;rw [iP (by simp;omega),hx,hy];simp only [yOb];by_cases he:xs[j+1]=xs[j]
   ·right;have hd:dd (xs.take (j+1+1))=xs.take (j+1):=by
     rw [yd1 (by omega),iP he.symm];exact yd2 (by omega) fun i h h'=>hn i h (by omega)
    obtain⟨row,m,k1,k2,k3,k4⟩:=yiy hl (k:=j+1) (by omega) hd;have hs1:slc xs (((j+1:Nat):Int)) (xs.length:Int)=some ((xs.take xs.length).drop (j+1)):=y9O (by omega) (yNr _);have hs2:slc row (m:Int) (row.length:Int)=some ((row.take row.length).drop m):=y9O (by omega) (yNr _);have hs3:slc (row.take m++List.replicate (row.length-m) z0) ((0:Nat):Int) (m:Int)=some (((row.take m++List.replicate (row.length-m) z0).take m).drop 0):=y9O (by omega) (by simp;omega);rw [iP he,hs1,yOb,k1,yOb];simp only [yTn];rw [hs2,yOb];have hs3':=hs3;simp only [Int.natCast_zero] at hs3';rw [hs3',yOb];refine⟨_,rfl,.inr ?_⟩;rw [List.drop_zero,List.take_append_of_le_length (by simp;omega),List.take_of_length_le (by simp;omega),k4]
   ·left;rw [iN he];refine⟨_,rfl,?_,fun i h h'=>?_⟩
    ·rw [nxt (by omega)]
    ·by_cases hij:i=j
     ·subst hij;exact fun e=>he e.symm
     ·exact hn i h (by omega))
  (fun st ⟨e,hn⟩=>by
   subst e;refine⟨.inl (),?_,.inl ⟨rfl,?_⟩⟩
   ·unfold cpL1;rw [iN (by simp;omega)]
   ·have:=yd2 (xs:=xs) (k:=xs.length) (yNr _) fun i h h'=>hn i h (by omega);rwa [List.take_length] at this)
  (by omega) 1 ⟨rfl,fun i h h'=>by omega⟩
 rw [h1,yOb];rcases ho with ⟨rfl,hd⟩|rfl
 ·show some xs=_;rw [hd]
 ·rfl
end
theorem y9w{xs:LI}(hl:xs.length≤4294967296):y2B xs=some (dd xs):=by
 rw [←cp_eq (0:Int) hl];have h2:∀k,y5r k=cpL2 k:=fun k=>funext fun st=>by
  unfold y5r cpL2 y4g;simp only [bne_iff_ne,ne_eq]
 have h1:y5s xs=cpL1 0 xs:=funext fun st=>by
  unfold y5s cpL1;simp only [h2,beq_iff_eq]
 unfold y2B cpL;rw [h1];split
 ·rfl
 ·congr 1;funext o;cases o <;> rfl
theorem ybq{xs:List (Int×Int)}(hl:xs.length≤4294967296):yM xs=some (dd xs):=by
 rw [←cp_eq ((0:Int),(0:Int)) hl];have h2:∀k,y3I k=cpL2 k:=fun k=>funext fun st=>by
  unfold y3I cpL2 y1C;simp only [Bool.not_eq_true',beq_eq_false_iff_ne,ne_eq]
 have h1:y3J xs=cpL1 ((0:Int),(0:Int)) xs:=funext fun st=>by
  unfold y3J cpL1;simp only [h2,beq_iff_eq]
 unfold yM cpL;rw [h1];split
 ·rfl
 ·congr 1;funext o;cases o <;> rfl
theorem yb5(a b:Int):yx a b=some (if a<b then -1 else if a>b then 1 else 0):=by
 have hn:∀x,y1J x=some false:=fun x=>by rw [y1J];simp
 rw [yx,hn,yOb,hn,yOb,iN (by simp),iN (by simp)];by_cases h1:a<b
 ·rw [iP (by simpa using h1),iP h1]
 ·rw [iN (by simpa using h1),iN h1];by_cases h2:a>b
  ·rw [iP (by simpa using h2),iP h2]
  ·rw [iN (by simpa using h2),iN h2]
def cmpG :LI→LI→Int
 | [],[]=>0
 | [],_::_=> -1
 | _::_,[]=>1
 | a::u,b::v=>if a<b then -1 else if a>b then 1 else cmpG u v
theorem yjM{u v:LI}(hb:u.length≤4294967296)(hv:v.length≤4294967296):y3S u v=some (cmpG u v):=by
 obtain⟨o,h1,h2⟩:=yb (f:=y4j u v) (fun i s=>s=(i:Int)∧i≤v.length∧cmpG u v=cmpG (u.drop i) (v.drop i)) (fun o=>(match o with
   | .inl _=>(if decide ((u.length:Int)<(v.length:Int))=true then -1 else 0)
   | .inr r=>r)=cmpG u v) u.length 0 (by omega) (fun i s hi ⟨e1,g0,g1⟩=>by
   subst e1;rw [y4j,iP (ct_lt hi),ya hi,yOb];by_cases hi2:v.length≤i
   ·rw [iP (by simp;omega)];refine .inr ⟨_,rfl,?_⟩;rw [yDc hi,List.drop_of_length_le hi2] at g1;exact g1.symm
   have hi2:i<v.length:=by omega
   rw [yDc hi,yDc hi2,cmpG] at g1;rw [iN (by simp;omega),ya hi2,yOb,yb5,yOb];by_cases h1:u[i]<v[i]
   ·rw [iP h1] at g1 ⊢;rw [iP (by rfl)];exact .inr ⟨_,rfl,g1.symm⟩
   ·rw [iN h1] at g1 ⊢;by_cases h2:u[i]>v[i]
    ·rw [iP h2] at g1 ⊢;rw [iP (by rfl)];exact .inr ⟨_,rfl,g1.symm⟩
    ·rw [iN h2] at g1 ⊢;rw [iN (by simp)];exact .inl ⟨_,rfl,nxt (by omega),by omega,g1⟩)
  (fun s ⟨e1,g0,g1⟩=>by
   subst e1;rw [y4j,iN ct_ge];refine⟨_,rfl,?_⟩;rw [g1,List.drop_length];by_cases hl:u.length<v.length
   ·rw [yDc hl];simp [hl,cmpG]
   ·rw [List.drop_of_length_le (by omega)];simp [hl,cmpG]) (by omega) 0 ⟨rfl,by omega,rfl⟩
 rw [y3S,h1,yOb];cases o with
 | inl _=>
  dsimp only at h2 ⊢;rw [←h2];split <;> rfl
 | inr r=>exact congrArg some h2
def y7C(l:LI):Int:=(l.find? fun x=>x != 0).getD 0
theorem or_eq{l:LI}(hb:l.length≤4294967296):y5V l=some (y7C l):=by
 obtain⟨o,h1,h2⟩:=yb (f:=y6l l) (fun i s=>s=(i:Int)∧y7C l=y7C (l.drop i)) (fun o=>(match o with
   | .inl _=>0
   | .inr r=>r)=y7C l) l.length 0 (by omega) (fun i s hi ⟨e1,g1⟩=>by
   subst e1;rw [y6l,iP (ct_lt hi),ya hi,yOb];rw [yDc hi] at g1;unfold y7C at g1 ⊢;rw [List.find?_cons] at g1;cases hx:l[i] != 0 with
   | true=>
    rw [hx] at g1;rw [iP rfl];exact .inr ⟨_,rfl,g1.symm⟩
   | false=>
    rw [hx] at g1;rw [iN (by simp)];exact .inl ⟨_,rfl,nxt (by omega),g1⟩)
  (fun s ⟨e1,g1⟩=>by
   subst e1;rw [y6l,iN ct_ge];refine⟨_,rfl,?_⟩;rw [g1,List.drop_length];rfl) (by omega) 0 ⟨rfl,rfl⟩
 rw [y5V,h1,yOb];cases o with
 | inl _=>exact congrArg some h2
 | inr r=>exact congrArg some h2
theorem yfM{α:Type}[DecidableEq α]{f:α→α→Option Int}{xs:List α}(lt:α→α→Prop)(hf:∀x∈xs,∀y∈xs,∃z,f x y=some z∧(z<0↔lt x y))(ha:∀x∈xs,∀y∈xs,lt x y→¬lt y x)(he:∀x∈xs,∀y∈xs,¬lt x y→¬lt y x→x=y)(ht:∀x∈xs,∀y∈xs,∀z∈xs,¬lt x y→¬lt y z→¬lt x z):cmpB f xs=true:=by
 have hl:∀x∈xs,∀y∈xs,(ltf f x y=true↔lt x y):=fun x hx y hy=>by
  obtain⟨z,h1,h2⟩:=hf x hx y hy;unfold ltf;rw [h1];simpa using h2
 unfold cmpB;rw [yAt];intro x hx;rw [yAt];intro y hy;obtain⟨z,h1,_⟩:=hf x hx y hy;have hn:∀x∈xs,∀y∈xs,(ltf f x y=false↔ ¬lt x y):=fun x hx y hy=>by rw [←hl x hx y hy];simp
 simp only [yAe];refine⟨⟨⟨by rw [h1];rfl,?_⟩,?_⟩,?_⟩
 ·cases g1:ltf f x y with
  | false=>rfl
  | true=>
   have:=ha x hx y hy ((hl x hx y hy).1 g1);rw [(hn y hy x hx).2 this];rfl
 ·cases g1:ltf f x y with
  | true=>rfl
  | false=>
   cases g2:ltf f y x with
   | true=>rfl
   | false=>simp [he x hx y hy ((hn x hx y hy).1 g1) ((hn y hy x hx).1 g2)]
 ·rw [yAt];intro w hw;cases g1:ltf f x y with
  | true=>simp
  | false=>
   cases g2:ltf f y w with
   | true=>simp
   | false=>simp [(hn x hx w hw).2 (ht x hx y hy w hw ((hn x hx y hy).1 g1) ((hn y hy w hw).1 g2))]
/-! Pairs. -/
def ltP(p q:Int×Int):Prop:=p.1<q.1∨p.1=q.1∧p.2<q.2
theorem yhj(p q:Int×Int):∃z,yj p q=some z∧(z<0↔ltP p q):=by
 refine⟨cmpG [p.1,p.2] [q.1,q.2],?_,?_⟩
 ·rw [yj,yjM (by simp) (by simp)];rfl
 ·unfold ltP;simp only [cmpG];by_cases h1:p.1<q.1 <;> by_cases h2:p.1>q.1 <;> by_cases h3:p.2<q.2 <;> by_cases h4:p.2>q.2 <;> simp [h1,h2,h3,h4] <;> omega
theorem yhk(xs:List (Int×Int)):cmpB yj xs=true:=yfM ltP (fun x _ y _=>yhj x y) (fun x _ y _ h=>by unfold ltP at *;omega) (fun x _ y _ h1 h2=>by
  unfold ltP at *;exact Prod.ext (by omega) (by omega)) (fun x _ y _ z _ h1 h2=>by unfold ltP at *;omega)
theorem yeA{xs:List (Int×Int)}(hl:xs.length≤4294967296):yG yj xs=some (srtL (ltf yj) xs):=by
 unfold yG srtF;rw [iP ⟨hl,yhk xs⟩]
theorem yiz :y6p=yj:=rfl
abbrev E3 :=Int×Int×Int
abbrev NdT :=LI×Int×LI×LI×List E3
def ltE3(x y:E3):Prop:=x.1<y.1∨x.1=y.1∧(x.2.1<y.2.1∨x.2.1=y.2.1∧x.2.2<y.2.2)
instance (x y:E3):Decidable (ltE3 x y):=by unfold ltE3;infer_instance
theorem yaj(x y:E3):∃z,yc x y=some z∧(z<0↔ltE3 x y)∧(z≥0↔ ¬ltE3 x y):=by
 refine⟨y7C [if x.1<y.1 then -1 else if x.1>y.1 then 1 else 0,if x.2.1<y.2.1 then -1 else if x.2.1>y.2.1 then 1 else 0,if x.2.2<y.2.2 then -1 else if x.2.2>y.2.2 then 1 else 0],?_,?_⟩
 ·rw [yc,yb5,yOb,yb5,yOb,yb5,yOb,or_eq (by simp)];rfl
 ·have h:∀z:Int,(z<0↔ltE3 x y)→(z<0↔ltE3 x y)∧(z≥0↔ ¬ltE3 x y):=fun z hz=>⟨hz,by rw [←hz];omega⟩;apply h;unfold ltE3 y7C;by_cases h1:x.1<y.1
  ·simp [h1]
  by_cases h2:x.1>y.1
  ·simp [h1,h2];omega
  have e1:x.1=y.1:=by omega
  by_cases h3:x.2.1<y.2.1
  ·simp [e1,h3]
  by_cases h4:x.2.1>y.2.1
  ·simp [e1,h3,h4];omega
  have e2:x.2.1=y.2.1:=by omega
  by_cases h5:x.2.2<y.2.2
  ·simp [e1,e2,h5]
  by_cases h6:x.2.2>y.2.2
  ·simp [e1,e2,h5,h6]
  ·simp [e1,e2,h5,h6]
theorem tgtC :y5u=yc:=rfl
theorem absC :y5h=yc:=rfl
structure NdOk (a:NdT):Prop where
 al:a.1.Pairwise (· < ·)
 alr:∀x∈a.1,0≤x∧x<32
 n0:0≤a.2.1
 n1:a.2.1≤4096
 ini:a.2.2.1.Pairwise (· < ·)
 inr:∀x∈a.2.2.1,0≤x∧x<a.2.1
 mks:a.2.2.2.1.Pairwise (· < ·)
 mkr:∀x∈a.2.2.2.1,0≤x∧x<a.2.1
 es:a.2.2.2.2.Pairwise ltE3
 esr:∀x∈a.2.2.2.2,0≤x.1∧x.1<a.2.1∧0≤x.2.2∧x.2.2<a.2.1∧(x.2.1= -1∨x.2.1∈a.1)
 la:a.1.length≤1000000
 li:a.2.2.1.length≤1000000
 lm:a.2.2.2.1.length≤1000000
 le:a.2.2.2.2.length≤65536
def tgtL(es:List E3)(s e:Int):LI:=(es.filter fun x=>x.1==s&&x.2.1==e).map (·.2.2)
theorem ycq{x y z:E3}(h1:ltE3 x y)(h2:ltE3 y z):ltE3 x z:=by unfold ltE3 at *;omega
theorem ykz{xs:List E3}{t:E3}(hl:xs.length<4294967296)(hs:xs.Pairwise ltE3):∀(f i j:Nat),j≤i+f→i≤j→j≤xs.length→(∀k (h:k<xs.length),k<i→ltE3 xs[k] t)→(∀k (h:k<xs.length),j≤k→¬ltE3 xs[k] t)→
  ∃p:Nat,iterF (yh xs t yc) (f+1) ((j:Int),(i:Int))=some (p:Int)∧p≤xs.length∧(∀k (h:k<xs.length),k<p→ltE3 xs[k] t)∧(∀k (h:k<xs.length),p≤k→¬ltE3 xs[k] t):=by
 intro f
 induction f with
 | zero=>
  intro i j h1 h2 h3 h4 h5;refine⟨i,?_,by omega,h4,fun k h hk=>h5 k h (by omega)⟩;rw [yi,yh,iN (by simp;omega)]
 | succ f ih=>
  intro i j h1 h2 h3 h4 h5;rw [yi,yh];dsimp only;by_cases hij:i<j
  ·have hm:(i+j)/2<xs.length:=by omega
   obtain⟨z,hz1,hz2,_⟩:=yaj xs[(i+j)/2] t;rw [iP (by simp;omega),yfJ (by omega),ya hm,yOb,hz1,yOb];have mono:∀(a b:Nat) (ha:a<xs.length) (hb:b<xs.length),a≤b→xs[a]=xs[b]∨ltE3 xs[a] xs[b]:=fun a b ha hb hab=>by
    rcases Nat.lt_or_ge a b with h|h
    ·exact .inr (yPg.1 hs a b ha hb h)
    ·have:a=b:=by omega
     subst this;exact .inl rfl
   by_cases hc:z<0
   ·rw [iP (decide_eq_true hc),show(((i+j)/2:Nat):Int)+1=(((i+j)/2+1:Nat):Int) by omega,W_nat (by omega)];refine ih _ j (by omega) (by omega) h3 (fun k h hk=>?_) h5;rcases mono k _ h hm (by omega) with he|he
    ·rw [he];exact hz2.1 hc
    ·exact ycq he (hz2.1 hc)
   ·rw [iN (by simpa using hc)];refine ih i _ (by omega) (by omega) (by omega) h4 (fun k h hk hlt=>?_);rcases mono _ k hm h hk with he|he
    ·rw [←he] at hlt;exact hc (hz2.2 hlt)
    ·exact hc (hz2.2 (ycq he hlt))
  ·rw [iN (by simp;omega)];exact⟨i,rfl,by omega,h4,fun k h hk=>h5 k h (by omega)⟩
theorem yhl{xs:List E3}{t:E3}(hl:xs.length<4294967296)(hs:xs.Pairwise ltE3):∃(p:Nat) (b:Bool),yk xs t yc=some ((p:Int),b)∧p≤xs.length∧(∀x∈xs.take p,ltE3 x t)∧(∀x∈xs.drop p,¬ltE3 x t):=by
 obtain⟨p,hp,hle,hlo,hhi⟩:=ykz (t:=t) hl hs xs.length 0 xs.length (by omega) (by omega) (by omega) (fun k h hk=>absurd hk (by omega)) (fun k h hk=>absurd hk (by omega));have hi:iter (yh xs t yc) ((xs.length:Int),0)=some (p:Int):=y5x (by omega) hp;have h2:(∀x∈xs.take p,ltE3 x t)∧∀x∈xs.drop p,¬ltE3 x t:=by
  refine⟨fun x hx=>?_,fun x hx=>?_⟩
  ·obtain ⟨k,hk,rfl⟩:=List.mem_iff_getElem.1 hx;rw [yLt] at hk;rw [List.getElem_take];exact hlo k (by omega) (by omega)
  ·obtain ⟨k,hk,rfl⟩:=List.mem_iff_getElem.1 hx;rw [List.length_drop] at hk;rw [List.getElem_drop];exact hhi _ (by omega) (by omega)
 rw [yk,hi,yOb];by_cases hlt:p<xs.length
 ·obtain ⟨z,hz,_⟩:=yaj xs[p] t;rw [iP (by simpa using hlt),ya hlt,yOb,hz,yOb];exact⟨p,_,rfl,hle,h2⟩
 ·rw [iN (by simpa using hlt)];exact⟨p,_,rfl,hle,h2⟩
theorem ydw{s e:Int}:∀{l:List E3},l.Pairwise ltE3→(∀x∈l,¬ltE3 x (s,e,-1))→l.takeWhile (fun x=>x.1==s&&x.2.1==e)=l.filter fun x=>x.1==s&&x.2.1==e
 | [],_,_=>rfl
 | x::l,hs,hl=>by
  have hs':=yPc.1 hs;cases hx:x.1==s&&x.2.1==e with
  | true=>
   rw [List.takeWhile_cons,List.filter_cons];simp only [hx,if_true];rw [ydw hs'.2 fun y hy=>hl y (.tail _ hy)]
  | false=>
   rw [List.takeWhile_cons,List.filter_cons];simp only [hx,Bool.false_eq_true,if_false];symm;rw [List.filter_eq_nil_iff];intro y hy hm;have h1:=hs'.1 y hy;have h2:=hl x (.head _);simp only [yAe,beq_iff_eq,Bool.and_eq_false_iff,beq_eq_false_iff_ne,ne_eq] at hx hm;unfold ltE3 at h1 h2;dsimp only at h2;omega
theorem yfg{s e:Int}{l:List E3}(h0:∀x∈l,0≤x.2.2)(hl:∀x∈l,ltE3 x (s,e,-1)):l.filter (fun x=>x.1==s&&x.2.1==e)= []:=by
 rw [List.filter_eq_nil_iff];intro y hy hm;have h1:=hl y hy;have h2:=h0 y hy;simp only [yAe,beq_iff_eq] at hm;unfold ltE3 at h1;dsimp only at h1;omega
theorem ydx{es:List E3}{s e:Int}{p:Nat}(hs:es.Pairwise ltE3)(h0:∀x∈es,0≤x.2.2)(h1:∀x∈es.take p,ltE3 x (s,e,-1))(h2:∀x∈es.drop p,¬ltE3 x (s,e,-1)):tgtL es s e=((es.drop p).takeWhile fun x=>x.1==s&&x.2.1==e).map (·.2.2):=by
 unfold tgtL;rw [ydw (hs.sublist (List.drop_sublist _ _)) h2]
 conv=>lhs;rw [←List.take_append_drop p es,List.filter_append,yfg (fun x hx=>h0 x ((List.take_sublist _ _).subset hx)) h1,List.nil_append]
theorem yaT{α:Type}{l:List α}{f:α→Bool}{p:Nat}(h:p<l.length):(l.drop p).takeWhile f=if f l[p]=true then l[p]::(l.drop (p+1)).takeWhile f else []:=by
 rw [yDc h,List.takeWhile_cons]
theorem yeB{a:NdT}(ha:NdOk a)(s e:Int):y3x a s e=some (tgtL a.2.2.2.2 s e):=by
 obtain⟨p,b,h1,h2,h3,h4⟩:=yhl (t:=(s,e,-1)) (by have:=ha.le;omega) ha.es;rw [y3x,tgtC,h1,yOb];have hle:=ha.le;rw [ydx ha.es (fun x hx=>(ha.esr x hx).2.2.1) h3 h4];obtain⟨o,ho,he⟩:=yb (f:=y3R a s e) (fun j (st:LI×Int)=>∃out,st=(out,((p+j:Nat):Int))∧out.length≤j∧out++((a.2.2.2.2.drop (p+j)).takeWhile fun x=>x.1==s&&x.2.1==e).map (·.2.2)=((a.2.2.2.2.drop p).takeWhile fun x=>x.1==s&&x.2.1==e).map (·.2.2))
  (fun o=>o=((a.2.2.2.2.drop p).takeWhile fun x=>x.1==s&&x.2.1==e).map (·.2.2)) (a.2.2.2.2.length-p) 0 (by omega) (fun j st hj ⟨out,e1,g1,g2⟩=>by
   subst e1;have hp:p+j<a.2.2.2.2.length:=by omega
   rw [yaT hp] at g2;unfold y3R;simp only [ct_lt hp,if_true,ya hp,yOb];cases hx:a.2.2.2.2[p+j].1==s with
   | false=>
    refine .inr ⟨out,by simp,?_⟩;rw [iN (by simp [hx]),List.map_nil,List.append_nil] at g2;exact g2
   | true=>
    cases hy:a.2.2.2.2[p+j].2.1==e with
    | false=>
     refine .inr ⟨out,by simp,?_⟩;rw [iN (by simp [hy]),List.map_nil,List.append_nil] at g2;exact g2
    | true=>
     refine .inl ⟨(out++[a.2.2.2.2[p+j].2.2],((p+(j+1):Nat):Int)),?_,_,rfl,by simp;omega,?_⟩
     ·have happ:app out [a.2.2.2.2[p+j].2.2]=some (out++[a.2.2.2.2[p+j].2.2]):=by unfold app;rw [iP (by simp;omega)]
      have hw:W ((p:Int)+(j:Int)+1)=(p:Int)+(j:Int)+1:=W_of (by omega) (by omega);simp [happ,hw];omega
     ·rw [iP (by simp [hx,hy])] at g2;rw [←g2];simp [Nat.add_assoc])
  (fun st ⟨out,e1,g1,g2⟩=>by
   subst e1;have hp:p+(a.2.2.2.2.length-p)=a.2.2.2.2.length:=by omega
   rw [hp] at g2 ⊢;rw [List.drop_length] at g2;refine⟨out,?_,by simpa using g2⟩;unfold y3R;simp) (by omega) ([],(p:Int)) ⟨[],rfl,yZl _,rfl⟩
 rw [ho,he];rfl
theorem yv{α:Type}{xs ys:List α}(h:xs.length+ys.length≤4294967296):app xs ys=some (xs++ys):=by unfold app;rw [iP h]
theorem y8L(es:List E3)(s e:Int):(tgtL es s e).length≤es.length:=by
 unfold tgtL;rw [yLm];exact List.length_filter_le _ _
theorem y9g{a:NdT}(ha:NdOk a)(s e:Int):yr a s e=some (if e≠ -1∧hasB a.1 e=false then [s] else tgtL a.2.2.2.2 s e):=by
 have hle:=ha.le;have hla:=ha.la;have hloop:iter (y1z a s e) (0,([]:LI))=some (tgtL a.2.2.2.2 s e):=by
  obtain⟨o,ho,he⟩:=yb (f:=y1z a s e) (fun j (st:Int×LI)=>st=((j:Int),tgtL (a.2.2.2.2.take j) s e)) (fun o=>o=tgtL a.2.2.2.2 s e) a.2.2.2.2.length 0 (by omega) (fun j st hj e1=>by
    subst e1;refine .inl ⟨_,?_,rfl⟩;have ht:tgtL (a.2.2.2.2.take (j+1)) s e=if(a.2.2.2.2[j].1==s&&a.2.2.2.2[j].2.1==e)=true then tgtL (a.2.2.2.2.take j) s e++[a.2.2.2.2[j].2.2] else tgtL (a.2.2.2.2.take j) s e:=by
     unfold tgtL;rw [yTs hj,List.filter_append,List.map_append];split
     ·rename_i h;rw [List.filter_cons];simp [h]
     ·rename_i h;rw [List.filter_cons];simp [h]
    have hlen:=y8L (a.2.2.2.2.take j) s e;rw [yLt] at hlen;unfold y1z;simp only [ct_lt hj,if_true,ya hj,yOb];rw [ht];split
    ·rename_i h;rw [yv (by simp;omega),yOb,y3i];simp only [nxt (show j<4611686018427387904 by omega)]
    ·rw [y3i];simp only [nxt (show j<4611686018427387904 by omega)])
   (fun st e1=>by
    subst e1;refine⟨_,?_,rfl⟩;unfold y1z;simp) (by omega) (0,([]:LI)) rfl
  rw [ho,he]
 rw [yr];by_cases h1:e= -1
 ·subst h1;simp [hloop]
 ·rw [iP (by simpa using h1),y5M (by omega),yOb,yOb];cases h2:hasB a.1 e with
  | true=>simp [hloop]
  | false=>simp [h1]
def ye(xs ys:LI):List (Int×Int):=xs.flatMap fun x=>ys.map fun y=>(x,y)
theorem y6N(xs ys:LI):(ye xs ys).length=xs.length*ys.length:=by
 induction xs with
 | nil=>simp [ye]
 | cons x xs ih=>
  unfold ye at *;rw [List.flatMap_cons,yLa,ih,yLm,yLc,Nat.succ_mul,Nat.add_comm]
theorem y5F{β γ:Type}{xs:List β}(f:Int×List γ→Option ((Int×List γ)⊕List γ))(h:β→γ)(out:List γ)(hl:xs.length+out.length≤4294967296)
  (step:∀j (hj:j<xs.length) (o:List γ),f ((j:Int),o)=(app o [h xs[j]]).bind fun x=>some (.inl (W ((j:Int)+1),x))) (last:∀o:List γ,f ((xs.length:Int),o)=some (.inr o)):iter f (0,out)=some (out++xs.map h):=by
 obtain⟨o,ho,he⟩:=yb (f:=f) (fun j (st:Int×List γ)=>st=((j:Int),out++(xs.take j).map h)) (fun o=>o=out++xs.map h) xs.length 0 (by omega) (fun j st hj e1=>by
   subst e1;refine .inl ⟨_,?_,rfl⟩;rw [step j hj,yv (by simp;omega),yOb,nxt (by omega),yTs hj,List.map_append,yAa];rfl)
  (fun st e1=>by
   subst e1;exact⟨_,last _,by rw [List.take_length]⟩) (by omega) (0,out) (by simp)
 rw [ho,he]
theorem yiA{ys:LI}(x:Int)(out:List (Int×Int))(hl:ys.length+out.length≤4294967296):iter (y4D ys x) (0,out)=some (out++ys.map fun y=>(x,y)):=
 y5F _ _ out hl (fun j hj o=>by
  unfold y4D;simp only [ct_lt hj,if_true,ya hj,yOb]) fun o=>by
  unfold y4D;simp
theorem yaU{β γ:Type}{xs:List β}(f:Int×List γ→Option ((Int×List γ)⊕List γ))(h:β→List γ)(out:List γ)(hx:xs.length≤4294967296)(hl:(xs.flatMap h).length+out.length≤4294967296)
  (step:∀j (hj:j<xs.length) (o:List γ),(h xs[j]).length+o.length≤4294967296→f ((j:Int),o)=some (.inl (((j+1:Nat):Int),o++h xs[j]))) (last:∀o:List γ,f ((xs.length:Int),o)=some (.inr o)):iter f (0,out)=some (out++xs.flatMap h):=by
 obtain⟨o,ho,he⟩:=yb (f:=f) (fun j (st:Int×List γ)=>st=((j:Int),out++(xs.take j).flatMap h)) (fun o=>o=out++xs.flatMap h) xs.length 0 (by omega) (fun j st hj e1=>by
   subst e1;have h2:(xs.take (j+1)).flatMap h=(xs.take j).flatMap h++h xs[j]:=by rw [yTs hj,List.flatMap_append];simp
   have h3:((xs.take (j+1)).flatMap h).length≤(xs.flatMap h).length:=by
    conv=>rhs;rw [←List.take_append_drop (j+1) xs,List.flatMap_append,yLa]
    omega
   rw [h2,yLa] at h3;refine .inl ⟨_,step j hj _ (by simp only [yLa];omega),?_⟩;rw [h2,yAa])
  (fun st e1=>by
   subst e1;exact⟨_,last _,by rw [List.take_length]⟩) (by omega) (0,out) (by simp)
 rw [ho,he]
theorem y7D{xs ys:LI}(hx:xs.length≤65536)(hy:ys.length≤65536):yP xs ys=some (ye xs ys):=by
 have hm:xs.length*ys.length≤65536*65536:=Nat.mul_le_mul hx hy;have hc:=y6N xs ys;rw [yP,yaU (y4E xs ys) (fun x=>ys.map fun y=>(x,y)) [] (xs:=xs) (by omega) (by unfold ye at hc;rw [hc];simp;omega) (fun j hj o ho=>by
  unfold y4E;simp only [ct_lt hj,if_true,ya hj,yOb];rw [yiA _ _ (by simpa using ho),yOb,nxt (by omega)]) fun o=>by
  unfold y4E;simp]
 rfl
def tsL(a:NdT)(s e:Int):LI:=if e≠ -1∧hasB a.1 e=false then [s] else tgtL a.2.2.2.2 s e
theorem y8s{a:NdT}(ha:NdOk a)(s e:Int):(tsL a s e).length≤65536:=by
 unfold tsL;have:=y8L a.2.2.2.2 s e;have:=ha.le;split
 ·simp
 ·omega
def rawL(a b:NdT)(p:Int×Int)(e:Int):List (Int×Int):=
 if e= -1 then ye (tsL a p.1 (-1)) [p.2]++ye [p.1] (tsL b p.2 (-1)) else ye (tsL a p.1 e) (tsL b p.2 e)
theorem ybP{a b:NdT}(ha:NdOk a)(hb:NdOk b)(p:Int×Int)(e:Int):(rawL a b p e).length≤4294967296:=by
 unfold rawL;split
 ·have:=y8s ha p.1 (-1);have:=y8s hb p.2 (-1);rw [yLa,y6N,y6N];simp;omega
 ·rw [y6N];exact Nat.mul_le_mul (y8s ha _ _) (y8s hb _ _)
def stpL(a b:NdT)(p:Int×Int)(e:Int):List (Int×Int):=dd (srtL (ltf yj) (rawL a b p e))
theorem yeC{a b:NdT}{p q:Int×Int}{e:Int}:q∈stpL a b p e↔q∈rawL a b p e:=by
 unfold stpL;rw [yaS,(y3t _ _).mem_iff]
theorem ycr{xs:List (Int×Int)}(hl:xs.length≤4294967296):((yG yj xs).bind fun r7=>(yM r7).bind fun r8=>some r8)=some (dd (srtL (ltf yj) xs)):=by
 rw [yeA hl,yOb,ybq (by rw [(y3t _ _).length_eq];exact hl),yOb]
theorem yiB{a b:NdT}(ha:NdOk a)(hb:NdOk b)(p:Int×Int){e:Int}(he:e= -1∨e∈a.1∨e∈b.1):y5p a b p e=some (stpL a b p e):=by
 have la:=y8L a.2.2.2.2 p.1 e;have lb:=y8L b.2.2.2.2 p.2 e;have ka:=ha.le;have kb:=hb.le;have hr:=ybP ha hb p e;have hna:=ha.la;have hnb:=hb.la;rw [y5p,yeB ha,yOb,yeB hb,yOb,y4a (by omega) ha.al,yOb,y4a (by omega) hb.al,yOb];unfold stpL;by_cases h1:e= -1
 ·subst h1;rw [iP (by decide),y7D (by omega) (by simp),yOb,y7D (by simp) (by omega),yOb];have hraw:rawL a b p (-1)=ye (tgtL a.2.2.2.2 p.1 (-1)) [p.2]++ye [p.1] (tgtL b.2.2.2.2 p.2 (-1)):=by
   unfold rawL tsL;simp
  rw [yv (by rw [hraw,yLa] at hr;exact hr),yOb,←hraw];exact ycr hr
 ·rw [iN (by simpa using h1)];have hraw:rawL a b p e=ye (tsL a p.1 e) (tsL b p.2 e):=by unfold rawL;rw [iN h1]
  cases h2:hasB a.1 e with
  | true=>
   have e1:tsL a p.1 e=tgtL a.2.2.2.2 p.1 e:=by unfold tsL;simp [h2]
   cases h3:hasB b.1 e with
   | true=>
    have e2:tsL b p.2 e=tgtL b.2.2.2.2 p.2 e:=by unfold tsL;simp [h3]
    rw [e1,e2] at hraw;rw [iP rfl,y7D (by omega) (by omega),yOb,←hraw];exact ycr hr
   | false=>
    have e2:tsL b p.2 e= [p.2]:=by unfold tsL;simp [h1,h3]
    rw [e1,e2] at hraw;rw [iN (by simp),iP rfl,y7D (by omega) (by simp),yOb,←hraw];exact ycr hr
  | false=>
   have e1:tsL a p.1 e= [p.1]:=by unfold tsL;simp [h1,h2]
   have h3:hasB b.1 e=true:=by
    rw [yd];rcases he with h|h|h
    ·exact absurd h h1
    ·rw [y7n] at h2;exact absurd h h2
    ·exact h
   have e2:tsL b p.2 e=tgtL b.2.2.2.2 p.2 e:=by unfold tsL;simp [h3]
   rw [e1,e2] at hraw;rw [iN (by simp),iN (by simp),y7D (by simp) (by omega),yOb,←hraw];exact ycr hr
/-! The numbers of pairs. -/
def numb :Nat→List (Int×Int)→List ((Int×Int)×Int)
 | _,[]=> []
 | k,p::l=>(p,(k:Int))::numb (k+1) l
theorem yeD :∀(k:Nat) (l:List (Int×Int)),(numb k l).length=l.length
 | _,[]=>rfl
 | k,p::l=>by rw [numb,yLc,yeD,yLc]
theorem yeE :∀(k:Nat) (l:List (Int×Int)),(numb k l).map (·.1)=l
 | _,[]=>rfl
 | k,p::l=>by rw [numb,List.map_cons,yeE]
theorem yeF :∀(k:Nat) (l:List (Int×Int)) (p:Int×Int),kget (numb k l) p=if p∈l then some (((k+l.idxOf p:Nat):Int)) else none
 | _,[],p=>by simp [numb,kget]
 | k,q::l,p=>by
  have ih:=yeF (k+1) l p;unfold kget at ih ⊢;rw [numb,List.find?_cons];by_cases h:p=q
  ·subst h;simp
  ·have h':(p==q)=false:=by simpa using h
   simp only [h'];rw [ih];have h2:¬q=p:=fun e=>h e.symm;by_cases hm:p∈l
   ·rw [iP hm,iP (by simp [hm]),List.idxOf_cons];have h3:(q==p)=false:=by simpa using h2
    rw [h3];simp;omega
   ·rw [iN hm,iN (by simp [hm,h])]
theorem ydy :∀(k:Nat) (l:List (Int×Int)) (p:Int×Int),numb k (l++[p])=numb k l++[(p,((k+l.length:Nat):Int))]
 | k,[],p=>by simp [numb]
 | k,q::l,p=>by
  rw [List.cons_append,numb,ydy (k+1) l p,numb,List.cons_append,yLc];congr 4;omega
theorem ybQ{κ:Type}[BEq κ][LawfulBEq κ]{ks:List κ}{k:κ}(h:k∉ks):kidx ks k=ks.length:=by
 unfold kidx;rw [List.findIdx_eq_length];intro x hx;cases he:k==x with
 | false=>rfl
 | true=>exact absurd ((eq_of_beq he)▸hx) h
theorem yiC{l:List (Int×Int)}{p:Int×Int}(h:p∉l):kput (numb 0 l) p (l.length:Int)=numb 0 (l++[p]):=by
 unfold kput;rw [iN (by rw [yeE,ybQ h,yeD];omega),ydy];simp
def fnd(l:List (Int×Int))(p:Int×Int):Int×List (Int×Int):=if p∈l then((l.idxOf p:Int),l) else((l.length:Int),l++[p])
theorem yfN{l:List (Int×Int)}(hl:l.length<4294967296)(p:Int×Int):y2N (numb 0 l) l p=some ((fnd l p).1,numb 0 (fnd l p).2,(fnd l p).2):=by
 rw [y2N,yeF];unfold fnd;by_cases h:p∈l
 ·rw [iP h,iP h];simp [y3g]
 ·rw [iN h,iN h];simp only [Option.isSome_none,Bool.not_false,if_true];rw [yv (by simp;omega),yOb,yiC h];rfl
theorem yiD{l:List (Int×Int)}(hl:l.length<4294967296)(p:Int×Int):y4T l p=some (if p∈l then(l.idxOf p:Int) else -1):=by
 obtain⟨o,h1,h2⟩:=yb (f:=y2d l p) (fun i s=>s=(i:Int)∧∀k (h:k<l.length),k<i→l[k]≠p) (fun o=>o=(if p∈l then .inr (l.idxOf p:Int) else .inl ())) l.length 0 (by omega) (fun i s hi ⟨e1,g1⟩=>by
   subst e1;rw [y2d,iP (ct_lt hi),ya hi,yOb];by_cases hx:p=l[i]
   ·rw [iP (by simpa using hx)];refine .inr ⟨_,rfl,?_⟩;have hm:p∈l:=hx▸yGm hi;rw [iP hm];have:l.idxOf p=i:=by
     have hlt:=List.idxOf_lt_length_of_mem hm;have he:=List.getElem_idxOf hlt;rcases Nat.lt_trichotomy (l.idxOf p) i with h|h|h
     ·exact absurd he (g1 _ hlt h)
     ·exact h
     ·exact absurd hx.symm (by
       intro e;have:=List.not_of_lt_findIdx (p:=(· == p)) (xs:=l) (i:=i) h;simp [e] at this)
    rw [this]
   ·rw [iN (by simpa using hx)];refine .inl ⟨_,rfl,nxt (by omega),fun k h hk e=>?_⟩;by_cases hki:k=i
    ·subst hki;exact hx e.symm
    ·exact g1 k h (by omega) e)
  (fun s ⟨e1,g1⟩=>by
   subst e1;rw [y2d,iN ct_ge];refine⟨_,rfl,?_⟩;rw [iN];intro hm;obtain⟨k,hk,e⟩:=List.mem_iff_getElem.1 hm;exact g1 k hk hk e) (by omega) 0 ⟨rfl,fun k h hk=>by omega⟩
 rw [y4T,h1,yOb,h2];by_cases hm:p∈l
 ·rw [iP hm,iP hm]
 ·rw [iN hm,iN hm]
def rowS(st:LI×List (Int×Int))(p:Int×Int):LI×List (Int×Int):=(st.1++[(fnd st.2 p).1],(fnd st.2 p).2)
def rowF(nx l:List (Int×Int)):LI×List (Int×Int):=nx.foldl rowS ([],l)
theorem yjN(l:List (Int×Int))(p:Int×Int):∃t,(fnd l p).2=l++t∧∀q∈t,q=p:=by
 unfold fnd;split
 ·exact ⟨[],by simp,by simp⟩
 ·exact ⟨[p],rfl,by simp⟩
theorem ydz(nx l:List (Int×Int))(p:Int×Int):rowF (nx++[p]) l=rowS (rowF nx l) p:=by unfold rowF;rw [List.foldl_append];rfl
theorem y7l :∀(nx:List (Int×Int)) (st:LI×List (Int×Int)),(nx.foldl rowS st).1.length=st.1.length+nx.length∧∃t,(nx.foldl rowS st).2=st.2++t∧∀q∈t,q∈nx
 | [],st=>⟨rfl,[],by simp,by simp⟩
 | p::nx,st=>by
  obtain⟨h1,t,h2,h3⟩:=y7l nx (rowS st p);obtain⟨u,h4,h5⟩:=yjN st.2 p;refine⟨by rw [List.foldl_cons,h1];simp [rowS];omega,u++t,?_,fun q hq=>?_⟩
  ·rw [List.foldl_cons,h2];show(fnd st.2 p).2++t=_;rw [h4,yAa]
  ·rcases yMa.1 hq with h|h
   ·rw [h5 q h];exact .head _
   ·exact .tail _ (h3 q h)
theorem y8M(nx l:List (Int×Int)):(rowF nx l).1.length=nx.length:=by
 have:=(y7l nx ([],l)).1;simpa [rowF] using this
theorem yak(nx l:List (Int×Int)):∃t,(rowF nx l).2=l++t∧∀q∈t,q∈nx:=(y7l nx ([],l)).2
theorem y9h(nx l:List (Int×Int))(j:Nat):(rowF (nx.take j) l).2.length≤(rowF nx l).2.length:=by
 have h:rowF nx l=(nx.drop j).foldl rowS (rowF (nx.take j) l):=by unfold rowF;rw [←List.foldl_append,List.take_append_drop]
 obtain⟨t,h2,_⟩:=(y7l (nx.drop j) (rowF (nx.take j) l)).2;rw [h,h2,yLa];omega
theorem yjO{nx l:List (Int×Int)}(hn:nx.length≤4294967296)(hl:(rowF nx l).2.length≤4096):iter (y2k nx) (0,([]:LI),numb 0 l,l)=some (.inl ((rowF nx l).1,numb 0 (rowF nx l).2,(rowF nx l).2)):=by
 obtain⟨o,ho,he⟩:=yb (f:=y2k nx) (fun j st=>st=((j:Int),(rowF (nx.take j) l).1,numb 0 (rowF (nx.take j) l).2,(rowF (nx.take j) l).2)) (fun o=>o= .inl ((rowF nx l).1,numb 0 (rowF nx l).2,(rowF nx l).2)) nx.length 0 (by omega) (fun j st hj e1=>by
   subst e1;have hs:rowF (nx.take (j+1)) l=rowS (rowF (nx.take j) l) nx[j]:=by rw [yTs hj,ydz]
   have h1:=y9h nx l (j+1);have h2:=y9h nx l j;have h3:=y8M (nx.take j) l;rw [yLt] at h3;refine .inl ⟨_,?_,rfl⟩;unfold y2k;simp only [ct_lt hj,if_true,ya hj,yOb];rw [yfN (by omega),yOb];rw [yv (by simp;omega),yOb];rw [hs] at h1;have h4:(fnd (rowF (nx.take j) l).2 nx[j]).2.length≤(rowF nx l).2.length:=h1;rw [iN (by simp;omega),hs,nxt (by omega)];rfl)
  (fun st e1=>by
   subst e1;refine⟨_,?_,rfl⟩;unfold y2k;simp) (by omega) (0,([]:LI),numb 0 l,l) rfl
 rw [ho,he]
theorem yjP{nx l:List (Int×Int)}(hn:nx.length≤4294967296)(hl:(rowF nx l).2.length≤4096):iter (y1A nx) (0,([]:LI),l)=some (rowF nx l):=by
 obtain⟨o,ho,he⟩:=yb (f:=y1A nx) (fun j st=>st=((j:Int),(rowF (nx.take j) l).1,(rowF (nx.take j) l).2)) (fun o=>o=rowF nx l) nx.length 0 (by omega) (fun j st hj e1=>by
   subst e1;have hs:rowF (nx.take (j+1)) l=rowS (rowF (nx.take j) l) nx[j]:=by rw [yTs hj,ydz]
   have h1:=y9h nx l (j+1);have h2:=y9h nx l j;have h3:=y8M (nx.take j) l;rw [yLt] at h3;refine .inl ⟨_,?_,rfl⟩;unfold y1A;simp only [ct_lt hj,if_true,ya hj,yOb];rw [yiD (by omega),yOb,hs];unfold rowS fnd;by_cases hm:nx[j]∈(rowF (nx.take j) l).2
   ·rw [iP hm,iN (by simp),y3k,yv (by simp;omega),yOb,iP hm];simp only [nxt (show j<4611686018427387904 by omega)]
   ·rw [iN hm,iP (by decide),yv (by simp;omega),yOb,y3k,yv (by simp;omega),yOb,iN hm];simp only [nxt (show j<4611686018427387904 by omega)])
  (fun st e1=>by
   subst e1;refine⟨_,?_,rfl⟩;unfold y1A;simp) (by omega) (0,([]:LI),l) rfl
 rw [ho,he]
def evS(i:Int)(st:List (Int×Int)×List E3)(e:Int)(nx:List (Int×Int)):List (Int×Int)×List E3:=((rowF nx st.1).2,st.2++(isL (rowF nx st.1).1).map fun k=>(i,e,k))
theorem y8N{xs:LI}(h:xs.length≤4294967296):yK xs=some (isL xs):=by
 unfold yK;rw [iP h]
theorem yhm{st:Int×(List KeyT)×(List (Int×Int))×LI×EdgL}{e:Int}{ks:LI}{es:List E3}(h:ks.length+es.length≤4294967296):iter (y3T st e ks) (0,es)=some (es++ks.map fun k=>(st.1,e,k)):=
 y5F _ _ es h (fun j hj o=>by
  unfold y3T;simp only [ct_lt hj,if_true,ya hj,yOb]) fun o=>by
  unfold y3T;simp
theorem yhn{st:Int×(List (Int×Int))×LI×EdgL}{e:Int}{ks:LI}{es:List E3}(h:ks.length+es.length≤4294967296):iter (y3j st e ks) (0,es)=some (es++ks.map fun k=>(st.1,e,k)):=
 y5F _ _ es h (fun j hj o=>by
  unfold y3j;simp only [ct_lt hj,if_true,ya hj,yOb]) fun o=>by
  unfold y3j;simp
theorem y9i{α:Type}[DecidableEq α]{lt:α→α→Prop}(he:∀x y,¬lt x y→¬lt y x→x=y):∀{l:List α},l.Pairwise (fun a b=>¬lt b a)→(dd l).Pairwise lt
 | [],_=> .nil
 | [_],_=>List.pairwise_singleton _ _
 | x::y::l,h=>by
  have h1:=yPc.1 h;have ih:=y9i he (l:=y::l) h1.2;unfold dd;split
  ·exact ih
  ·rename_i hxy;refine List.Pairwise.cons (fun z hz=>?_) ih;have hz:=yaS.1 hz;refine Classical.byContradiction fun hn=>?_;have hxz:x=z:=he _ _ hn (h1.1 z hz);subst hxz;rcases yMo.1 hz with e|hz
   ·exact hxy e
   ·exact hxy (he _ _ ((yPc.1 h1.2).1 x hz) (h1.1 y (.head _)))
theorem ltfP{x y:Int×Int}:ltf yj x y=true↔ltP x y:=by
 obtain⟨z,h1,h2⟩:=yhj x y;unfold ltf;rw [h1];simpa using h2
theorem yjQ(xs:List (Int×Int)):(srtL (ltf yj) xs).Pairwise fun a b=>¬ltP b a:=
 (yb2 (ybI (yhk xs)) xs fun _ h=>h).imp fun h=>by rw [←ltfP];simp [h]
theorem yjR(a b:NdT)(p:Int×Int)(e:Int):(stpL a b p e).Pairwise ltP:=y9i (fun x y h1 h2=>by
 unfold ltP at h1 h2;exact Prod.ext (by omega) (by omega)) (yjQ _)
theorem yfO(a b:NdT)(p:Int×Int)(e:Int):(stpL a b p e).Nodup:=(yjR a b p e).imp fun h e=>by subst e;unfold ltP at h;omega
def InG(a b:NdT)(q:Int×Int):Prop:=(0≤q.1∧q.1<a.2.1)∧0≤q.2∧q.2<b.2.1
theorem y2F{xs ys:LI}{q:Int×Int}:q∈ye xs ys↔q.1∈xs∧q.2∈ys:=by
 unfold ye;simp only [List.mem_flatMap,yMp];constructor
 ·rintro ⟨x,hx,y,hy,rfl⟩;exact⟨hx,hy⟩
 ·rintro ⟨h1,h2⟩;exact⟨_,h1,_,h2,rfl⟩
theorem y5N{es:List E3}{s e t:Int}:t∈tgtL es s e↔(s,e,t)∈es:=by
 unfold tgtL;simp only [yMp,List.mem_filter,yAe,beq_iff_eq];constructor
 ·rintro ⟨⟨f,v,t⟩,⟨h1,rfl,rfl⟩,rfl⟩;exact h1
 ·intro h;exact⟨_,⟨h,rfl,rfl⟩,rfl⟩
theorem ycs{a:NdT}(ha:NdOk a){s e t:Int}(hs:0≤s∧s<a.2.1)(h:t∈tsL a s e):0≤t∧t<a.2.1:=by
 unfold tsL at h;split at h
 ·rw [yMs.1 h];exact hs
 ·exact ⟨(ha.esr _ (y5N.1 h)).2.2.1,(ha.esr _ (y5N.1 h)).2.2.2.1⟩
theorem yjS{a b:NdT}(ha:NdOk a)(hb:NdOk b){p q:Int×Int}{e:Int}(hp:InG a b p)(h:q∈rawL a b p e):InG a b q:=by
 unfold rawL at h;split at h
 ·rcases yMa.1 h with h|h
  ·have:=y2F.1 h;exact⟨ycs ha hp.1 this.1,by rw [yMs.1 this.2];exact hp.2⟩
  ·have:=y2F.1 h;exact⟨by rw [yMs.1 this.1];exact hp.1,ycs hb hp.2 this.2⟩
 ·have:=y2F.1 h;exact⟨ycs ha hp.1 this.1,ycs hb hp.2 this.2⟩
theorem yb6{a b:NdT}(ha:NdOk a)(hb:NdOk b){p q:Int×Int}{e:Int}(hp:InG a b p)(h:q∈stpL a b p e):InG a b q:=yjS ha hb hp (yeC.1 h)
theorem ybR{a b:NdT}{l:List (Int×Int)}(hn:l.Nodup)(hl:∀q∈l,InG a b q):l.length≤a.2.1.toNat*b.2.1.toNat:=by
 have h1:=y6a (a.2.1.toNat*b.2.1.toNat) (l.map fun q=>q.1.toNat*b.2.1.toNat+q.2.toNat) ?_ ?_
 ·simpa using h1
 ·unfold List.Nodup;rw [List.pairwise_map];refine List.Pairwise.imp_of_mem (fun {x y} hx hy hne h=>hne ?_) hn;obtain⟨⟨x1,x2⟩,x3,x4⟩:=hl x hx;obtain⟨⟨y1,y2⟩,y3,y4⟩:=hl y hy;have hb:0<b.2.1.toNat:=by omega
  have hx2:x.2.toNat<b.2.1.toNat:=by omega
  have hy2:y.2.toNat<b.2.1.toNat:=by omega
  have e1:x.1.toNat=y.1.toNat:=by
   have:=congrArg (· / b.2.1.toNat) h;simp only [Nat.mul_comm _ b.2.1.toNat,Nat.mul_add_div hb,Nat.div_eq_of_lt hx2,Nat.div_eq_of_lt hy2,Nat.add_zero] at this;exact this
  have e2:x.2.toNat=y.2.toNat:=by
   rw [e1] at h;omega
  exact Prod.ext (by omega) (by omega)
 ·intro k hk;obtain⟨q,hq,rfl⟩:=yMp.1 hk;obtain⟨⟨x1,x2⟩,x3,x4⟩:=hl q hq;have h3:q.1.toNat+1≤a.2.1.toNat:=by omega
  have h4:=Nat.mul_le_mul_right b.2.1.toNat h3;rw [Nat.add_mul,Nat.one_mul] at h4;omega
theorem ybS{a b:NdT}(ha:NdOk a)(hb:NdOk b){p:Int×Int}{e:Int}(hp:InG a b p):(stpL a b p e).length≤a.2.1.toNat*b.2.1.toNat:=ybR (yfO a b p e) fun _ h=>yb6 ha hb hp h
theorem ykA{l:List (Int×Int)}{p:Int×Int}(h:l.Nodup):(fnd l p).2.Nodup:=by
 unfold fnd;split
 ·exact h
 ·rename_i hn;rw [List.nodup_append];exact⟨h,by simp,fun x hx y hy e=>by rw [yMs.1 hy] at e;exact hn (e▸hx)⟩
theorem yjT{nx l:List (Int×Int)}(h:l.Nodup):(rowF nx l).2.Nodup:=by
 have:∀(nx:List (Int×Int)) (st:LI×List (Int×Int)),st.2.Nodup→(nx.foldl rowS st).2.Nodup:=by
  intro nx
  induction nx with
  | nil=>intro st h;exact h
  | cons p nx ih=>intro st h;exact ih _ (ykA h)
 exact this nx ([],l) h
def evF(a b:NdT)(i:Int)(p:Int×Int)(ev:LI)(st:List (Int×Int)×List E3):List (Int×Int)×List E3:=ev.foldl (fun st e=>evS i st e (stpL a b p e)) st
theorem yeG(a b:NdT)(i:Int)(p:Int×Int)(ev:LI)(e:Int)(st:List (Int×Int)×List E3):evF a b i p (ev++[e]) st=evS i (evF a b i p ev st) e (stpL a b p e):=by unfold evF;rw [List.foldl_append];rfl
theorem yiE(xs:LI)(y:Int):ye xs [y]=xs.map fun x=>(x,y):=by
 induction xs with
 | nil=>rfl
 | cons x xs ih=>unfold ye at *;rw [List.flatMap_cons,ih];rfl
theorem yiF(x:Int)(ys:LI):ye [x] ys=ys.map fun y=>(x,y):=by
 unfold ye;simp
structure PsOk (a b:NdT) (l:List (Int×Int)):Prop where
 nd:l.Nodup
 ing:∀q∈l,InG a b q
theorem PsOk.len{a b:NdT}{l:List (Int×Int)}(h:PsOk a b l):l.length≤a.2.1.toNat*b.2.1.toNat:=ybR h.nd h.ing
theorem PsOk.row{a b:NdT}{l nx:List (Int×Int)}(h:PsOk a b l)(hn:∀q∈nx,InG a b q):PsOk a b (rowF nx l).2:=⟨yjT h.nd,fun q hq=>by
 obtain⟨t,h1,h2⟩:=yak nx l;rw [h1] at hq;rcases yMa.1 hq with h3|h3
 ·exact h.ing q h3
 ·exact hn q (h2 q h3)⟩
theorem yct{a b:NdT}(ha:NdOk a)(hb:NdOk b){i:Int}{p:Int×Int}(hp:InG a b p):∀(ev:LI) {st:List (Int×Int)×List E3},PsOk a b st.1→PsOk a b (evF a b i p ev st).1∧(evF a b i p ev st).2.length≤st.2.length+ev.length*(a.2.1.toNat*b.2.1.toNat)
 | [],st,h=>⟨h,by simp [evF]⟩
 | e::ev,st,h=>by
  have h1:=h.row (nx:=stpL a b p e) fun q hq=>yb6 ha hb hp hq;obtain⟨h2,h3⟩:=yct ha hb (i:=i) hp ev (st:=evS i st e (stpL a b p e)) h1;refine⟨h2,?_⟩;show(evF a b i p ev (evS i st e (stpL a b p e))).2.length≤_;have h4:(evS i st e (stpL a b p e)).2.length=st.2.length+(stpL a b p e).length:=by
   unfold evS;rw [yLa,yLm,(y2e _).length_eq,y8M]
  have h5:=ybS ha hb (e:=e) hp;rw [h4] at h3;rw [yLc,Nat.succ_mul];omega
section
variable{a b:NdT}(ha:NdOk a)(hb:NdOk b)(hN:a.2.1.toNat*b.2.1.toNat≤4096)
include ha hb hN
theorem ygl{st0:Int×(List KeyT)×(List (Int×Int))×LI×EdgL}{p:Int×Int}{ev:LI}{l:List (Int×Int)}{es:List E3}(hp:InG a b p)(hl:PsOk a b l)(hev:∀e∈ev,e= -1∨e∈a.1∨e∈b.1)(hes:es.length+ev.length*4096≤4294967296):
  iter (y2l a b st0 p ev) (0,numb 0 l,l,es)=some (.inl (numb 0 (evF a b st0.1 p ev (l,es)).1,evF a b st0.1 p ev (l,es))):=by
 obtain⟨o,ho,he⟩:=yb (f:=y2l a b st0 p ev) (fun j st=>st=((j:Int),numb 0 (evF a b st0.1 p (ev.take j) (l,es)).1,(evF a b st0.1 p (ev.take j) (l,es)).1,(evF a b st0.1 p (ev.take j) (l,es)).2)) (fun o=>o= .inl (numb 0 (evF a b st0.1 p ev (l,es)).1,evF a b st0.1 p ev (l,es))) ev.length 0 (by omega) (fun j st hj e1=>by
   subst e1;obtain⟨k1,k2⟩:=yct ha hb (i:=st0.1) hp (ev.take j) (st:=(l,es)) hl;have hs:evF a b st0.1 p (ev.take (j+1)) (l,es)=evS st0.1 (evF a b st0.1 p (ev.take j) (l,es)) ev[j] (stpL a b p ev[j]):=by rw [yTs hj,yeG]
   generalize evF a b st0.1 p (ev.take j) (l,es)=S at hs k1 k2;have k3:=k1.row (nx:=stpL a b p ev[j]) fun q hq=>yb6 ha hb hp hq;have k4:=k3.len;have k5:=ybS ha hb (e:=ev[j]) hp;have k6:=y8M (stpL a b p ev[j]) S.1;rw [yLt] at k2;have k7:min j ev.length*(a.2.1.toNat*b.2.1.toNat)≤ev.length*4096-4096:=by
    have:=Nat.mul_le_mul (show min j ev.length≤ev.length-1 by omega) hN;rw [Nat.sub_mul] at this;omega
   have k8:4096≤ev.length*4096:=Nat.le_mul_of_pos_left _ (by omega);refine .inl ⟨_,?_,rfl⟩;unfold y2l;simp only [ct_lt hj,if_true,ya hj,yOb];rw [yiB ha hb p (hev _ (yGm hj)),yOb,yjO (by omega) (by omega),yOb];simp only;rw [y8N (by omega),yOb,yhm (by rw [(y2e _).length_eq];dsimp only at k2;omega),yOb,nxt (by omega),hs];rfl)
  (fun st e1=>by
   subst e1;refine⟨_,?_,rfl⟩;unfold y2l;simp) (by omega) (0,numb 0 l,l,es) rfl
 rw [ho,he]
omit hN in
theorem yjU(st0:Int×(List (Int×Int))×LI×EdgL)(st:Int×(List (Int×Int))×EdgL)(p:Int×Int)(ev:LI)(e:Int)(hj:decide (st.1<(ev.length:Int))=true)(hx:idx ev st.1=some e):yV a b st0 p p ev st=y3l st0 st e (rawL a b p e):=by
 have la:=y8s ha p.1 e;have lb:=y8s hb p.2 e;have hr:=ybP ha hb p e;unfold yV;rw [iP hj,hx,yOb];by_cases h1:e= -1
 ·subst h1;have hraw:rawL a b p (-1)=ye (tsL a p.1 (-1)) [p.2]++ye [p.1] (tsL b p.2 (-1)):=by unfold rawL;simp
  rw [iP (by decide),show yr a p.1 (-1)=some (tsL a p.1 (-1)) from y9g ha _ _,yOb];rw [y5F (xs:=tsL a p.1 (-1)) (y3n p (tsL a p.1 (-1))) (fun x=>(x,p.2)) [] (by simp;omega) (fun j hj o=>by
   unfold y3n;simp only [ct_lt hj,if_true,ya hj,yOb]) fun o=>by
   unfold y3n;simp]
  rw [yOb,show yr b p.2 (-1)=some (tsL b p.2 (-1)) from y9g hb _ _,yOb];rw [y5F (xs:=tsL b p.2 (-1)) (y3m p (tsL b p.2 (-1))) (fun x=>(p.1,x)) _ (by simp;omega) (fun j hj o=>by
   unfold y3m;simp only [ct_lt hj,if_true,ya hj,yOb]) fun o=>by
   unfold y3m;simp]
  rw [yOb,hraw,yiE,yiF];rfl
 ·have hraw:rawL a b p e=ye (tsL a p.1 e) (tsL b p.2 e):=by unfold rawL;rw [iN h1]
  rw [iN (by simpa using h1),show yr a p.1 e=some (tsL a p.1 e) from y9g ha _ _,yOb];rw [yaU (xs:=tsL a p.1 e) (y3p b p e (tsL a p.1 e)) (fun x=>(tsL b p.2 e).map fun y=>(x,y)) [] (by omega) (by
   show(ye (tsL a p.1 e) (tsL b p.2 e)).length+0≤_;rw [←hraw];omega) (fun j hj o ho=>by
   unfold y3p;simp only [ct_lt hj,if_true,ya hj,yOb];rw [show yr b p.2 e=some (tsL b p.2 e) from y9g hb _ _,yOb];rw [y5F (xs:=tsL b p.2 e) (y3o (tsL a p.1 e)[j] (tsL b p.2 e)) (fun y=>((tsL a p.1 e)[j],y)) o (by simpa using ho) (fun j hj o=>by
    unfold y3o;simp only [ct_lt hj,if_true,ya hj,yOb]) fun o=>by
    unfold y3o;simp]
   rw [yOb,nxt (by omega)]) fun o=>by
   unfold y3p;simp]
  rw [yOb,hraw];rfl
end
theorem ygm{a b:NdT}(ha:NdOk a)(hb:NdOk b)(hN:a.2.1.toNat*b.2.1.toNat≤4096){st0:Int×(List (Int×Int))×LI×EdgL}{p:Int×Int}{ev:LI}{l:List (Int×Int)}{es:List E3}(hp:InG a b p)(hl:PsOk a b l)(hes:es.length+ev.length*4096≤4294967296):
  iter (yV a b st0 p p ev) (0,l,es)=some (evF a b st0.1 p ev (l,es)):=by
 obtain⟨o,ho,he⟩:=yb (f:=yV a b st0 p p ev) (fun j st=>st=((j:Int),evF a b st0.1 p (ev.take j) (l,es))) (fun o=>o=evF a b st0.1 p ev (l,es)) ev.length 0 (by omega) (fun j st hj e1=>by
   subst e1;obtain⟨k1,k2⟩:=yct ha hb (i:=st0.1) hp (ev.take j) (st:=(l,es)) hl;have hs:evF a b st0.1 p (ev.take (j+1)) (l,es)=evS st0.1 (evF a b st0.1 p (ev.take j) (l,es)) ev[j] (stpL a b p ev[j]):=by rw [yTs hj,yeG]
   rw [yjU ha hb st0 _ p ev ev[j] (ct_lt hj) (ya hj)];generalize evF a b st0.1 p (ev.take j) (l,es)=S at hs k1 k2 ⊢;have k3:=k1.row (nx:=stpL a b p ev[j]) fun q hq=>yb6 ha hb hp hq;have k4:=k3.len;have k5:=ybS ha hb (e:=ev[j]) hp;have k6:=y8M (stpL a b p ev[j]) S.1;rw [yLt] at k2;have k7:min j ev.length*(a.2.1.toNat*b.2.1.toNat)≤ev.length*4096-4096:=by
    have:=Nat.mul_le_mul (show min j ev.length≤ev.length-1 by omega) hN;rw [Nat.sub_mul] at this;omega
   have k8:4096≤ev.length*4096:=Nat.le_mul_of_pos_left _ (by omega);have hr:=ybP ha hb p ev[j];refine .inl ⟨_,?_,rfl⟩;rw [y3l,yiz,yeA hr,yOb,ybq (by rw [(y3t _ _).length_eq];exact hr),yOb];have hrow:=yjP (nx:=stpL a b p ev[j]) (l:=S.1) (by omega) (by omega);unfold stpL at hrow;rw [hrow,yOb];have e2:rowF (dd (srtL (ltf yj) (rawL a b p ev[j]))) S.1=rowF (stpL a b p ev[j]) S.1:=rfl;rw [e2,y8N (by omega),yOb,yhn (by rw [(y2e _).length_eq];dsimp only at k2 ⊢;omega),yOb];simp only [nxt (show j<4611686018427387904 by omega)];rw [hs];rfl)
  (fun st e1=>by
   subst e1;refine⟨evF a b st0.1 p ev (l,es),?_,rfl⟩;rw [List.take_length];unfold yV;simp) (by omega) (0,l,es) rfl
 rw [ho,he]
def prS(a b:NdT)(ev:LI)(i:Nat)(S:List (Int×Int)×LI×List E3):List (Int×Int)×LI×List E3:=
 let p:=S.1.getD i (0,0)
 let r:=evF a b i p ev (S.1,S.2.2)
 (r.1,if(hasB a.2.2.2.1 p.1&&hasB b.2.2.2.1 p.2)=true then S.2.1++[(i:Int)] else S.2.1,r.2)
def prN(a b:NdT)(ev:LI)(l:List (Int×Int)):Nat→List (Int×Int)×LI×List E3
 | 0=>(l,[],[])
 | i+1=>prS a b ev i (prN a b ev l i)
section
variable{a b:NdT}(ha:NdOk a)(hb:NdOk b)(hN:a.2.1.toNat*b.2.1.toNat≤4096){ev:LI}{l:List (Int×Int)}(hl:PsOk a b l)
include ha hb hl
theorem ycu :∀i,(∀j,j<i→j<(prN a b ev l j).1.length)→PsOk a b (prN a b ev l i).1∧(prN a b ev l i).2.1.length≤i∧(prN a b ev l i).2.2.length≤i*(ev.length*(a.2.1.toNat*b.2.1.toNat))
 | 0,_=>⟨hl,yNr _,by simp [prN]⟩
 | i+1,h=>by
  obtain⟨h1,h2,h3⟩:=ycu i fun j hj=>h j (by omega);have hi:=h i (by omega);unfold prN;generalize prN a b ev l i=S at h1 h2 h3 hi;have hp:S.1.getD i (0,0)=S.1[i]:=by rw [yGd,yGe hi];rfl
  obtain⟨k1,k2⟩:=yct ha hb (i:=(i:Int)) (h1.ing _ (yGm hi)) ev (st:=(S.1,S.2.2)) h1;unfold prS;rw [hp];refine⟨k1,?_,?_⟩
  ·dsimp only;split
   ·rw [yLa];simp;omega
   ·omega
  ·dsimp only at k2 ⊢;rw [Nat.succ_mul];omega
theorem yjV :∃n,n≤a.2.1.toNat*b.2.1.toNat∧(∀j,j<n→j<(prN a b ev l j).1.length)∧(prN a b ev l n).1.length≤n:=by
 refine Classical.byContradiction fun hn=>?_;have:∀i,i≤a.2.1.toNat*b.2.1.toNat+1→∀j,j<i→j<(prN a b ev l j).1.length:=by
  intro i
  induction i with
  | zero=>intro _ j hj;omega
  | succ i ih=>
   intro hi j hj;by_cases hji:j=i
   ·subst hji;refine Classical.byContradiction fun hlt=>hn ⟨j,by omega,ih (by omega),by omega⟩
   ·exact ih (by omega) j (by omega)
 have h1:=this _ (yNr _);have h2:=h1 (a.2.1.toNat*b.2.1.toNat) (by omega);have h3:=(ycu ha hb hl (ev:=ev) (a.2.1.toNat*b.2.1.toNat) fun j hj=>h1 j (by omega)).1.len;omega
end
section
variable{a b:NdT}(ha:NdOk a)(hb:NdOk b)(hN:a.2.1.toNat*b.2.1.toNat≤4096){un:LI}(hu:un.length≤64){l:List (Int×Int)}(hl:PsOk a b l)
include ha hb hN hu hl
theorem yho{n:Nat}(hn:n≤4096)(hj:∀j,j<n→j<(prN a b (-1::un) l j).1.length){i:Nat}(hi:i<n):∃p,(prN a b (-1::un) l i).1[i]? =some p∧InG a b p∧PsOk a b (prN a b (-1::un) l i).1∧(prN a b (-1::un) l i).2.1.length≤4096∧(prN a b (-1::un) l i).2.2.length≤65*4096*4096:=by
 obtain⟨h1,h2,h3⟩:=ycu ha hb hl (ev:= -1::un) i fun j hj'=>hj j (by omega);have hlt:=hj i hi;refine⟨_,yGe hlt,h1.ing _ (yGm hlt),h1,by omega,Nat.le_trans h3 ?_⟩;have h4:(-1::un).length*(a.2.1.toNat*b.2.1.toNat)≤65*4096:=Nat.mul_le_mul (by simp;omega) hN
 calc i*((-1::un).length*(a.2.1.toNat*b.2.1.toNat))≤4096*(65*4096):=Nat.mul_le_mul (by omega) h4
  _=65*4096*4096:=by omega
theorem ygn(hun:∀e∈un,e∈a.1∨e∈b.1){n:Nat}(hn:n≤4096)(hj:∀j,j<n→j<(prN a b (-1::un) l j).1.length)(he:(prN a b (-1::un) l n).1.length≤n):
  iter (y3U a b un) (0,numb 0 l,l,([]:LI),([]:List E3))=some (.inl (prN a b (-1::un) l n)):=by
 refine ydY (fun i=>((i:Int),numb 0 (prN a b (-1::un) l i).1,prN a b (-1::un) l i)) n (by omega) (fun i hi=>?_) ?_
 ·obtain ⟨p,hp,k1,k2,k3,k4⟩:=yho ha hb hN hu hl hn hj hi;have hlt:=hj i hi;have hget:(prN a b (-1::un) l i).1.getD i (0,0)=p:=by rw [yGd,hp];rfl
  have hs:prN a b (-1::un) l (i+1)=prS a b (-1::un) i (prN a b (-1::un) l i):=rfl;rw [hs];unfold prS;rw [hget];generalize prN a b (-1::un) l i=S at hp k2 k3 k4 hlt;have hx:S.1[i]=p:=by rw [yGe hlt] at hp;exact ySi hp
  unfold y3U;simp only [ct_lt hlt,if_true,ya hlt,yOb,hx];have hma:=ha.lm;have hmb:=hb.lm;rw [y4a (by omega) ha.mks,yOb];have hb2:(if hasB a.2.2.2.1 p.1=true then(yp b.2.2.2.1 p.2).bind fun r=>some r else some false)=some (hasB a.2.2.2.1 p.1&&hasB b.2.2.2.1 p.2):=by
   rw [y4a (by omega) hb.mks];cases hasB a.2.2.2.1 p.1 <;> simp
  rw [hb2,yOb];have hev:∀mk:LI,y2m a b un ((i:Int),numb 0 S.1,S) p mk=some (.inl (((i+1:Nat):Int),numb 0 (evF a b i p (-1::un) (S.1,S.2.2)).1,(evF a b i p (-1::un) (S.1,S.2.2)).1,mk,(evF a b i p (-1::un) (S.1,S.2.2)).2)):=fun mk=>by
   rw [y2m,yv (by simp;omega),yOb];have:=ygl ha hb hN (st0:=((i:Int),numb 0 S.1,S)) (p:=p) (ev:= -1::un) (l:=S.1) (es:=S.2.2) k1 k2 (fun e he=>by
    rcases yMo.1 he with h|h
    ·exact .inl h
    ·exact .inr (hun e h)) (by simp;omega)
   rw [show ([-1]:LI)++un= -1::un from rfl,this,yOb];simp only [nxt (show i<4611686018427387904 by omega)]
  split
  ·rw [yv (by simp;omega),yOb,hev]
  ·rw [hev]
 ·unfold y3U;rw [iN (by simp;omega)]
theorem ygo{n:Nat}(hn:n≤4096)(hj:∀j,j<n→j<(prN a b (-1::un) l j).1.length)(he:(prN a b (-1::un) l n).1.length≤n):
  iter (y3r a b un) (0,l,([]:LI),([]:List E3))=some (prN a b (-1::un) l n):=by
 refine ydY (fun i=>((i:Int),prN a b (-1::un) l i)) n (by omega) (fun i hi=>?_) ?_
 ·obtain ⟨p,hp,k1,k2,k3,k4⟩:=yho ha hb hN hu hl hn hj hi;have hlt:=hj i hi;have hget:(prN a b (-1::un) l i).1.getD i (0,0)=p:=by rw [yGd,hp];rfl
  have hs:prN a b (-1::un) l (i+1)=prS a b (-1::un) i (prN a b (-1::un) l i):=rfl;rw [hs];unfold prS;rw [hget];generalize prN a b (-1::un) l i=S at hp k2 k3 k4 hlt;have hx:S.1[i]=p:=by rw [yGe hlt] at hp;exact ySi hp
  unfold y3r;simp only [ct_lt hlt,if_true,ya hlt,yOb,hx];have hma:=ha.lm;have hmb:=hb.lm;rw [y5M (by omega),yOb];have hb2:(if hasB a.2.2.2.1 p.1=true then(yl b.2.2.2.1 p.2).bind fun r=>some r else some false)=some (hasB a.2.2.2.1 p.1&&hasB b.2.2.2.1 p.2):=by
   rw [y5M (by omega)];cases hasB a.2.2.2.1 p.1 <;> simp
  rw [hb2,yOb];have hev:∀mk:LI,y3q a b un ((i:Int),S) p p mk=some (.inl (((i+1:Nat):Int),(evF a b i p (-1::un) (S.1,S.2.2)).1,mk,(evF a b i p (-1::un) (S.1,S.2.2)).2)):=fun mk=>by
   rw [y3q,yv (by simp;omega),yOb];have:=ygm ha hb hN (st0:=((i:Int),S)) (p:=p) (ev:= -1::un) (l:=S.1) (es:=S.2.2) k1 k2 (by simp;omega);rw [show ([-1]:LI)++un= -1::un from rfl,this,yOb];simp only [nxt (show i<4611686018427387904 by omega)]
  split
  ·rw [yv (by simp;omega),yOb,hev]
  ·rw [hev]
 ·unfold y3r;rw [iN (by simp;omega)]
end
def numsL(n:Nat):LI:=(List.range n).map fun i:Nat=>(i:Int)
theorem ycv(n:Nat):numsL (n+1)=numsL n++[(n:Int)]:=by unfold numsL;rw [List.range_succ,List.map_append];rfl
theorem yaV(n:Nat):(numsL n).length=n:=by simp [numsL]
theorem ykB{ys:LI}(x:Int)(l:List (Int×Int))(hl:ys.length+l.length≤4096):iter (yH ([],0,ys,[],[]) x) (0,l,numsL l.length)=some (l++ys.map (fun y=>(x,y)),numsL (l.length+ys.length)):=by
 obtain⟨o,ho,he⟩:=yb (f:=yH ([],0,ys,[],[]) x) (fun j st=>st=((j:Int),l++(ys.take j).map (fun y=>(x,y)),numsL (l.length+j))) (fun o=>o=(l++ys.map (fun y=>(x,y)),numsL (l.length+ys.length))) ys.length 0 (by omega) (fun j st hj e1=>by
   subst e1;refine .inl ⟨_,?_,rfl⟩;unfold yH;simp only [ct_lt hj,if_true,ya hj,yOb];rw [yv (by simp [yaV];omega),yOb,yv (by simp;omega),yOb,nxt (by omega)];have h1:(l++(ys.take j).map fun y=>(x,y)).length=l.length+j:=by simp;omega
   rw [h1,show l.length+(j+1)=(l.length+j)+1 by omega,ycv,yTs hj,List.map_append,yAa];rfl)
  (fun st e1=>by
   subst e1;refine⟨_,?_,rfl⟩;unfold yH;simp) (by omega) (0,l,numsL l.length) (by simp)
 rw [ho,he]
theorem yiG{a b:NdT}(h:a.2.2.1.length*b.2.2.1.length≤4096)(h2:a.2.2.1.length≤1000000):iter (y1B a b) (0,([]:List (Int×Int)),([]:LI))=some (ye a.2.2.1 b.2.2.1,numsL (ye a.2.2.1 b.2.2.1).length):=by
 obtain⟨o,ho,he⟩:=yb (f:=y1B a b) (fun j st=>st=((j:Int),ye (a.2.2.1.take j) b.2.2.1,numsL (ye (a.2.2.1.take j) b.2.2.1).length)) (fun o=>o=(ye a.2.2.1 b.2.2.1,numsL (ye a.2.2.1 b.2.2.1).length)) a.2.2.1.length 0 (by omega) (fun j st hj e1=>by
   subst e1;refine .inl ⟨_,?_,rfl⟩;have hs:ye (a.2.2.1.take (j+1)) b.2.2.1=ye (a.2.2.1.take j) b.2.2.1++b.2.2.1.map fun y=>(a.2.2.1[j],y):=by
    unfold ye;rw [yTs hj,List.flatMap_append];simp
   have hb:b.2.2.1.length+(ye (a.2.2.1.take j) b.2.2.1).length≤4096:=by
    rw [y6N,yLt,Nat.min_eq_left (by omega)];have:=Nat.mul_le_mul_right b.2.2.1.length (show j+1≤a.2.2.1.length by omega);rw [Nat.succ_mul] at this;omega
   unfold y1B;simp only [ct_lt hj,if_true,ya hj,yOb];have:=ykB (ys:=b.2.2.1) a.2.2.1[j] (ye (a.2.2.1.take j) b.2.2.1) hb;have e2:yH b a.2.2.1[j]=yH ([],0,b.2.2.1,[],[]) a.2.2.1[j]:=rfl;rw [e2,this,yOb,nxt (by omega),hs,yLa,yLm])
  (fun st e1=>by
   subst e1;refine⟨(ye a.2.2.1 b.2.2.1,numsL (ye a.2.2.1 b.2.2.1).length),?_,rfl⟩;rw [List.take_length];unfold y1B;simp) (by omega) (0,[],[]) rfl
 rw [ho,he]
theorem yiH{r:List (Int×Int)}(hn:r.Nodup)(hl:r.length≤4096):iter (y2n r) (0,([]:List KeyT),([]:List (Int×Int)),([]:LI))=some (.inl (numb 0 r,r,numsL r.length)):=by
 obtain⟨o,ho,he⟩:=yb (f:=y2n r) (fun j st=>st=((j:Int),numb 0 (r.take j),r.take j,numsL j)) (fun o=>o= .inl (numb 0 r,r,numsL r.length)) r.length 0 (by omega) (fun j st hj e1=>by
   subst e1;refine .inl ⟨_,?_,rfl⟩;have hlen:(r.take j).length=j:=by rw [yLt];omega
   have hm:r[j]∉r.take j:=fun hm=>by
    obtain⟨k,hk,e⟩:=List.mem_iff_getElem.1 hm;rw [List.getElem_take] at e;exact yPg.1 hn k j (by omega) hj (by omega) e
   have hf:fnd (r.take j) r[j]=((j:Int),r.take (j+1)):=by
    unfold fnd;rw [iN hm,hlen,yTs hj]
   unfold y2n;simp only [ct_lt hj,if_true,ya hj,yOb];rw [yfN (by omega),yOb,hf];simp only;rw [yv (by simp [yaV];omega),yOb,iN (by simp;omega),nxt (by omega),ycv])
  (fun st e1=>by
   subst e1;refine⟨.inl (numb 0 r,r,numsL r.length),?_,rfl⟩;rw [List.take_length];unfold y2n;simp) (by omega) (0,[],[],[]) rfl
 rw [ho,he]
theorem ydA{xs ys:LI}(h:xs.length+ys.length≤1000000):y3z xs ys=some (dd (isL (xs++ys))):=by
 rw [y3z,yn,yv (by simp;omega),yOb,yOb,List.nil_append,yv (by omega),yOb,y8N (by simp;omega),yOb,y9w (by rw [(y2e _).length_eq];simp;omega),yOb]
theorem y6c(xs:LI):(dd (isL xs)).Pairwise (· < ·):=y9i (lt:=fun a b:Int=>a<b) (fun x y h1 h2=>by omega) ((ycg xs).imp fun h=>by omega)
theorem y6d{xs:LI}{x:Int}:x∈dd (isL xs)↔x∈xs:=by rw [yaS,(y2e xs).mem_iff]
theorem y9P{xs:LI}{n:Int}(hi:xs.Pairwise (· < ·))(hr:∀x∈xs,0≤x∧x<n)(hl:xs.length≤1000000):y1G xs n=some 0:=by
 obtain⟨o,ho,he⟩:=yb (f:=y4A xs n) (fun j st=>st=(j:Int)) (fun o=>o= .inl ()) xs.length 0 (by omega) (fun j st hj e1=>by
   subst e1;refine .inl ⟨_,?_,rfl⟩;have h1:=hr _ (yGm hj);unfold y4A;rw [iP (ct_lt hj),ya hj,yOb,iN (by simp;omega)];by_cases h0:j=0
   ·subst h0;rw [iN (by simp),yOb,iN (by simp)];rfl
   ·rw [iP (by simp;omega),show(j:Int)-1=((j-1:Nat):Int) by omega,W_nat (by omega),ya (show j-1<xs.length by omega),yOb,yOb];have h2:=yPg.1 hi (j-1) j (by omega) hj (by omega);rw [iN (by simpa using h2),nxt (by omega)])
  (fun st e1=>by
   subst e1;refine⟨.inl (),?_,rfl⟩;unfold y4A;rw [iN ct_ge]) (by omega) 0 rfl
 rw [y1G,ho,he];rfl
theorem y6O{a:NdT}(ha:NdOk a):yE a=some 0:=by
 have hn0:=ha.n0;have hn1:=ha.n1;have hle:=ha.le;have hla:=ha.la;have h1:iter (yD a) 0=some (.inl ()):=y5x (n:=3) (by omega) (by
  have e0:yD a 0=some (.inl 1):=by
   unfold yD;rw [iP (by decide),show idx [a.2.2.1,a.2.2.2.1] 0=some a.2.2.1 from rfl,yOb,y9P ha.ini ha.inr ha.li];rfl
  have e1:yD a 1=some (.inl 2):=by
   unfold yD;rw [iP (by decide),show idx [a.2.2.1,a.2.2.2.1] 1=some a.2.2.2.1 from rfl,yOb,y9P ha.mks ha.mkr ha.lm];rfl
  have e2:yD a 2=some (.inr (.inl ())):=rfl;rw [yi,e0];dsimp only;rw [yi,e1];dsimp only;rw [yi,e2])
 obtain⟨o,ho,he⟩:=yb (f:=y2X a) (fun j st=>st=(j:Int)) (fun o=>o= .inl ()) a.2.2.2.2.length 0 (by omega) (fun j st hj e1=>by
   subst e1;refine .inl ⟨_,?_,rfl⟩;obtain⟨g1,g2,g3,g4,g5⟩:=ha.esr _ (yGm hj);unfold y2X;rw [iP (ct_lt hj),ya hj,yOb,iN (by simp;omega)];have hc:(if (a.2.2.2.2[j].2.1 != -1)=true then(yp a.1 a.2.2.2.2[j].2.1).bind fun r51=>some (!r51) else some false)=some false:=by
    rcases g5 with h|h
    ·rw [iN (by simp [h])]
    ·split
     ·rw [y4a (by omega) ha.al,yd.2 h];rfl
     ·rfl
   rw [hc,yOb,iN (by simp)];by_cases h0:j=0
   ·subst h0;rw [iN (by simp)];rfl
   ·rw [iP (by simp;omega),show(j:Int)-1=((j-1:Nat):Int) by omega,W_nat (by omega),ya (show j-1<a.2.2.2.2.length by omega),yOb];have h2:=yPg.1 ha.es (j-1) j (by omega) hj (by omega);obtain⟨z,z1,z2,z3⟩:=yaj a.2.2.2.2[j-1] a.2.2.2.2[j];rw [z1,yOb,y2W,iN (by
     have:=z2.2 h2;simp;omega),nxt (by omega)])
  (fun st e1=>by
   subst e1;refine⟨.inl (),?_,rfl⟩;unfold y2X;rw [iN ct_ge]) (by omega) 0 rfl
 rw [yE,iN (by simp;omega),iN (by simp;omega),y9P ha.al ha.alr ha.la,yOb,iN (by simp),h1,yOb,ho,he];rfl
theorem incE :∀{xs ys:LI},Inc xs→Inc ys→(∀x,x∈xs↔x∈ys)→xs=ys
 | [],[],_,_,_=>rfl
 | [],y::ys,_,_,h=>by have:=(h y).2 (yMc ..);cases this
 | x::xs,[],_,_,h=>by have:=(h x).1 (yMc ..);cases this
 | x::xs,y::ys,hx,hy,h=>by
  obtain⟨x1,x2⟩:=yPc.1 hx;obtain⟨y1,y2⟩:=yPc.1 hy;have e:x=y:=by
   rcases yMo.1 ((h x).1 (yMc ..)) with h1|h1
   ·exact h1
   ·rcases yMo.1 ((h y).2 (yMc ..)) with h2|h2
    ·exact h2.symm
    ·have:=x1 y h2;have:=y1 x h1;omega
  subst e;rw [incE x2 y2 (fun z=>?_)];constructor
  ·intro hz;rcases yMo.1 ((h z).1 (yMm _ hz)) with h1|h1
   ·have:=x1 z hz;omega
   ·exact h1
  ·intro hz;rcases yMo.1 ((h z).2 (yMm _ hz)) with h1|h1
   ·have:=y1 z hz;omega
   ·exact h1
theorem ygp{xs ys:LI}(hx:xs.Pairwise (· < ·))(hy:ys.Pairwise (· < ·))(lx:xs.length≤1000000)(ly:ys.length≤1000000):y4x xs ys=some (dd (isL (xs++ys))):=by
 rw [ydv lx ly];obtain⟨h1,h2⟩:=y6M (fun a b=>a||b) xs ys hx hy;rw [incE h1 (y6c _) fun x=>by
  rw [h2,y6d,yMa];constructor
  ·exact fun h=>h.1
  ·intro h;refine⟨h,?_⟩;rcases h with h|h
   ·rw [yd.2 h];rfl
   ·rw [yd.2 h];simp]
theorem ydB{xs ys:LI}(hx:xs.Nodup)(hy:ys.Nodup):(ye xs ys).Nodup:=by
 induction xs with
 | nil=>exact .nil
 | cons x xs ih=>
  have h:=List.nodup_cons.1 hx;have e:ye (x::xs) ys=ys.map (fun y=>(x,y))++ye xs ys:=by unfold ye;rw [List.flatMap_cons]
  rw [e,List.nodup_append];refine⟨?_,ih h.2,fun p hp q hq e=>?_⟩
  ·unfold List.Nodup;rw [List.pairwise_map];exact hy.imp fun hne e=>hne (congrArg Prod.snd e)
  ·subst e;obtain⟨y,_,rfl⟩:=yMp.1 hp;exact h.1 (y2F.1 hq).1
theorem ygq{a b:NdT}(ha:NdOk a)(hb:NdOk b)(hN:a.2.1.toNat*b.2.1.toNat≤4096)(lu:a.1.length+b.1.length≤64):∃n,n≤4096∧(∀j,j<n→j<(prN a b (-1::dd (isL (a.1++b.1))) (ye a.2.2.1 b.2.2.1) j).1.length)∧(prN a b (-1::dd (isL (a.1++b.1))) (ye a.2.2.1 b.2.2.1) n).1.length≤n∧
  PsOk a b (ye a.2.2.1 b.2.2.1)∧
  y4n a b=some ((dd (isL (a.1++b.1)),((prN a b (-1::dd (isL (a.1++b.1))) (ye a.2.2.1 b.2.2.1) n).1.length:Int),numsL (ye a.2.2.1 b.2.2.1).length,(prN a b (-1::dd (isL (a.1++b.1))) (ye a.2.2.1 b.2.2.1) n).2),(prN a b (-1::dd (isL (a.1++b.1))) (ye a.2.2.1 b.2.2.1) n).1)∧
  yz a b=some ((dd (isL (a.1++b.1)),((prN a b (-1::dd (isL (a.1++b.1))) (ye a.2.2.1 b.2.2.1) n).1.length:Int),numsL (ye a.2.2.1 b.2.2.1).length,(prN a b (-1::dd (isL (a.1++b.1))) (ye a.2.2.1 b.2.2.1) n).2),(prN a b (-1::dd (isL (a.1++b.1))) (ye a.2.2.1 b.2.2.1) n).1,0):=by
 have na:a.2.2.1.Nodup:=ha.ini.imp fun h=>by omega
 have nb:b.2.2.1.Nodup:=hb.ini.imp fun h=>by omega
 have hps:PsOk a b (ye a.2.2.1 b.2.2.1):=⟨ydB na nb,fun q hq=>⟨ha.inr _ (y2F.1 hq).1,hb.inr _ (y2F.1 hq).2⟩⟩;have hlen:=hps.len;have hu:(dd (isL (a.1++b.1))).length≤64:=by
  have:=y9N (isL (a.1++b.1));rw [(y2e _).length_eq,yLa] at this;omega
 have hcl:=y6N a.2.2.1 b.2.2.1;obtain⟨n,h1,h2,h3⟩:=yjV ha hb hps (ev:= -1::dd (isL (a.1++b.1)));have li:=ha.li;have lj:=hb.li;have hla:=ha.la;have hlb:=hb.la;refine⟨n,by omega,h2,h3,hps,?_,?_⟩
 ·rw [y4n,ydA (by omega),yOb,yiG (by omega) (by omega),yOb,ygo ha hb hN hu hps (by omega) h2 h3,yOb]
 ·have hc1:iter (yN a b) 0=some (.inl ()):=y5x (n:=3) (by omega) (by
   have e0:yN a b 0=some (.inl 1):=by
    unfold yN;rw [iP (by decide),show idx [a,b] 0=some a from rfl,yOb,y6O ha];rfl
   have e1:yN a b 1=some (.inl 2):=by
    unfold yN;rw [iP (by decide),show idx [a,b] 1=some b from rfl,yOb,y6O hb];rfl
   have e2:yN a b 2=some (.inr (.inl ())):=rfl;rw [yi,e0];dsimp only;rw [yi,e1];dsimp only;rw [yi,e2])
  have hia:a.2.2.1.length≤4096:=by
   have h4:(a.2.2.1.map Int.toNat).length≤a.2.1.toNat:=y6a _ _ (by
    unfold List.Nodup;rw [List.pairwise_map];exact List.Pairwise.imp_of_mem (fun {x y} hx hy h e=>by
     have:=ha.inr x hx;have:=ha.inr y hy;omega) ha.ini) (fun k hk=>by
    obtain⟨x,hx,rfl⟩:=yMp.1 hk;have:=ha.inr x hx;omega)
   have:=ha.n1;rw [yLm] at h4;omega
  have hib:b.2.2.1.length≤4096:=by
   have h4:(b.2.2.1.map Int.toNat).length≤b.2.1.toNat:=y6a _ _ (by
    unfold List.Nodup;rw [List.pairwise_map];exact List.Pairwise.imp_of_mem (fun {x y} hx hy h e=>by
     have:=hb.inr x hx;have:=hb.inr y hy;omega) hb.ini) (fun k hk=>by
    obtain⟨x,hx,rfl⟩:=yMp.1 hk;have:=hb.inr x hx;omega)
   have:=hb.n1;rw [yLm] at h4;omega
  rw [yz,hc1,yOb];simp only;rw [ygp ha.al hb.al ha.la hb.la,yOb,y7D (by omega) (by omega),yOb,yiH (ydB na nb) (by omega),yOb];simp only;rw [ygn ha hb hN hu hps (fun e he=>yMa.1 (y6d.1 he)) (by omega) h2 h3,yOb]
theorem y7Z{l t:List (Int×Int)}{p:Int×Int}(h:p∈l):(l++t).idxOf p=l.idxOf p:=by
 rw [List.idxOf_append,iP h]
theorem yfP(l:List (Int×Int))(p:Int×Int):p∈(fnd l p).2∧((fnd l p).2.idxOf p:Int)=(fnd l p).1:=by
 unfold fnd;split
 ·rename_i h;exact⟨h,rfl⟩
 ·rename_i h;refine⟨by simp,?_⟩;rw [List.idxOf_append,iN h];simp
theorem ydC :∀(nx:List (Int×Int)) (st:LI×List (Int×Int)),(nx.foldl rowS st).1=st.1++nx.map fun p=>((nx.foldl rowS st).2.idxOf p:Int)
 | [],st=>by simp
 | p::nx,st=>by
  have ih:=ydC nx (rowS st p);obtain⟨t,h1,_⟩:=(y7l nx (rowS st p)).2;obtain⟨h2,h3⟩:=yfP st.2 p;rw [List.foldl_cons,ih,List.map_cons,h1];show st.1++[(fnd st.2 p).1]++_=_;have h4:(rowS st p).2=(fnd st.2 p).2:=rfl;rw [h4,y7Z h2,h3,yAa];rfl
theorem y8a :∀(nx:List (Int×Int)) (st:LI×List (Int×Int)),∀p∈nx,p∈(nx.foldl rowS st).2
 | q::nx,st,p,h=>by
  rcases yMo.1 h with rfl|h
  ·obtain ⟨t,h1,_⟩:=(y7l nx (rowS st p)).2;rw [List.foldl_cons,h1];exact yMl _ (yfP st.2 p).1
  ·exact y8a nx _ p h
theorem ybT(nx l:List (Int×Int)):(rowF nx l).1=nx.map fun p=>((rowF nx l).2.idxOf p:Int):=by
 have:=ydC nx ([],l);rw [List.nil_append] at this;exact this
theorem yiI{nx l:List (Int×Int)}(hn:nx.Nodup):(isL (rowF nx l).1).Pairwise (· < ·)∧∀k∈isL (rowF nx l).1,0≤k∧k<((rowF nx l).2.length:Int):=by
 have hnd:(rowF nx l).1.Nodup:=by
  rw [ybT];unfold List.Nodup;rw [List.pairwise_map];refine List.Pairwise.imp_of_mem (fun {x y} hx hy hne e=>hne ?_) hn;have hx:=y8a nx ([],l) x hx;have hy:=y8a nx ([],l) y hy;have e2:(rowF nx l).2.idxOf x=(rowF nx l).2.idxOf y:=by omega
  have h1:=List.getElem_idxOf (List.idxOf_lt_length_of_mem hx);have h2:=List.getElem_idxOf (List.idxOf_lt_length_of_mem hy);rw [←h1,←h2];congr 1
 refine⟨?_,fun k hk=>?_⟩
 ·have h1:=ycg (rowF nx l).1;have h2:(isL (rowF nx l).1).Nodup:=(y2e _).nodup_iff.2 hnd;exact h1.imp₂ (fun _ _ h h'=>by omega) h2
 ·rw [(y2e _).mem_iff,ybT] at hk;obtain⟨p,hp,rfl⟩:=yMp.1 hk;have:=List.idxOf_lt_length_of_mem (y8a nx ([],l) p hp);exact⟨by omega,by show(((rowF nx l).2.idxOf p:Nat):Int)<_;have h3:(rowF nx l).2.idxOf p<(rowF nx l).2.length:=this;omega⟩
theorem yaW(a b:NdT)(i:Int)(p:Int×Int):∀(ev:LI) (st:List (Int×Int)×List E3),ev.Pairwise (· < ·)→∃new,(evF a b i p ev st).2=st.2++new∧new.Pairwise ltE3∧(∀x∈new,x.1=i∧x.2.1∈ev∧0≤x.2.2∧x.2.2<((evF a b i p ev st).1.length:Int))∧∃t,(evF a b i p ev st).1=st.1++t
 | [],st,_=>⟨[],by simp [evF],.nil,by simp,[],by simp [evF]⟩
 | e::ev,st,h=>by
  have hp:=yPc.1 h;obtain⟨new,h1,h2,h3,t,h4⟩:=yaW a b i p ev (evS i st e (stpL a b p e)) hp.2;obtain⟨u,h5,_⟩:=yak (stpL a b p e) st.1;obtain⟨k1,k2⟩:=yiI (l:=st.1) (yfO a b p e);have e1:evF a b i p (e::ev) st=evF a b i p ev (evS i st e (stpL a b p e)):=rfl;have e2:(evS i st e (stpL a b p e)).2=st.2++(isL (rowF (stpL a b p e) st.1).1).map fun k=>(i,e,k):=rfl;have e3:(evS i st e (stpL a b p e)).1=(rowF (stpL a b p e) st.1).2:=rfl;refine⟨(isL (rowF (stpL a b p e) st.1).1).map (fun k=>(i,e,k))++new,?_,?_,fun x hx=>?_,u++t,?_⟩
  ·rw [e1,h1,e2,yAa]
  ·rw [List.pairwise_append];refine⟨?_,h2,fun x hx y hy=>?_⟩
   ·rw [List.pairwise_map];exact k1.imp fun h=>by unfold ltE3;simp;exact h
   ·obtain ⟨k,_,rfl⟩:=yMp.1 hx;obtain⟨g1,g2,_⟩:=h3 y hy;have:=hp.1 _ g2;unfold ltE3;dsimp only;omega
  ·rw [e1];rcases yMa.1 hx with hx|hx
   ·obtain ⟨k,hk,rfl⟩:=yMp.1 hx;have:=k2 k hk;refine⟨rfl,.head _,this.1,?_⟩;rw [h4,e3,yLa];dsimp only;omega
   ·obtain ⟨g1,g2,g3⟩:=h3 x hx;exact⟨g1,.tail _ g2,g3⟩
  ·rw [e1,h4,e3,h5,yAa]
end
end
end Go.Proofs.YtfdeiphkmjdifaaGreatDoor
