/- Parts of the proof, without what nothing here names. -/
import Derived.Test.YtfdeiphkmjdifaaGreatDoorProg
import Derived.Test.YtfdeiphkmjdifaaGreatDoorQs5
set_option maxRecDepth 100000
set_option maxHeartbeats 8000000
namespace Go.Proofs.YtfdeiphkmjdifaaGreatDoor
section
open Tryz Go Go.RowKit
noncomputable section
def y4l(a:Int×List LI×(List (Int×LI)))(b:List LI)(c:List (Int×LI)):Option ((Int×List LI×(List (Int×LI)))⊕(List LI)):=
 some (.inl (W (a.1+1),b,c))
def yP(a:Int×(List (Int×LI)))(b:List (Int×LI)):Option ((Int×(List (Int×LI)))⊕(List (Int×LI))):=
 some (.inl (W (a.1+1),b))
def yQ(p0:TskT)(b:Int×List LI×(List (Int×LI)))(a:Int×(List (Int×LI))):Option ((Int×(List (Int×LI)))⊕(List (Int×LI))):=
 if decide (a.1<(p0.2.2.2.2.1.length:Int)) then
  (idx p0.2.2.2.2.1 a.1).bind fun c=>
  (idx a.2 b.1).bind fun h=>
  (y1g p0.1 h.1 c).bind fun d=>
  (if (d != (-1)) then
   (idx a.2 b.1).bind fun l=>
   (yf l.2 c).bind fun g=>
   some (!g)
  else
   some false).bind fun e=>
  if e then
   (idx a.2 b.1).bind fun i=>
   (yB i.2).bind fun f=>
   (app f ([c]:LI)).bind fun j=>
   (app a.2 ([(d,j)]:List (Int×LI))).bind fun k=>
   yP a k
  else
   yP a a.2
 else
  some (.inr a.2)
def y4m(p0:TskT)(p2:Int)(a:Int×List LI×(List (Int×LI)))(b:List LI):Option ((Int×List LI×(List (Int×LI)))⊕(List LI)):=
 (idx a.2.2 a.1).bind fun d=>
 if((d.2.length:Int)==p2) then
  y4l a b a.2.2
 else
  (iter (yQ p0 a) (0,a.2.2)).bind fun c=>
  y4l a b c
def y5X(p0:TskT)(p2:Int)(a:Int×List LI×(List (Int×LI))):Option ((Int×List LI×(List (Int×LI)))⊕(List LI)):=
 if decide (a.1<(a.2.2.length:Int)) then
  (idx a.2.2 a.1).bind fun b=>
  if decide ((b.2.length:Int)>1) then
   (idx a.2.2 a.1).bind fun c=>
   (app a.2.1 ([c.2]:List LI)).bind fun d=>
   y4m p0 p2 a d
  else
   y4m p0 p2 a a.2.1
 else
  some (.inr a.2.1)
def y4n(p0:TskT)(p1:Int)(p2:Int):Option (List LI):=
 (idx p0.2.2.2.1 p1).bind fun b=>
 (idx b 0).bind fun c=>
 (iter (y5X p0 p2) (0,([]:List LI),([(c,([]:LI))]:List (Int×LI)))).bind fun a=>
 some a
theorem y9c{p0:TskT}{p1:Int}{p2:Int}{r:List LI}(hm:y4n p0 p1 p2=some r):
  F0 126 [.o (lQ 192 (lx192 p0) 0),.i p1,.i p2] [] (.h 0) [ROW (rL qI) 26 r]:=by
 refine Fw.mk2 func126 ntmps126 R (fun C=>?_) R;refine .sr (.an R (.sv R (.op (O.nc .Q Z R R) R (.fq ybl R (.lq nag74 R (.mv R (bS hm fun x1 a6 hm=> .ix sl74 a6 R (.le nag26 lv26 R (bS hm fun x2 a7 hm=> .ix sl26 a7 R (.le nag3 lv3 R (.bu [lI x2,lN] pl286 R (.op (O.bsO (r:=rE286) (zs:=([(x2,([]:LI))]:List (Int×LI))) 0 R bs287 R R Z R R R (.c (.p .k .n) .n) R R R) R (.an R (.sr (.an R (.seq (.sr (.an R (.block (bS hm fun H M hm=>?_))))))))))))))))))));refine .cut1 (z:= .exit 0) H (fun (H:List LI)=>⟨[(8,.h 0)],[(0,ROW (rL qI) 26 H)],1⟩) ?_ fun a3=>?_
 ·skip
  refine .blkE (.seqN (.sv R (.an R (.ret ?_))));cases hm;exact .rr [0] results126 (.tmp R .nil) R I3 ⟨⟨_,R,I4⟩,trivial⟩
 refine .nlg (rL qI) 26 8 0 R R (.iter (fun (a:Int×List LI×(List (Int×LI)))=>⟨[(9,.i a.1),(8,.h 0),(7,.h 1),(0,.o (lQ 192 (lx192 p0) 0)),(2,.i p2)],[(0,ROW (rL qI) 26 a.2.1),(1,ROW rE286 286 a.2.2)],2⟩) M [(0,1),(1,0)] R ?_);intro a t hm a1 Y;refine .seq (.sv R (.mv R (.lh sl287 R (.bi R (.ns ?_)))));refine .cc hm R (fun hm=>?_) fun hm=> .xx ((a3 _ (Y _ (oj hm))).s0 R);refine .sn ?_;refine .join2 (fun (j:List LI) (m:List (Int×LI))=>y4l a j m=some t) (fun j m=>⟨[(8,.h 0),(9,.i a.1),(7,.h 1),(0,.o (lQ 192 (lx192 p0) 0)),(2,.i p2)],[(0,ROW (rL qI) 26 j),(1,ROW rE286 286 m)],2⟩) ?_ ?_
 ·intro j m hm;exact .reg (.mv R (.bi R (.sa R (.nil ((a1 _ (oj hm)).s0 R)))))
 ·intro v;refine .block ?_;refine .join1 (fun (g:List LI)=>y4m p0 p2 a g=some t) (fun g=>⟨[(8,.h 0),(9,.i a.1),(7,.h 1),(0,.o (lQ 192 (lx192 p0) 0)),(2,.i p2)],[(0,ROW (rL qI) 26 g),(1,ROW rE286 286 a.2.2)],2⟩) ?_ ?_
  ·intro g hm;refine .seq (.sv R (.mv R (bS hm fun b2 y hm=> .op (O.ir sl287 Z R R R y R) R (.op (O.faR ybm Z R R) R (.op (O.ld nag26 Z R (.R R y lv286) R R) R (.ln sl26 R (.mv R (.bi R (.ns ?_)))))))));refine .cc hm R (fun hm=> .exit (.seqX (.blkE ((v _ _ hm).s0 R)))) fun hm=>?_;refine .sn (.sv R (.op (O.nc .Q Z R R) R (.fq ybk R (.lq nag26 R (.ln sl26 R (.mv R (.ns (.block (bS hm fun I N hm=>?_)))))))));refine .cut1 (z:= .exit 2) I (fun (I:(List (Int×LI)))=>⟨[(8,.h 0),(9,.i a.1),(7,.h 1),(0,.o (lQ 192 (lx192 p0) 0)),(2,.i p2)],[(0,ROW (rL qI) 26 g),(1,ROW rE286 286 I)],2⟩) ?_ fun a4=>?_
   ·skip
    exact .blkE (.blkN ((v _ _ hm).s0 R))
   refine .iter (fun (e:Int×(List (Int×LI)))=>⟨[(58,.i e.1),(57,.i p0.2.2.2.2.1.length),(56,.f qI p0.2.2.2.2.1),(8,.h 0),(9,.i a.1),(7,.h 1),(0,.o (lQ 192 (lx192 p0) 0)),(2,.i p2)],[(0,ROW (rL qI) 26 g),(1,ROW rE286 286 e.2)],2⟩) N [] R ?_;intro e K hm a2 a0;refine .sr (.bi R (.ns (.seq ?_)));refine .cc hm R (fun hm=>?_) fun hm=> .xx ((a4 _ (a0 _ (oj hm))).s0 R);refine .sn ?_;refine .join1 (fun (q:List (Int×LI))=>yP e q=some K) (fun q=>⟨[(7,.h 0),(58,.i e.1),(57,.i p0.2.2.2.2.1.length),(56,.f qI p0.2.2.2.2.1),(8,.h 1),(9,.i a.1),(0,.o (lQ 192 (lx192 p0) 0)),(2,.i p2)],[(0,ROW rE286 286 q),(1,ROW (rL qI) 26 g)],2⟩) ?_ ?_
   ·intro q hm;exact .reg (.bi R (.mv R (.nil ((a2 _ (oj hm)).sub [(0,1),(1,0)] R))))
   ·intro x;refine .block (.sr (bS hm fun u U hm=> .ix sl26 U R (.le nag3 lv3 R (.an R (.seq ?_)))));refine .sub (τ:=⟨[(11,.i u),(58,.i e.1),(57,.i p0.2.2.2.2.1.length),(56,.f qI p0.2.2.2.2.1),(8,.h 0),(9,.i a.1),(7,.h 1),(0,.o (lQ 192 (lx192 p0) 0)),(2,.i p2)],[(0,ROW (rL qI) 26 g),(1,ROW rE286 286 e.2)],2⟩) ?_ [] R;refine bS hm fun b3 B hm=>bS hm fun s P hm=>?_;refine .drw [(2,[]),(2,[oT]),(2,[oT,oT]),(2,tT 3),(2,[]),(2,[]),(2,[oF,oF,oF,oF,oT,oT]),(2,fA 4 (tT 3)),(2,fA 4 (tT 4)),(2,[]),(2,tT 10),(2,tT 11)] [_,_,_,_,_,_,_,_,_,_,_,_] ⟨[(12,.i s),(11,.i u),(58,.i e.1),(57,.i p0.2.2.2.2.1.length),(56,.f qI p0.2.2.2.2.1),(8,.h 0),(9,.i a.1),(7,.h 1),(0,.o (lQ 192 (lx192 p0) 0)),(2,.i p2)],[(0,ROW (rL qI) 26 g),(1,ROW rE286 286 e.2)],2⟩ ⟨zM R,O.nc .Q Z R R,O.faQ yem Z R R,O.lg (l':=(lx190 p0.1)) ag190 Z R .Q R R R,zM R,zM R,O.ir sl287 Z R R R B R,O.faR ykk Z R R,O.ld nag3 Z R (.R R B lv286) R R,zM R,O.ca0 (y1L P) cf199 R R Z R R R,O.as Z R R,trivial⟩ (by kernel_rfl) R ?_;refine .seqN (.sv R (.bi R (.mv R (bS hm fun a5 eb88 hm=>?_))));refine .cut 9 (fun (J:Bool)=>a5=J) (fun J=>⟨[(84,.b J),(12,.i s),(11,.i u),(58,.i e.1),(57,.i p0.2.2.2.2.1.length),(56,.f qI p0.2.2.2.2.1),(8,.h 0),(9,.i a.1),(7,.h 1),(0,.o (lQ 192 (lx192 p0) 0)),(2,.i p2)],[(0,ROW (rL qI) 26 g),(1,ROW rE286 286 e.2)],2⟩) ?_ ?_
    ·rintro _ rfl;exact .ns (.cc hm R (fun hm=> .reg (.mv R (.mv R (.mv R (.mv R (bS hm fun b4 D hm=> .op (O.ir sl287 Z R R R D R) R (.op (O.faR ybm Z R R) R (.op (O.ld nag26 Z R (.R R D lv286) R R) R (bS hm fun a8 S hm=> .cm (r':= .h 2) [2] [(0,rwI a8)] (some 3) (y2q S) cf58 R ⟨⟨_,R,I4⟩,trivial⟩ R (.mv R (.bf (r:=qI) ([u]:LI) bs26 R (.c .k .n) R (bS hm fun b0 V hm=> .ap 3 underlying26 el3 R R (.fr R) V (.bu [lI s,lH 3] pl286 R (.fz 3 [96] [] R R fR R R (.bf (r:=rE286) ([(s,b0)]:List (Int×LI)) bs287 R (.c (.p .k .l) .n) R (bS hm fun b5 W hm=> .ap 4 underlying287 el286 R R (.fr R) W (.sa R (.nil (.blkN ((x _ hm).sub [(0,4),(1,0)] R)))))))))))))))))))) fun hm=> .skip (.blkN ((x _ hm).sub [(0,1),(1,0)] R)))
    ·intro L;rcases ifS eb88 with ⟨hc,hm⟩|⟨hc,hm⟩
     ·refine .know (d:=75) R hc ?_;exact .mg R (.mg R (bS hm fun b6 E hm=> .op (O.ir sl287 (Gu.mk R R) R R R E R) R (.op (O.faR ybm (Gu.mk R R) R R) R (.op (O.ld nag26 (Gu.mk R R) R (.R R E lv286) R R) R (.mg R (bS hm fun a9 T hm=> .op (O.ca0 (yi T) cf41 R R (Gu.mk R R) R R R) R (.op (O.not (Gu.mk R R) R R) R (.pT R ((L (!a9) (oj hm)).s0 R)))))))))
     ·refine .know (d:=75) R hc ?_;exact .s2 R R (.s2 R R (.s2 R R (.s2 R R (.pF R ((L false (oj hm)).s0 R)))))
  ·intro w;refine .sv R (.mv R (bS hm fun b7 F hm=> .op (O.ir sl287 Z R R R F R) R (.op (O.faR ybm Z R R) R (.op (O.ld nag26 Z R (.R R F lv286) R R) R (.ln sl26 R (.bi R (.ns ?_)))))));exact .cc hm R (fun hm=> .reg (.mv R (.mv R (.mv R (bS hm fun b1 G hm=> .op (O.ir sl287 Z R R R G R) R (.op (O.faR ybm Z R R) R (.op (O.ld nag26 Z R (.R R G lv286) R R) R (.op (O.bsF (r:=(rL qI)) (zs:=([b1.2]:List LI)) bs74 R R Z R R R (.c .l .n) R R R) R (bS hm fun b8 X hm=> .ap 2 underlying74 el26 R R (.fr R) X (.sa R (.nil ((w _ hm).sub [(0,2)] R)))))))))))) fun hm=> .skip ((w _ hm).s0 R)
def y5Y(p0:LI)(p1:LI)(a:Int):Option (Int⊕(Unit⊕Unit)):=
 if decide (a<(p0.length:Int)) then
  (idx p0 a).bind fun b=>
  (idx p1 a).bind fun c=>
  if(b != c) then
   some (.inr (.inr (())))
  else
   some (.inl (W (a+1)))
 else
  some (.inr (.inl ()))
def y7i(p0:LI)(p1:LI):Option Bool:=
 if((p0.length:Int) != (p1.length:Int)) then
  some false
 else
  (iter (y5Y p0 p1) 0).bind fun a=>
  match a with
  | .inl b=>
   some true
  | .inr (c)=>
   some false
theorem ybT{p0:LI}{p1:LI}{r:Bool}(hm:y7i p0 p1=some r):
    F0 21 [.f qI p0,.f qI p1] [] (.b r) []:=by
  refine Fw.mk2 func21 ntmps21 R (fun C=>?_) R;refine .sr (.an R (.seq (.sv R (.ln sl26 R (.mv R (.ln sl26 R (.bi R (.ns ?_))))))));refine .cc hm R (fun hm=>?_) fun hm=>?_
  ·refine .sr (.an R (.ret (.seqR ?_)));cases hm;exact .r0 results21 (.tmp R .nil) R R
  ·refine .sn (.seq (.sv R (.ln sl26 R (.mv R (.ns (.block (bS hm fun l j hm=>?_)))))));refine .cutU (z:= .exit 0) (fun g=> .inl g=l) (fun (g:Unit)=>⟨[],[],0⟩) ?_ fun K7=>?_
   · rintro g rfl;dsimp only at hm;refine .blkE (.seqN (.sr (.an R (.ret ?_))));cases hm;exact .r0 results21 (.tmp R .nil) R R
   refine .cutU (z:= .ret) (fun h=> .inr (h)=l) (fun (h:Unit)=>⟨[(4,.b false)],[],0⟩) ?_ fun K9=>?_
   · rintro h rfl;dsimp only at hm;refine .blkR (.seqR ?_);cases hm;exact .r0 results21 (.tmp R .nil) R R
   refine .iter (fun (a:Int)=>⟨[(13,.i a),(12,.i p0.length),(0,.f qI p0),(1,.f qI p1)],[],0⟩) j [] R ?_;intro a o hm k c;refine .sr (.bi R (.ns (.seq ?_)));refine .cc hm R (fun hm=>?_) fun hm=> .xx ((K7 _ (c _ (oj hm))).s0 R);refine .sn (.seq (.block (.sv R (.an R (.seq ?_)))));refine .sub (τ:=⟨[(5,.i a),(13,.i a),(12,.i p0.length),(0,.f qI p0),(1,.f qI p1)],[],0⟩) ?_ [] R;refine bS hm fun m d hm=>bS hm fun n e hm=>?_;refine .drw [(0,[]),(0,[]),(0,[oT,oT]),(0,tT 3),(0,[]),(0,[]),(0,[oF,oF,oF,oF,oT,oT]),(0,fA 4 (tT 3)),(0,tT 8)] [_,_,_,_,_,_,_,_,_] ⟨[(24,.b (m != n)),(13,.i a),(12,.i p0.length),(0,.f qI p0),(1,.f qI p1)],[],0⟩ ⟨zM R,zM R,O.ix sl26 Z R R d R,O.ld nag3 Z R (.E lv3) R R,zM R,zM R,O.ix sl26 Z R R e R,O.ld nag3 Z R (.E lv3) R R,O.bi Z R R R R,trivial⟩ (by kernel_rfl) R ?_;exact .seqN (.cc hm R (fun hm=> .sr (.an R (.ret (.blkR (.seqR (.seqR ((K9 _ (c _ (oj hm))).s0 R))))))) fun hm=> .skip (.blkN (.seqN (.reg (.bi R (.mv R (.nil ((k _ (oj hm)).s0 R))))))))
def y3G(a:LI)(p0:LI):Option Bool:=
 (y7i p0 a).bind fun b=>
 some b
theorem ybt{c:LI}{p0:LI}{r:Bool}(hm:y3G c p0=some r):
  F0 207 [.f qI p0,.o (lQ 26 [lF qI c] 0)] [] (.b r) []:=by
 refine Fw.mk2 func207 ntmps207 R (fun C=>?_) R;refine .sr (.an R (.sv R (.lq nag26 R (bS hm fun d a hm=> .c0 (ybT a) cf21 R (.an R (.ret ?_))))));cases hm;exact .r0 results207 (.tmp R .nil) R R
def y7n(p0:List LI)(p1:LI→Option Bool)(a:Int):Option (Int⊕(Unit⊕Int)):=
 if decide (a<(p0.length:Int)) then
  (idx p0 a).bind fun c=>
  (p1 c).bind fun b=>
  if b then
   some (.inr (.inr (a)))
  else
   some (.inl (W (a+1)))
 else
  some (.inr (.inl ()))
def y6o(p0:List LI)(p1:LI→Option Bool):Option Int:=
 (iter (y7n p0 p1) 0).bind fun a=>
 match a with
 | .inl c=>
  some (-1)
 | .inr (b)=>
  some b
theorem y9F{p0:List LI}{p1:LI→Option Bool}{r:Int}(hm:y6o p0 p1=some r):
  F0 108 [.f (rL qI) p0,.o (lW prog (fun (x:LI)=> [.f qI x]) (fun (r:Bool)=> .b r) p1)] [] (.i r) []:=by
 refine Fw.mk2 func108 ntmps108 R (fun C=>?_) R;refine .sr (.an R (.seq (.sv R (.ln sl74 R (.mv R (.ns (.block (bS hm fun m k hm=>?_))))))));refine .cutU (z:= .exit 0) (fun h=> .inl h=m) (fun (h:Unit)=>⟨[],[],0⟩) ?_ fun K8=>?_
 ·rintro h rfl;dsimp only at hm;refine .blkE (.seqN (.sr (.an R (.ret ?_))));cases hm;exact .r0 results108 (.tmp R .nil) R R
 refine .cutU (z:= .ret) (fun a=> .inr (a)=m) (fun (a:Int)=>⟨[(4,.i a)],[],0⟩) ?_ fun j=>?_
 ·rintro a rfl;dsimp only at hm;refine .blkR (.seqR ?_);cases hm;exact .r0 results108 (.tmp R .nil) R R
 refine .iter (fun (d:Int)=>⟨[(8,.i d),(7,.i p0.length),(0,.f (rL qI) p0),(1,.o (lW prog (fun (x:LI)=> [.f qI x]) (fun (r:Bool)=> .b r) p1))],[],0⟩) k [] R ?_;intro d p hm l c;refine .sr (.bi R (.ns (.seq ?_)));refine .cc hm R (fun hm=>?_) fun hm=> .xx ((K8 _ (c _ (oj hm))).s0 R);refine .sn (.seq (.block (.sv R (.an R (.sv R (.mv R (.mv R (bS hm fun n g hm=> .ix sl74 g R (.le nag26 lv26 R (bS hm fun q e hm=>?_))))))))));refine .op (O.fv (y:=n) R R R Z R e R R) R ?_;exact .ns (.cc hm R (fun hm=> .sv R (.an R (.ret (.blkR (.seqR (.seqR ((j _ (c _ (oj hm))).s0 R))))))) fun hm=> .skip (.blkN (.seqN (.reg (.bi R (.mv R (.nil ((l _ (oj hm)).s0 R))))))))
def y4U(p0:List LI)(p1:LI→Option Bool):Option Bool:=
 (y6o p0 p1).bind fun a=>
 some (decide (a≥0))
theorem y8Q{p0:List LI}{p1:LI→Option Bool}{r:Bool}(hm:y4U p0 p1=some r):
  F0 37 [.f (rL qI) p0,.o (lW prog (fun (x:LI)=> [.f qI x]) (fun (r:Bool)=> .b r) p1)] [] (.b r) []:=by
 refine Fw.mk2 func37 ntmps37 R (fun C=>?_) R;refine .sr (.an R (.sv R (.mv R (bS hm fun c a hm=> .c0 (y9F a) cf108 R (.bi R (.an R (.ret ?_)))))));cases hm;exact .r0 results37 (.tmp R .nil) R R
def y7r(p0:TskT)(p1:Int)(p2:LI):Option Bool:=
 if((decide ((p2.length:Int)<2))||(decide ((p2.length:Int)>3))) then
  some false
 else
  (y4n p0 p1 (p2.length:Int)).bind fun a=>
  (y4U a (y3G p2)).bind fun b=>
  some b
theorem ych{p0:TskT}{p1:Int}{p2:LI}{r:Bool}(hm:y7r p0 p1 p2=some r):
    F0 133 [.o (lQ 192 (lx192 p0) 0),.i p1,.f qI p2] [] (.b r) []:=by
  refine Fw.mk2 func133 ntmps133 R (fun C=>?_) R;refine .sr (.bo 0 R (.an R (.seq (.sr (.lb nag26 R (.ln sl26 R (.bi R (.mv R ?_))))))));refine .cut 4 (fun (a:Bool)=>((decide ((p2.length:Int)<2))||(decide ((p2.length:Int)>3)))=a) (fun a=>⟨[(14,.b a),(5,.q 0 0),(0,.o (lQ 192 (lx192 p0) 0)),(1,.i p1)],[(0,.bx 26 [lF qI p2])],1⟩) ?_ ?_
  · rintro _ rfl;refine .ns ?_;refine .cc hm R (fun hm=>?_) fun hm=>?_
    ·refine .sr (.an R (.ret (.seqR ?_)));cases hm;exact .r0 results133 (.tmp R .nil) R R
    ·refine .sn (.sv R (.mv R (.lb nag26 R (.ln sl26 R (bS hm fun j e hm=> .cm (r':= .h 1) [1] [(0,ROW (rL qI) 26 j)] (some 2) (y9c e) cf126 R ⟨⟨_,R,I4⟩,trivial⟩ R (.fz 0 [5] [] R R fB R R (.op (O.mf (args:=(fun (x:LI)=> [.f qI x])) (res:=(fun (r:Bool)=> .b r)) (m:=(y3G p2)) cf207 (fun x r h=>ybt h) (fun _=>R) R Z R R) R (bS hm fun k g hm=> .op (O.caZ (y8Q g) cf37 R R Z R ⟨⟨R,.hr R,trivial⟩,⟨R,LnL.rf⟩,trivial⟩ (fun _ _ _ _ _ h=>h) R) R (.an R (.ret ?_))))))))));cases hm;exact .r0 results133 (.tmp R .nil) R R
  · intro c;rcases yEt (decide ((p2.length:Int)<2)) with hc|hc
    · refine .know (d:=10) R hc ?_;exact .s2 R R (.sk R (.pT R ((c true (orT hc).symm).s0 R)))
    · refine .know (d:=10) R hc ?_;exact .lbg nag26 R (.op (O.len sl26 (Gu.mk R R) R R) R (.bg R (.pF R ((c (decide ((p2.length:Int)>3)) (orF hc).symm).s0 R))))
def y4o(a:Int×Int)(b:Int):Option ((Int×Int)⊕(Int⊕(Int×Int))):=
 some (.inl (W (a.1+1),b))
def y5Z(p0:TskT)(p2:LI)(a:Int×Int):Option ((Int×Int)⊕(Int⊕(Int×Int))):=
 if decide (a.1<(p2.length:Int)) then
  (idx p2 a.1).bind fun c=>
  (yq p0.2.1.1.1 c).bind fun d=>
  if(!d) then
   y4o a a.2
  else
   (y1g p0.2.1 a.2 c).bind fun b=>
   if(b==(-1)) then
    some (.inr (.inr (a)))
   else
    y4o a b
 else
  some (.inr (.inl a.2))
def y5N(p0:TskT)(p1:Int)(p2:LI):Option (Int×Int):=
 (iter (y5Z p0 p2) (0,p1)).bind fun b=>
 match b with
 | .inl c=>
  some (c,(p2.length:Int))
 | .inr (a)=>
  some (a.2,a.1)
theorem y9d{p0:TskT}{p1:Int}{p2:LI}{r:Int×Int}(hm:y5N p0 p1 p2=some r):
  F0 200 [.o (lQ 192 (lx192 p0) 0),.i p1,.f qI p2] [] (.tp [.i r.1,.i r.2]) []:=by
 refine Fw.mk2 func200 ntmps200 R (fun C=>?_) R;refine .sr (.sa R (.an R (.seq (.sv R (.ln sl26 R (.mv R (.ns (.block (bS hm fun j k hm=>?_)))))))));refine .cutU (z:= .exit 0) (fun d=> .inl d=j) (fun (d:Int)=>⟨[(1,.i d),(2,.f qI p2)],[],0⟩) ?_ fun q=>?_
 ·rintro d rfl;dsimp only at hm;refine .blkE (.seqN (.sv R (.mv R (.ln sl26 R (.sa R (.an R (.ret ?_)))))));cases hm;exact .r0 results200 (.tmp R (.tmp R .nil)) R R
 refine .cutU (z:= .ret) (fun b=> .inr (b)=j) (fun (b:Int×Int)=>⟨[(7,.i b.1),(6,.i b.2)],[],0⟩) ?_ fun s=>?_
 ·rintro b rfl;dsimp only at hm;refine .blkR (.seqR ?_);cases hm;exact .r0 results200 (.tmp R (.tmp R .nil)) R R
 refine .iter (fun (a:Int×Int)=>⟨[(13,.i a.1),(12,.i p2.length),(11,.f qI p2),(0,.o (lQ 192 (lx192 p0) 0)),(1,.i a.2),(2,.f qI p2)],[],0⟩) k [] R ?_;intro a h hm p g;refine .sr (.bi R (.ns (.seq ?_)));refine .cc hm R (fun hm=>?_) fun hm=> .xx ((q _ (g _ (oj hm))).s0 R);refine .sn ?_;refine .join1 (fun (c:Int)=>y4o a c=some h) (fun c=>⟨[(13,.i a.1),(12,.i p2.length),(11,.f qI p2),(0,.o (lQ 192 (lx192 p0) 0)),(1,.i c),(2,.f qI p2)],[],0⟩) ?_ ?_
 ·intro c hm;exact .reg (.bi R (.mv R (.nil ((p _ (oj hm)).s0 R))))
 ·intro e;refine .block (.sv R (bS hm fun v n hm=> .ix sl26 n R (.le nag3 lv3 R (.sa R (.an R (.seq (.sv R (.op (O.nc .Q Z R R) R (.fq ygF R (.fq y7a R (.fq yI R (.lq nag26 R (.mv R (bS hm fun t l hm=> .c0 (yC l) cf69 R (.no R (.ns ?_))))))))))))))));refine .cc hm R (fun hm=> .exit (.seqX (.blkE ((e _ hm).s0 R)))) fun hm=>?_;refine .sn (.sv R (.op (O.nc .Q Z R R) R (.fq ygF R (.lg (lx190 p0.2.1) ag190 R .Q R (.mv R (.mv R (bS hm fun u m hm=> .c0 (y1L m) cf199 R (.an R (.seq (.sv R (.bi R (.ns ?_))))))))))));exact .cc hm R (fun hm=> .sv R (.mv R (.sa R (.an R (.ret (.seqR (.blkR (.seqR (.seqR ((s _ (g _ (oj hm))).s0 R)))))))))) fun hm=> .sn (.reg (.mv R (.sa R (.nil (.blkN ((e _ hm).s0 R))))))
def y5k(p0:TskT)(p1:Int)(p2:LI):Option Bool:=
 (idx p0.2.2.2.1 p1).bind fun f=>
 (idx f 1).bind fun c=>
 (y5N p0 c p2).bind fun a=>
 (y5b p2).bind fun d=>
 (y3E d).bind fun e=>
 (y5N p0 c e).bind fun b=>
 some (((a.2==(p2.length:Int))&&(b.2==(p2.length:Int)))&&(a.1==b.1))
theorem y8N{p0:TskT}{p1:Int}{p2:LI}{r:Bool}(hm:y5k p0 p1 p2=some r):
  F0 127 [.o (lQ 192 (lx192 p0) 0),.i p1,.f qI p2] [] (.b r) []:=by
 refine Fw.mk2 func127 ntmps127 R (fun C=>?_) R;refine .sr (.an R (.sv R (.op (O.nc .Q Z R R) R (.fq ybl R (.lq nag74 R (.mv R (bS hm fun v q hm=> .ix sl74 q R (.le nag26 lv26 R (bS hm fun w s hm=> .ix sl26 s R (.le nag3 lv3 R (.an R (.sv R (.mv R (.mv R (bS hm fun a l hm=> .c0 (y9d l) cf200 R (.mv R (.ex R (.ex R (.sa R (.an R (.sv R (.mv R (.mv R ?_)))))))))))))))))))))));refine bS hm fun u m hm=> .c0 (ybd m) cf202 R (bS hm fun t n hm=> .cm (r':= .h 0) [0] [(0,rwI t)] (some 1) (ybe n) cf201 R ⟨⟨_,R,I4⟩,trivial⟩ R (bS hm fun c p hm=> .op (O.caZ (y9d p) cf200 R R Z R ⟨⟨R,.rf,trivial⟩,⟨R,LnL.rf⟩,⟨R,.hr R,trivial⟩,trivial⟩ (fun _ _ _ _ _ h=>h) R) R (.mv R (.ex R (.ex R (.sa R (.an R (.sv R (.mv R (.ln sl26 R (.bi R (.mv R ?_))))))))))));refine .cut 5 (fun (g:Bool)=>((a.2==(p2.length:Int))&&(c.2==(p2.length:Int)))=g) (fun g=>⟨[(46,.b g),(10,.i c.1),(8,.i a.1)],[],1⟩) ?_ ?_
 ·rintro _ rfl;refine .mv R ?_;refine .cut 4 (fun (j:Bool)=>(((a.2==(p2.length:Int))&&(c.2==(p2.length:Int)))&&(a.1==c.1))=j) (fun j=>⟨[(51,.b j)],[],1⟩) ?_ ?_
  ·rintro _ rfl;refine .an R (.ret ?_);cases hm;exact .r0 results127 (.tmp R .nil) R R
  ·intro e;rcases yEt ((a.2==(p2.length:Int))&&(c.2==(p2.length:Int))) with hc|hc
   ·refine .know (d:=47) R hc ?_;exact .mg R (.mg R (.bg R (.pT R ((e (a.1==c.1) (andT hc).symm).s0 R))))
   ·refine .know (d:=47) R hc ?_;exact .s2 R R (.sk R (.pF R ((e false (andF hc).symm).s0 R)))
 ·intro k;rcases yEt (a.2==(p2.length:Int)) with hc|hc
  ·refine .know (d:=41) R hc ?_;exact .mg R (.mg R (.op (O.len sl26 (Gu.mk R R) R R) R (.bg R (.pT R ((k (c.2==(p2.length:Int)) (andT hc).symm).s0 R)))))
  ·refine .know (d:=41) R hc ?_;exact .s2 R R (.s2 R R (.pF R ((k false (andF hc).symm).s0 R)))
def y3Q(a:Bool):Option Bool:=
 some a
def y5l(p0:TskT)(p1:Int)(p2:Int)(p3:Int):Option Bool:=
 (y1g p0.2.2.1 p1 p2).bind fun a=>
 if(a != (-1)) then
  (y1g p0.2.2.1 p1 p3).bind fun e=>
  if(e != (-1)) then
   (y1g p0.2.2.1 a p3).bind fun f=>
   if(f==(-1)) then
    (idx p0.2.2.2.1 a).bind fun c=>
    (idx c 0).bind fun d=>
    (y1g p0.1 d p3).bind fun b=>
    y3Q (b != (-1))
   else
    y3Q false
  else
   y3Q false
 else
  y3Q false
theorem y8O{p0:TskT}{p1:Int}{p2:Int}{p3:Int}{r:Bool}(hm:y5l p0 p1 p2 p3=some r):
  F0 129 [.o (lQ 192 (lx192 p0) 0),.i p1,.i p2,.i p3] [] (.b r) []:=by
 refine Fw.mk2 func129 ntmps129 R (fun C=>?_) R;refine .sr (.an R (.sv R (.op (O.nc .Q Z R R) R (.fq y7v R (.lg (lx190 p0.2.2.1) ag190 R .Q R (.mv R (.mv R (bS hm fun u p hm=> .c0 (y1L p) cf199 R (.an R ?_)))))))));refine .join1 (fun (g:Bool)=>y3Q g=some r) (fun g=>⟨[(8,.b g)],[],0⟩) ?_ ?_
 ·intro g hm;refine .ret ?_;cases hm;exact .r0 results129 (.tmp R .nil) R R
 ·intro c;refine .sub (τ:=⟨[(9,.i u),(0,.o (lQ 192 (lx192 p0) 0)),(1,.i p1),(3,.i p3)],[],0⟩) ?_ [] R;refine .drP 2 [(0,[]),(0,[oT])] [_,_] ⟨zM R,O.bi Z R R R R,trivial⟩ fun h=>?_;rcases ifS hm with ⟨d,hm⟩|⟨d,hm⟩
  ·skip
   refine bS hm fun x q hm=> .drX h 12 [(0,[oT,oT]),(0,tT 3),(0,tT 4),(0,tT 5),(0,tT 6),(0,tT 3),(0,tT 3),(0,tT 9),(0,tT 10),(0,tT 11)] [_,_,_,_,_,_,_,_,_,_] ⟨O.kn (zM R) d,O.mv (Gu.mk R R) R R,O.nc .Q (Gu.mk R R) R R,O.faQ y7v (Gu.mk R R) R R,O.lg (l':=(lx190 p0.2.2.1)) ag190 (Gu.mk R R) R .Q R R R,O.mv (Gu.mk R R) R R,O.mv (Gu.mk R R) R R,O.ca0 (y1L q) cf199 R R (Gu.mk R R) R R R,O.bi (Gu.mk R R) R R R R,O.pkT Z R R R R,trivial⟩ (by kernel_rfl) fun j=>?_;rcases ifS hm with ⟨e,hm⟩|⟨e,hm⟩
   ·skip
    refine bS hm fun y s hm=> .drX j 22 [(0,tT 12),(0,tT 13),(0,tT 14),(0,tT 15),(0,tT 16),(0,tT 13),(0,tT 13),(0,tT 19),(0,tT 20),(0,tT 21)] [_,_,_,_,_,_,_,_,_,_] ⟨O.kn (zM R) e,O.mv (Gu.mk R R) R R,O.nc .Q (Gu.mk R R) R R,O.faQ y7v (Gu.mk R R) R R,O.lg (l':=(lx190 p0.2.2.1)) ag190 (Gu.mk R R) R .Q R R R,O.mv (Gu.mk R R) R R,O.mv (Gu.mk R R) R R,O.ca0 (y1L s) cf199 R R (Gu.mk R R) R R R,O.bi (Gu.mk R R) R R R R,O.pkT Z R R R R,trivial⟩ (by kernel_rfl) fun f=>?_;rcases ifS hm with ⟨a,hm⟩|⟨a,hm⟩
    ·skip
     exact bS hm fun v m hm=>bS hm fun w n hm=>bS hm fun t k hm=> .drF f [(0,tT 22),(0,tT 23),(0,tT 24),(0,tT 25),(0,tT 26),(0,tT 23),(0,tA 23 (fA 4 (tT 1))),(0,tA 23 (fA 4 (tT 2))),(0,tA 23 (fA 4 (tT 3))),(0,tT 23),(0,tA 23 (fA 4 (tT 5))),(0,tA 23 (fA 4 (tT 6))),(0,tA 23 (fA 4 (tT 7))),(0,tA 23 (fA 4 (tT 8))),(0,tT 23),(0,tT 37),(0,tT 38),(0,tT 39),(0,tT 40)] [_,_,_,_,_,_,_,_,_,_,_,_,_,_,_,_,_,_,_] ⟨[(8,.b (t != (-1)))],[],0⟩ ⟨O.kn (zM R) a,O.mv (Gu.mk R R) R R,O.nc .Q (Gu.mk R R) R R,O.faQ yem (Gu.mk R R) R R,O.lg (l':=(lx190 p0.1)) ag190 (Gu.mk R R) R .Q R R R,O.mv (Gu.mk R R) R R,O.nc .Q (Gu.mk R R) R R,O.faQ ybl (Gu.mk R R) R R,O.ld nag74 (Gu.mk R R) R .Q R R,O.mv (Gu.mk R R) R R,O.ix sl74 (Gu.mk R R) R R m R,O.ld nag26 (Gu.mk R R) R (.E lv26) R R,O.ix sl26 (Gu.mk R R) R R n R,O.ld nag3 (Gu.mk R R) R (.E lv3) R R,O.mv (Gu.mk R R) R R,O.ca0 (y1L k) cf199 R R (Gu.mk R R) R R R,O.bi (Gu.mk R R) R R R R,O.pkT Z R R R R,O.as Z R R,trivial⟩ (by kernel_rfl) R ((c _ hm).s0 R)
    ·skip
     exact .drF f [(0,tT 22),(0,tT 23),(0,tT 24),(0,tT 25),(0,tT 26),(0,tT 23),(0,tA 23 (fA 4 (tT 1))),(0,tA 23 (fA 4 (tT 2))),(0,tA 23 (fA 4 (tT 3))),(0,tT 23),(0,tA 23 (fA 4 (tT 5))),(0,tA 23 (fA 4 (tT 6))),(0,tA 23 (fA 4 (tT 7))),(0,tA 23 (fA 4 (tT 8))),(0,tT 23),(0,tT 37),(0,tT 38),(0,tT 39),(0,tT 40)] [_,_,_,_,_,_,_,_,_,_,_,_,_,_,_,_,_,_,_] ⟨[(8,.b false)],[],0⟩ ⟨O.kn (zM R) a,zK R,zK R,zK R,zK R,zK R,zK R,zK R,zK R,zK R,zK R,zK R,zK R,zK R,zK R,zK R,zK R,O.pkF Z R R R R,O.as Z R R,trivial⟩ (by kernel_rfl) R ((c _ hm).s0 R)
   ·skip
    exact .drF j [(0,tT 12),(0,tT 13),(0,tT 14),(0,tT 15),(0,tT 16),(0,tT 13),(0,tT 13),(0,tT 19),(0,tT 20),(0,tT 21),(0,tT 22),(0,tT 23),(0,tT 24),(0,tT 25),(0,tT 26),(0,tT 23),(0,tA 23 (fA 4 (tT 1))),(0,tA 23 (fA 4 (tT 2))),(0,tA 23 (fA 4 (tT 3))),(0,tT 23),(0,tA 23 (fA 4 (tT 5))),(0,tA 23 (fA 4 (tT 6))),(0,tA 23 (fA 4 (tT 7))),(0,tA 23 (fA 4 (tT 8))),(0,tT 23),(0,tT 37),(0,tT 38),(0,tT 39),(0,tT 40)] [_,_,_,_,_,_,_,_,_,_,_,_,_,_,_,_,_,_,_,_,_,_,_,_,_,_,_,_,_] ⟨[(8,.b false)],[],0⟩ ⟨O.kn (zM R) e,zK R,zK R,zK R,zK R,zK R,zK R,zK R,zK R,O.pkF Z R R R R,zM R,zK R,zK R,zK R,zK R,zK R,zK R,zK R,zK R,zK R,zK R,zK R,zK R,zK R,zK R,zK R,zK R,O.pkF Z R R R R,O.as Z R R,trivial⟩ (by kernel_rfl) R ((c _ hm).s0 R)
  ·skip
   exact .drF h [(0,[oT,oT]),(0,tT 3),(0,tT 4),(0,tT 5),(0,tT 6),(0,tT 3),(0,tT 3),(0,tT 9),(0,tT 10),(0,tT 11),(0,tT 12),(0,tT 13),(0,tT 14),(0,tT 15),(0,tT 16),(0,tT 13),(0,tT 13),(0,tT 19),(0,tT 20),(0,tT 21),(0,tT 22),(0,tT 23),(0,tT 24),(0,tT 25),(0,tT 26),(0,tT 23),(0,tA 23 (fA 4 (tT 1))),(0,tA 23 (fA 4 (tT 2))),(0,tA 23 (fA 4 (tT 3))),(0,tT 23),(0,tA 23 (fA 4 (tT 5))),(0,tA 23 (fA 4 (tT 6))),(0,tA 23 (fA 4 (tT 7))),(0,tA 23 (fA 4 (tT 8))),(0,tT 23),(0,tT 37),(0,tT 38),(0,tT 39),(0,tT 40)] [_,_,_,_,_,_,_,_,_,_,_,_,_,_,_,_,_,_,_,_,_,_,_,_,_,_,_,_,_,_,_,_,_,_,_,_,_,_,_] ⟨[(8,.b false)],[],0⟩ ⟨O.kn (zM R) d,zK R,zK R,zK R,zK R,zK R,zK R,zK R,zK R,O.pkF Z R R R R,zM R,zK R,zK R,zK R,zK R,zK R,zK R,zK R,zK R,O.pkF Z R R R R,zM R,zK R,zK R,zK R,zK R,zK R,zK R,zK R,zK R,zK R,zK R,zK R,zK R,zK R,zK R,zK R,zK R,O.pkF Z R R R R,O.as Z R R,trivial⟩ (by kernel_rfl) R ((c _ hm).s0 R)
def y4P(a:Option TskT)(b:Int)(p0:Int):Option Bool:=
 a.bind fun d=>
 (y1g d.2.2.1 b p0).bind fun c=>
 some (c != (-1))
theorem yb1{f:Option TskT}{a:Int}{p0:Int}{r:Bool}(hm:y4P f a p0=some r):
  F0 270 [.i p0,.o (lQ 186 [lK rE192 192 f] 0),.o (lQ 3 [lI a] 0)] [] (.b r) []:=by
 refine Fw.mk2 func270 ntmps270 R (fun C=>?_) R;refine .sr (.an R (.seq (bS hm fun g e hm=> .cnt 1 R (.c (.q (.c (.pd e lv192) .n)) .n) R ?_)));refine .sub (τ:=⟨[(0,.i p0),(1,.o (lQ 186 [lQ 192 (lx192 g) 0] 0)),(2,.o (lQ 3 [lI a] 0))],[],0⟩) ?_ [] R;refine bS hm fun h d hm=>?_;refine .drw [(0,[]),(0,[oT]),(0,[oT,oT]),(0,tT 3),(0,[]),(0,[]),(0,tT 6),(0,tT 7),(0,tT 8)] [_,_,_,_,_,_,_,_,_] ⟨[(4,.b (h != (-1)))],[],0⟩ ⟨O.ld yl1 Z R .Q R R,O.nc .Q Z R R,O.faQ y7v Z R R,O.lg (l':=(lx190 g.2.2.1)) ag190 Z R .Q R R R,O.ld nag3 Z R .Q R R,zM R,O.ca0 (y1L d) cf199 R R Z R R R,O.bi Z R R R R,O.as Z R R,trivial⟩ (by kernel_rfl) R ?_;refine .seqN (.ret ?_);cases hm;exact .r0 results270 (.tmp R .nil) R R
def y7j(p0:TskT)(p1:Int)(p2:LI):Option Int:=
 (y2z p2 (y4P (some p0) p1)).bind fun a=>
 if decide (a<0) then
  some (-1)
 else
  (idx p2 a).bind fun b=>
  some b
theorem ybU{p0:TskT}{p1:Int}{p2:LI}{r:Int}(hm:y7j p0 p1 p2=some r):
    F0 208 [.o (lQ 192 (lx192 p0) 0),.i p1,.f qI p2] [] (.i r) []:=by
  refine Fw.mk2 func208 ntmps208 R (fun C=>?_) R;refine .sr (.bo 0 R (.bo 1 R (.an R (.sv R (.fz 0 [3] [] R R fB R R (.fz 1 [4] [] R R fB R R (.cnt 3 R (.c (.q (.c (.pk (r:=rE192) (.p (.p (.p .l (.p .k (.p .l .l))) .m) (.p (.p (.p .l (.p .k (.p .l .l))) .m) (.p (.p (.p .l (.p .k (.p .l .l))) .m) (.p .l (.p .l .l)))))) .n)) .n) R (.op (O.mf (args:=(fun (x:Int)=> [.i x])) (res:=(fun (r:Bool)=> .b r)) (m:=(y4P (some p0) p1)) cf270 (fun x r h=>yb1 h) (fun _=>R) R Z R R) R (bS hm fun e a hm=> .c0 (y8g a) cf109 R (.an R (.seq (.sv R (.bi R (.ns ?_))))))))))))));refine .cc hm R (fun hm=>?_) fun hm=>?_
  ·refine .sr (.an R (.ret (.seqR ?_)));cases hm;exact .r0 results208 (.tmp R .nil) R R
  ·refine .sn (.sv R (.mv R (bS hm fun g d hm=> .ix sl26 d R (.le nag3 lv3 R (.an R (.ret ?_))))));cases hm;exact .r0 results208 (.tmp R .nil) R R
def yX(a:Int×LI×(List (Int×Int))×EdgL)(b:LI)(c:List (Int×Int))(d:List (Int×Int×Int)):Option ((Int×LI×(List (Int×Int))×EdgL)⊕(LI×(List (Int×Int))×EdgL)):=
 some (.inl (W (a.1+1),b,c,d))
def y2M(e:Int×LI×(List (Int×Int))×LI×EdgL)(a:Int×LI×(List (Int×Int))×EdgL)(d:Int)(f:Int)(c:LI)(b:List (Int×Int)):Option ((Int×LI×(List (Int×Int))×EdgL)⊕(LI×(List (Int×Int))×EdgL)):=
 (app a.2.2.2 ([(e.1,f,((kget b d).getD 0))]:List (Int×Int×Int))).bind fun g=>
 yX a c b g
def y2N(p0:TskT)(j:LI)(d:Int×LI×(List (Int×Int))×LI×EdgL)(k:Int)(a:Int×LI×(List (Int×Int))×EdgL):Option ((Int×LI×(List (Int×Int))×EdgL)⊕(LI×(List (Int×Int))×EdgL)):=
 if decide (a.1<(j.length:Int)) then
  (idx j a.1).bind fun c=>
  (idx a.2.1 d.1).bind fun h=>
  (y1g p0.2.2.1 h c).bind fun b=>
  (if (b==(-1)) then
   some true
  else
   (if (c != k) then
    (yq p0.2.2.2.2.1 c).bind fun g=>
    some (!g)
   else
    some false).bind fun f=>
   some f).bind fun e=>
  if e then
   yX a a.2.1 a.2.2.1 a.2.2.2
  else
   if(!((kget a.2.2.1 b).isSome)) then
    (app a.2.1 ([b]:LI)).bind fun i=>
    y2M d a b c i (kput a.2.2.1 b (a.2.1.length:Int))
   else
    y2M d a b c a.2.1 a.2.2.1
 else
  some (.inr a.2)
def y2O(p0:TskT)(p1:LI)(f:LI)(a:Int×LI×(List (Int×Int))×LI×EdgL)(c:LI):Option ((Int×LI×(List (Int×Int))×LI×EdgL)⊕(LI×LI×EdgL)):=
 (idx a.2.1 a.1).bind fun e=>
 (y7j p0 e p1).bind fun d=>
 (iter (y2N p0 f a d) (0,a.2.1,a.2.2.1,a.2.2.2.2)).bind fun b=>
 some (.inl (W (a.1+1),b.1,b.2.1,c,b.2.2))
def y2P(p0:TskT)(p1:LI)(e:LI)(a:Int×LI×(List (Int×Int))×LI×EdgL):Option ((Int×LI×(List (Int×Int))×LI×EdgL)⊕(LI×LI×EdgL)):=
 if decide (a.1<(a.2.1.length:Int)) then
  (idx a.2.1 a.1).bind fun c=>
  (yq p0.2.2.1.1.2.2.1 c).bind fun b=>
  if b then
   (app a.2.2.2.1 ([a.1]:LI)).bind fun d=>
   y2O p0 p1 e a d
  else
   y2O p0 p1 e a a.2.2.2.1
 else
  some (.inr (a.2.1,a.2.2.2))
def y2Q(p0:TskT)(p1:LI)(b:LI)(d:LI)(l3:List (Int×Int)):Option (AutT×(List KeyT)):=
 (iter (y2P p0 p1 b) (0,d,l3,([]:LI),([]:List (Int×Int×Int)))).bind fun a=>
 (y6K (b,(a.1.length:Int),a.2)).bind fun c=>
 some c
def y5B(p0:TskT)(p1:LI):Option (AutT×(List KeyT)):=
 (yB p0.2.2.1.1.1).bind fun b=>
 if decide (p0.2.2.1.1.2.1>0) then
  (app ([]:LI) ([0]:LI)).bind fun a=>
  y2Q p0 p1 b a (kput ([]:List (Int×Int)) 0 0)
 else
  y2Q p0 p1 b ([]:LI) ([]:List (Int×Int))
theorem yaC{p0:TskT}{p1:LI}{r:(AutT×(List KeyT))}(hm:y5B p0 p1=some r):
  F0 134 [.o (lQ 192 (lx192 p0) 0),.f qI p1] [] (.g (lx190 r)) []:=by
 refine Fw.mk2 func134 ntmps134 R (fun C=>?_) R;refine .sr (.al 0 zz190 R (.nr (.mv R (.op (O.nc .Q Z R R) R (.fq y7v R (.fq y7a R (.fq yI R (.lq nag26 R (bS hm fun j c1 hm=> .cm (r':= .h 1) [1] [(0,rwI j)] (some 2) (y2q c1) cf58 R ⟨⟨_,R,I4⟩,trivial⟩ R (.bu [lH 1,lI 0,lN,lN] pl60 R (.al 2 zz60 R (.st ag60.sz R (.nr (.an R (.sr (.op (O.mk2 (kv:=kvI) (r:=qI) 3 R Z R) R (.an R ?_)))))))))))))))));refine .join2 (fun (l2:LI) (l3:List (Int×Int))=>y2Q p0 p1 j l2 l3=some r) (fun l2 l3=>⟨[(6,.h 0),(7,.h 1),(5,.q 2 0),(4,.q 4 0),(0,.o (lQ 192 (lx192 p0) 0)),(1,.f qI p1)],[(0,rwI l2),(1,MAP kvI qI 297 l3),(2,.bx 60 [lH 3,lI 0,lN,lN]),(3,rwI j),(4,.bx 190 [lN,lI 0,lN,lN,lV (.map none)])],5⟩) ?_ ?_
 ·intro l2 l3 hm;refine .seq (.sr (.an R (.block (bS hm fun y b2 hm=>?_))));refine .cut1 (z:= .exit 0) y (fun (y:LI×LI×EdgL)=>⟨[(6,.h 0),(5,.q 1 0),(4,.q 5 0)],[(0,rwI y.1),(1,.bx 60 [lH 2,lI 0,lH 3,lH 4]),(2,rwI j),(3,rwI y.2.1),(4,ROW qT 112 y.2.2),(5,.bx 190 [lN,lI 0,lN,lN,lV (.map none)])],6⟩) ?_ fun b9=>?_
  ·skip
   refine .blkE (.seqN (.sv R (.lh sl26 R (.fa y1r R (.st nag3.sz R (.nr (.lg [lH 2,lI y.1.length,lH 3,lH 4] ag60 R (.B R) R (.fz 2 [129] [1] R R fR R R (.fz 3 [129] [1] R R fR R R (.fz 4 [129] [1] R R fR R R (bS hm fun c8 b3 hm=> .c0 (y8o b3) cf198 R (.st ag190.sz R (.ns (.ret ?_))))))))))))));cases hm;exact .r0 results134 (.cell R R ag190 R .nil) R R
  refine .nlb qI 3 2 2 R R (.nlb qT 112 2 3 R R (.iter (fun (e:Int×LI×(List (Int×Int))×LI×EdgL)=>⟨[(8,.i e.1),(6,.h 0),(7,.h 1),(5,.q 2 0),(4,.q 6 0),(0,.o (lQ 192 (lx192 p0) 0)),(1,.f qI p1)],[(0,rwI e.2.1),(1,MAP kvI qI 297 e.2.2.1),(2,.bx 60 [lH 3,lI 0,lH 4,lH 5]),(3,rwI j),(4,rwI e.2.2.2.1),(5,ROW qT 112 e.2.2.2.2),(6,.bx 190 [lN,lI 0,lN,lN,lV (.map none)])],7⟩) b2 [(4,5),(5,6),(6,4)] R ?_));intro e a8 hm b6 b5;refine .seq (.sv R (.mv R (.lh sl26 R (.bi R (.ns ?_)))));refine .cc hm R (fun hm=>?_) fun hm=> .xx ((b9 _ (b5 _ (oj hm))).sub [(1,2),(2,3),(3,4),(4,5),(5,6)] R);refine .sn (.seq (.block ?_));refine .join1 (fun (s:LI)=>y2O p0 p1 j e s=some a8) (fun s=>⟨[(8,.i e.1),(6,.h 0),(7,.h 1),(5,.q 2 0),(4,.q 6 0),(0,.o (lQ 192 (lx192 p0) 0)),(1,.f qI p1)],[(0,rwI e.2.1),(1,MAP kvI qI 297 e.2.2.1),(2,.bx 60 [lH 3,lI 0,lH 4,lH 5]),(3,rwI j),(4,rwI s),(5,ROW qT 112 e.2.2.2.2),(6,.bx 190 [lN,lI 0,lN,lN,lV (.map none)])],7⟩) ?_ ?_
  ·intro s hm;refine .sv R (.mv R (.mv R (bS hm fun c9 W hm=> .op (O.ir sl26 Z R R R W R) R (.op (O.ld nag3 Z R (.R R W lv3) R R) R (.mv R (bS hm fun x b4 hm=> .c0 (ybU b4) cf208 R (.an R (.sr (.fa yI R (.lb nag26 R (.lh sl26 R (.mv R (.ns (.block (bS hm fun w X hm=>?_)))))))))))))));refine .cut1 (z:= .exit 2) w (fun (w:LI×(List (Int×Int))×EdgL)=>⟨[(8,.i e.1),(6,.h 0),(7,.h 1),(5,.q 2 0),(4,.q 6 0),(0,.o (lQ 192 (lx192 p0) 0)),(1,.f qI p1)],[(0,rwI w.1),(1,MAP kvI qI 297 w.2.1),(2,.bx 60 [lH 3,lI 0,lH 4,lH 5]),(3,rwI j),(4,rwI s),(5,ROW qT 112 w.2.2),(6,.bx 190 [lN,lI 0,lN,lN,lV (.map none)])],7⟩) ?_ fun b0=>?_
   ·skip
    exact .blkE (.blkN (.seqN (.reg (.mv R (.bi R (.sa R (.nil ((b6 _ (oj hm)).s0 R))))))))
   refine .iter (fun (a:Int×LI×(List (Int×Int))×EdgL)=>⟨[(68,.i a.1),(67,.i j.length),(66,.h 0),(9,.i x),(8,.i e.1),(6,.h 1),(7,.h 2),(5,.q 3 0),(4,.q 6 0),(0,.o (lQ 192 (lx192 p0) 0)),(1,.f qI p1)],[(0,rwI j),(1,rwI a.2.1),(2,MAP kvI qI 297 a.2.2.1),(3,.bx 60 [lH 0,lI 0,lH 4,lH 5]),(4,rwI s),(5,ROW qT 112 a.2.2.2),(6,.bx 190 [lN,lI 0,lN,lN,lV (.map none)])],7⟩) X [(0,3),(1,0),(2,1),(3,2)] R ?_;intro a H hm a7 a6;refine .sr (.bi R (.ns (.seq ?_)));refine .cc hm R (fun hm=>?_) fun hm=> .xx ((b0 _ (a6 _ (oj hm))).sub [(0,1),(1,2),(2,3),(3,0)] R);refine .sn ?_;refine .join3 (fun (D:LI) (E:List (Int×Int)) (F:List (Int×Int×Int))=>yX a D E F=some H) (fun D E F=>⟨[(68,.i a.1),(67,.i j.length),(66,.h 0),(9,.i x),(8,.i e.1),(6,.h 1),(7,.h 2),(5,.q 3 0),(4,.q 6 0),(0,.o (lQ 192 (lx192 p0) 0)),(1,.f qI p1)],[(0,rwI j),(1,rwI D),(2,MAP kvI qI 297 E),(3,.bx 60 [lH 0,lI 0,lH 4,lH 5]),(4,rwI s),(5,ROW qT 112 F),(6,.bx 190 [lN,lI 0,lN,lN,lV (.map none)])],7⟩) ?_ ?_
   ·intro D E F hm;exact .reg (.bi R (.mv R (.nil ((a7 _ (oj hm)).s0 R))))
   ·intro K;refine .block (.sr (bS hm fun t M hm=> .op (O.ir sl26 Z R R R M R) R (.op (O.ld nag3 Z R (.R R M lv3) R R) R (.an R (.seq ?_)))));refine .sub (τ:=⟨[(11,.i t),(68,.i a.1),(67,.i j.length),(66,.h 0),(9,.i x),(8,.i e.1),(6,.h 1),(7,.h 2),(5,.q 3 0),(4,.q 6 0),(0,.o (lQ 192 (lx192 p0) 0)),(1,.f qI p1)],[(0,rwI j),(1,rwI a.2.1),(2,MAP kvI qI 297 a.2.2.1),(3,.bx 60 [lH 0,lI 0,lH 4,lH 5]),(4,rwI s),(5,ROW qT 112 a.2.2.2),(6,.bx 190 [lN,lI 0,lN,lN,lV (.map none)])],7⟩) ?_ [] R;refine bS hm fun c2 N hm=>bS hm fun m Y hm=>?_;refine .drw [(7,[]),(7,[oT]),(7,[oT,oT]),(7,tT 3),(7,[]),(7,[]),(7,[oF,oF,oF,oF,oT,oT]),(7,fA 4 (tT 3)),(7,[]),(7,tT 9),(7,tT 10)] [_,_,_,_,_,_,_,_,_,_,_] ⟨[(12,.i m),(11,.i t),(68,.i a.1),(67,.i j.length),(66,.h 0),(9,.i x),(8,.i e.1),(6,.h 1),(7,.h 2),(5,.q 3 0),(4,.q 6 0),(0,.o (lQ 192 (lx192 p0) 0)),(1,.f qI p1)],[(0,rwI j),(1,rwI a.2.1),(2,MAP kvI qI 297 a.2.2.1),(3,.bx 60 [lH 0,lI 0,lH 4,lH 5]),(4,rwI s),(5,ROW qT 112 a.2.2.2),(6,.bx 190 [lN,lI 0,lN,lN,lV (.map none)])],7⟩ ⟨zM R,O.nc .Q Z R R,O.faQ y7v Z R R,O.lg (l':=(lx190 p0.2.2.1)) ag190 Z R .Q R R R,zM R,zM R,O.ir sl26 Z R R R N R,O.ld nag3 Z R (.R R N lv3) R R,zM R,O.ca0 (y1L Y) cf199 R R Z R R R,O.as Z R R,trivial⟩ (by kernel_rfl) R ?_;refine .seqN (.seq (.sv R (.bi R (.mv R (bS hm fun b1 eb122 hm=>?_)))));refine .cut 13 (fun (I:Bool)=>b1=I) (fun I=>⟨[(97,.b I),(12,.i m),(11,.i t),(68,.i a.1),(67,.i j.length),(66,.h 0),(9,.i x),(8,.i e.1),(6,.h 1),(7,.h 2),(5,.q 3 0),(4,.q 6 0),(0,.o (lQ 192 (lx192 p0) 0)),(1,.f qI p1)],[(0,rwI j),(1,rwI a.2.1),(2,MAP kvI qI 297 a.2.2.1),(3,.bx 60 [lH 0,lI 0,lH 4,lH 5]),(4,rwI s),(5,ROW qT 112 a.2.2.2),(6,.bx 190 [lN,lI 0,lN,lN,lV (.map none)])],7⟩) ?_ ?_
    ·rintro _ rfl;refine .ns (.cc hm R (fun hm=> .exit (.seqX (.blkE ((K _ _ _ hm).s0 R)))) fun hm=>(.sn ?_));refine .join2 (fun (G:LI) (u:List (Int×Int))=>y2M e a m t G u=some H) (fun G u=>⟨[(6,.h 0),(12,.i m),(11,.i t),(68,.i a.1),(67,.i j.length),(66,.h 1),(9,.i x),(8,.i e.1),(7,.h 2),(5,.q 3 0),(4,.q 6 0),(0,.o (lQ 192 (lx192 p0) 0)),(1,.f qI p1)],[(0,rwI G),(1,rwI j),(2,MAP kvI qI 297 u),(3,.bx 60 [lH 1,lI 0,lH 4,lH 5]),(4,rwI s),(5,ROW qT 112 a.2.2.2),(6,.bx 190 [lN,lI 0,lN,lN,lV (.map none)])],7⟩) ?_ ?_
     ·intro G u hm;exact .reg (.fa yF R (.lb nag27 R (.mv R (.mv R (.mv R (.mv R (.op (O.mi (k:=m) md297 Z (.ow R R) (.o R) R) R (.bu [lI e.1,lI t,lI ((kget u m).getD 0)] pl112 R (.op (O.bsF (r:=qT) (zs:=([(e.1,t,((kget u m).getD 0))]:List (Int×Int×Int))) bs27 R R Z R R R (.c (.p .k (.p .k .k)) .n) R R R) R (bS hm fun c3 a2 hm=> .ap 7 underlying27 el112 R R (.fr R) a2 (.fa yF R (.st nag27.sz R (.nil (.blkN ((K _ _ _ hm).sub [(0,1),(1,0),(5,7)] R)))))))))))))))
     ·intro L;refine .sv R (.mv R (.op (O.mi2 (k:=m) md297 Z (.ow R R) (.o R) R) R (.mv R (.ex R (.ex R (.sa R (.an R (.sv R (.no R (.ns ?_))))))))));exact .cc hm R (fun hm=> .sv R (.mv R (.mv R (.lh sl26 R (.op (O.mu (k:=m) (v:=(a.2.1.length:Int)) md297 (fun _ _=>eqI) Z R R (.o R) R .k) R (.ns (.reg (.mv R (.mv R (.bf (r:=qI) ([m]:LI) bs26 R (.c .k .n) R (bS hm fun c4 a3 hm=> .ap 7 underlying26 el3 R R (.fr R) a3 (.sa R (.nil ((L _ _ hm).sub [(0,7),(1,0)] R)))))))))))))) fun hm=> .skip ((L _ _ hm).sub [(0,1),(1,0)] R)
    ·intro S;rcases ifS eb122 with ⟨hc,hm⟩|⟨hc,hm⟩
     ·refine .know (d:=84) R hc ?_;exact .s2 R R (.s2 R R (.su R (.su R (.su R (.su R (.su R (.su R (.su R (.sk R (.pT R ((S true (oj hm)).s0 R)))))))))))
     ·refine .know (d:=84) R hc ?_;refine .mg R (.mg R (.bg R (.mg R (bS hm fun V eb130 hm=>?_))));refine .cut 8 (fun (J:Bool)=>V=J) (fun J=>⟨[(96,.b J),(84,.b false),(12,.i m),(11,.i t),(68,.i a.1),(67,.i j.length),(66,.h 0),(9,.i x),(8,.i e.1),(6,.h 1),(7,.h 2),(5,.q 3 0),(4,.q 6 0),(0,.o (lQ 192 (lx192 p0) 0)),(1,.f qI p1)],[(0,rwI j),(1,rwI a.2.1),(2,MAP kvI qI 297 a.2.2.1),(3,.bx 60 [lH 0,lI 0,lH 4,lH 5]),(4,rwI s),(5,ROW qT 112 a.2.2.2),(6,.bx 190 [lN,lI 0,lN,lN,lV (.map none)])],7⟩) ?_ ?_
      ·rintro _ rfl;exact .pF R ((S V (oj hm)).s0 R)
      ·intro T;rcases ifS eb130 with ⟨hc,hm⟩|⟨hc,hm⟩
       ·refine .know (d:=88) R hc ?_;exact .mg R (.op (O.nc .Q (Gu.mk R R) R R) R (.op (O.faQ ybk (Gu.mk R R) R R) R (.op (O.ld nag26 (Gu.mk R R) R .Q R R) R (.mg R (bS hm fun b7 a0 hm=> .op (O.ca0 (yC a0) cf69 R R (Gu.mk R R) R R R) R (.op (O.not (Gu.mk R R) R R) R (.op (O.pkT (Gu.mk R R) R R R R) R ((T (!b7) (oj hm)).s0 R))))))))
       ·refine .know (d:=88) R hc ?_;exact .s2 R R (.s2 R R (.s2 R R (.sk R (.op (O.pkF (Gu.mk R R) R R R R) R ((T false (oj hm)).s0 R)))))
  ·intro U;refine .seq ?_;refine .sub (τ:=⟨[(8,.i e.1),(6,.h 0),(7,.h 1),(5,.q 2 0),(4,.q 6 0),(0,.o (lQ 192 (lx192 p0) 0)),(1,.f qI p1)],[(0,rwI e.2.1),(1,MAP kvI qI 297 e.2.2.1),(2,.bx 60 [lH 3,lI 0,lH 4,lH 5]),(3,rwI j),(4,rwI e.2.2.2.1),(5,ROW qT 112 e.2.2.2.2),(6,.bx 190 [lN,lI 0,lN,lN,lV (.map none)])],7⟩) ?_ [] R;refine bS hm fun c5 P hm=>bS hm fun b8 a1 hm=>?_;refine .drw [(7,[]),(7,[oT]),(7,[oT,oT]),(7,tT 3),(7,tT 4),(7,tT 5),(7,[]),(7,[]),(7,[oF,oF,oF,oF,oF,oF,oT,oT]),(7,fA 6 (tT 3)),(7,tT 10)] [_,_,_,_,_,_,_,_,_,_,_] ⟨[(51,.b b8),(8,.i e.1),(6,.h 0),(7,.h 1),(5,.q 2 0),(4,.q 6 0),(0,.o (lQ 192 (lx192 p0) 0)),(1,.f qI p1)],[(0,rwI e.2.1),(1,MAP kvI qI 297 e.2.2.1),(2,.bx 60 [lH 3,lI 0,lH 4,lH 5]),(3,rwI j),(4,rwI e.2.2.2.1),(5,ROW qT 112 e.2.2.2.2),(6,.bx 190 [lN,lI 0,lN,lN,lV (.map none)])],7⟩ ⟨zM R,O.nc .Q Z R R,O.faQ y7v Z R R,O.faQ y7a Z R R,O.faQ y5D Z R R,O.ld nag26 Z R .Q R R,zM R,zM R,O.ir sl26 Z R R R P R,O.ld nag3 Z R (.R R P lv3) R R,O.ca0 (yC a1) cf69 R R Z R R R,trivial⟩ (by kernel_rfl) R ?_;exact .seqN (.cc hm R (fun hm=> .reg (.fa y5D R (.lb nag26 R (.mv R (.bf (r:=qI) ([e.1]:LI) bs26 R (.c .k .n) R (bS hm fun c6 a4 hm=> .ap 7 underlying26 el3 R R (.fr R) a4 (.fa y5D R (.st nag26.sz R (.nil ((U _ hm).sub [(4,7)] R)))))))))) fun hm=> .skip ((U _ hm).s0 R))
 ·intro a9;refine .sv R (.op (O.nc .Q Z R R) R (.fq y7v R (.fq y7a R (.fq y1r R (.lq nag3 R (.bi R (.ns ?_)))))));exact .cc hm R (fun hm=> .sv R (.bf (r:=qI) ([0]:LI) bs26 R (.c .k .n) R (bS hm fun c7 a5 hm=> .op (O.apN (r:=qI) 4 underlying26 el3 R R Z R (.fr R) a5 R) R (.an R (.reg (.mv R (.op (O.mu (k:=0) (v:=0) md297 (fun _ _=>eqI) Z R R (.o R) R .k) R (.nil ((a9 _ _ hm).sub [(0,4),(1,3),(3,1),(4,0)] R))))))))) fun hm=> .skip (.nlg qI 3 6 0 R R ((a9 _ _ hm).sub [(0,4),(1,3),(3,1),(4,0)] R))
def y3q(a:Int×Bool×List Bool)(b:Bool)(c:List Bool):Option ((Int×Bool×List Bool)⊕(Bool×List Bool)):=
 some (.inl (W (a.1+1),b,c))
def y4Q(p0:AutT×(List KeyT))(a:Int×Bool×List Bool):Option ((Int×Bool×List Bool)⊕(Bool×List Bool)):=
 if decide (a.1<(p0.1.2.2.2.length:Int)) then
  (idx p0.1.2.2.2 a.1).bind fun b=>
  (idx a.2.2 b.2.2).bind fun d=>
  (if d then
   (idx a.2.2 b.1).bind fun f=>
   some (!f)
  else
   some false).bind fun c=>
  if c then
   (idx a.2.2 b.1).bind fun g=>
   (upd a.2.2 b.1 true).bind fun e=>
   y3q a true e
  else
   y3q a a.2.1 a.2.2
 else
  some (.inr a.2)
def y6E(p0:AutT×(List KeyT))(a:Bool×List Bool):Option ((Bool×List Bool)⊕(List Bool)):=
 if a.1 then
  (iter (y4Q p0) (0,false,a.2)).bind fun b=>
  some (.inl b)
 else
  some (.inr a.2)
def y6F(p0:AutT×(List KeyT))(a:Int×List Bool):Option ((Int×List Bool)⊕(List Bool)):=
 if decide (a.1<(p0.1.2.2.1.length:Int)) then
  (idx p0.1.2.2.1 a.1).bind fun b=>
  (idx a.2 b).bind fun d=>
  (upd a.2 b true).bind fun c=>
  some (.inl (W (a.1+1),c))
 else
  some (.inr a.2)
def y7s(p0:AutT×(List KeyT)):Option (List Bool):=
 (mkL p0.1.2.1 false).bind fun c=>
 (iter (y6F p0) (0,c)).bind fun b=>
 (iter (y6E p0) (true,b)).bind fun a=>
 some a
theorem yci{p0:AutT×(List KeyT)}{r:List Bool}(hm:y7s p0=some r):
  F0 135 [.a (lx190 p0)] [] (.h 0) [ROW rB 4 r]:=by
 refine Fw.mk2 func135 ntmps135 R (fun C=>?_) R;refine .sr (.bo 0 R (.an R (.sr (.fa y7a R (.fa y1r R (.lb nag3 R (bS hm fun x1 U hm=> .op (O.mk (z:=false) 1 underlying177 zr4 R R Z R R U R) R (.an R (.seq (.sr (.fa y7a R (.fa y5D R (.lb nag26 R (.ln sl26 R (.mv R (.ns (.block (bS hm fun M T hm=>?_))))))))))))))))));refine .cut1 (z:= .exit 0) M (fun (M:List Bool)=>⟨[(3,.h 0),(1,.q 1 0)],[(0,ROW rB 4 M),(1,.bx 190 (lx190 p0))],2⟩) ?_ fun N=>?_
 ·skip
  refine .blkE (.seqN (.seq (.sr (.an R (.block (bS hm fun t y hm=>?_))))));refine .cut1 (z:= .exit 2) t (fun (t:List Bool)=>⟨[(3,.h 0)],[(0,ROW rB 4 t)],1⟩) ?_ fun P=>?_
  ·skip
   refine .blkE (.seqN (.sv R (.an R (.ret ?_))));cases hm;exact .rr [0] results135 (.tmp R .nil) R I3 ⟨⟨_,R,I4⟩,trivial⟩
  refine .iter (fun (g:Bool×List Bool)=>⟨[(6,.b g.1),(3,.h 0),(1,.q 1 0)],[(0,ROW rB 4 g.2),(1,.bx 190 (lx190 p0))],2⟩) y [] R ?_;intro g Y hm K I;refine .seq (.sv R (.ns ?_));refine .cc hm R (fun hm=>?_) fun hm=> .xx ((P _ (I _ (oj hm))).s0 R);refine .sn (.block (.sr (.an R (.sr (.fa y7a R (.fa yF R (.lb nag27 R (.ln sl27 R (.mv R (.ns (.block (bS hm fun l B hm=>?_))))))))))));refine .cut1 (z:= .exit 4) l (fun (l:Bool×List Bool)=>⟨[(6,.b l.1),(3,.h 0),(1,.q 1 0)],[(0,ROW rB 4 l.2),(1,.bx 190 (lx190 p0))],2⟩) ?_ fun Q=>?_
  ·skip
   exact .blkE (.blkN ((K _ (oj hm)).s0 R))
  refine .iter (fun (c:Int×Bool×List Bool)=>⟨[(30,.i c.1),(29,.i p0.1.2.2.2.length),(28,.f qT p0.1.2.2.2),(6,.b c.2.1),(3,.h 0),(1,.q 1 0)],[(0,ROW rB 4 c.2.2),(1,.bx 190 (lx190 p0))],2⟩) B [] R ?_;intro c w hm L J;refine .sr (.bi R (.ns (.seq ?_)));refine .cc hm R (fun hm=>?_) fun hm=> .xx ((Q _ (J _ (oj hm))).s0 R);refine .sn ?_;refine .join2 (fun (j:Bool) (k:List Bool)=>y3q c j k=some w) (fun j k=>⟨[(6,.b j),(30,.i c.1),(29,.i p0.1.2.2.2.length),(28,.f qT p0.1.2.2.2),(3,.h 0),(1,.q 1 0)],[(0,ROW rB 4 k),(1,.bx 190 (lx190 p0))],2⟩) ?_ ?_
  ·intro j k hm;exact .reg (.bi R (.mv R (.nil ((L _ (oj hm)).s0 R))))
  ·intro m;refine .block (.sr (bS hm fun e D hm=> .ix sl27 D R (.lg [lI e.1,lI e.2.1,lI e.2.2] ag112 R (.E lv112) R (.al 2 zz112 R (.st ag112.sz R (.nr (.mv R (.fa y3l R (.lb nag3 R (bS hm fun a1 n hm=> .op (O.ir sl177 Z R R R n R) R (.op (O.ld nag4 Z R (.R R n lv4) R R) R (.mv R (bS hm fun S eb77 hm=>?_)))))))))))));refine .cut 7 (fun (v:Bool)=>S=v) (fun v=>⟨[(46,.b v),(8,.q 2 0),(30,.i c.1),(29,.i p0.1.2.2.2.length),(28,.f qT p0.1.2.2.2),(6,.b c.2.1),(3,.h 0),(1,.q 1 0)],[(2,.bx 112 [lI e.1,lI e.2.1,lI e.2.2]),(0,ROW rB 4 c.2.2),(1,.bx 190 (lx190 p0))],3⟩) ?_ ?_
   ·rintro _ rfl;exact .ns (.cc hm R (fun hm=> .reg (.mv R (.fa y1A R (.lb nag3 R (bS hm fun a2 o hm=> .op (O.ir sl177 Z R R R o R) R (bS hm fun a3 F hm=> .op (O.su (z:=true) nag4.sz Z R R o F R R R lv4 R .b) R (.sa R (.nil (.blkN ((m _ _ hm).s0 R)))))))))) fun hm=> .skip (.blkN ((m _ _ hm).s0 R)))
   ·intro x;rcases ifS eb77 with ⟨hc,hm⟩|⟨hc,hm⟩
    ·refine .know (d:=39) R hc ?_;exact .mg R (.fag y1A R (.lbg nag3 R (bS hm fun X p hm=> .op (O.ir sl177 (Gu.mk R R) R R R p R) R (.op (O.ld nag4 (Gu.mk R R) R (.R R p lv4) R R) R (.op (O.not (Gu.mk R R) R R) R (.pT R ((x (!X) (oj hm)).s0 R)))))))
    ·refine .know (d:=39) R hc ?_;exact .s2 R R (.s2 R R (.s2 R R (.pF R ((x false (oj hm)).s0 R))))
 refine .iter (fun (u:Int×List Bool)=>⟨[(17,.i u.1),(16,.i p0.1.2.2.1.length),(15,.f qI p0.1.2.2.1),(3,.h 0),(1,.q 1 0)],[(0,ROW rB 4 u.2),(1,.bx 190 (lx190 p0))],2⟩) T [(0,1),(1,0)] R ?_;intro u a0 hm W V;refine .sr (.bi R (.ns (.seq ?_)));exact .cc hm R (fun hm=> .sn (.seq (.block (.sr (bS hm fun a4 G hm=> .ix sl26 G R (.le nag3 lv3 R (.an R (.reg (.mv R (.mv R (bS hm fun a5 s hm=> .op (O.ir sl177 Z R R R s R) R (bS hm fun a6 H hm=> .op (O.su (z:=true) nag4.sz Z R R s H R R R lv4 R .b) R (.nil (.blkN (.seqN (.reg (.bi R (.mv R (.nil ((W _ (oj hm)).s0 R)))))))))))))))))))) fun hm=> .xx ((N _ (V _ (oj hm))).s0 R)
def y1p(a:Bool):Option Int:=
 if(!a) then
  some 24
 else
  some 0
def y3Z(p0:PbT)(p1:LI)(p2:Int×LI×LI):Option Int:=
 (y9H p0 p1).bind fun e=>
 if(e.2 != 0) then
  some e.2
 else
  e.1.bind fun a=>
  (y5M a.2.2.1 p2.2.1).bind fun b=>
  if(p2.1==1) then
   (if (b != (-1)) then
    (y7r a b p2.2.2).bind fun h=>
    some h
   else
    some false).bind fun r=>
   (if r then
    (y5k a b p2.2.2).bind fun g=>
    some (!g)
   else
    some false).bind fun s=>
   y1p s
  else
   if(p2.1==2) then
    if(b != (-1)) then
     if((p2.2.2.length:Int)==2) then
      (idx p2.2.2 0).bind fun m=>
      (yq a.2.2.2.2.1 m).bind fun i=>
      if i then
       (idx p2.2.2 1).bind fun n=>
       (yq a.2.2.2.2.2 n).bind fun j=>
       if j then
        (idx p2.2.2 0).bind fun o=>
        (idx p2.2.2 1).bind fun p=>
        (y5l a b o p).bind fun k=>
        y1p k
       else
        y1p false
      else
       y1p false
     else
      y1p false
    else
     y1p false
   else
    if(p2.1==3) then
     (y5B a p1).bind fun c=>
     (y5M c p2.2.1).bind fun d=>
     (if ((d != (-1))&&((p2.2.2.length:Int)==0)) then
      (y7s c).bind fun l=>
      (idx l d).bind fun q=>
      some (!q)
     else
      some false).bind fun f=>
     y1p f
    else
     some 11
theorem yaP{p0:PbT}{p1:LI}{p2:Int×LI×LI}{r:Int}(hm:y3Z p0 p1 p2=some r):
    F0 56 [.a (lx99 p0),.f qI p1,.a [lI p2.1,lF qI p2.2.1,lF qI p2.2.2]] [] (.i r) []:=by
  refine Fw.mk2 func56 ntmps56 R (fun C=>?_) R;refine .sr (.bo 0 R (.bo 1 R (.an R (.sr (.lg (lx99 p0) ag99 R (.B R) R (.mv R (bS hm fun r1 a2 hm=> .c0 (yf5 a2) cf131 R (.mv R (.ex R (.ex R (.sa R (.an R (.seq (.sv R (.bi R (.ns ?_))))))))))))))));refine .cc hm R (fun hm=>?_) fun hm=>?_
  ·refine .sv R (.an R (.ret (.seqR ?_)));cases hm;exact .r0 results56 (.tmp R .nil) R R
  ·refine .sn (.seq (bS hm fun F K hm=> .cnt 7 R (.c (.pd K lv192) .n) R (.cnt 17 R (.c (.pd K lv192) .n) R ?_)));refine .sub (τ:=⟨[(7,.o (lQ 192 (lx192 F) 0)),(5,.q 1 0),(1,.f qI p1)],[(1,.bx 97 [lI p2.1,lF qI p2.2.1,lF qI p2.2.2])],2⟩) ?_ [] R;refine bS hm fun r3 a3 hm=>?_;refine .drw [(2,[]),(2,[oT]),(2,[oT,oT]),(2,tT 3),(2,[]),(2,[oF,oF,oF,oF,oT]),(2,tT 6),(2,tT 7)] [_,_,_,_,_,_,_,_] ⟨[(9,.i r3),(7,.o (lQ 192 (lx192 F) 0)),(5,.q 1 0),(1,.f qI p1)],[(1,.bx 97 [lI p2.1,lF qI p2.2.1,lF qI p2.2.2])],2⟩ ⟨zM R,O.nc .Q Z R R,O.faQ y7v Z R R,O.lg (l':=(lx190 F.2.2.1)) ag190 Z R .Q R R R,O.faP y9N Z R R,zB nag26 R,O.ca0 (y9b a3) cf132 R R Z R R R,O.as Z R R,trivial⟩ (by kernel_rfl) R ?_;refine .seqN (.sr (.an R ?_));refine .join1 (fun (G:Bool)=>y1p G=some r) (fun G=>⟨[(10,.b G)],[],0⟩) ?_ ?_
   · intro G hm;refine .seq (.sv R (.no R (.ns ?_)));refine .cc hm R (fun hm=>?_) fun hm=>?_
     ·refine .sr (.an R (.ret (.seqR ?_)));cases hm;exact .r0 results56 (.tmp R .nil) R R
     ·refine .sn (.sr (.an R (.ret ?_)));cases hm;exact .r0 results56 (.tmp R .nil) R R
   · intro e;refine .sr (.fa yaw R (.lb nag3 R (.ns (.block (.sr (.bi R (.an R ?_)))))));refine .cc hm R (fun hm=>?_) fun hm=>?_
     ·refine .reg (.mv R (.bi R (.mv R (bS hm fun b6 eb6 hm=>?_))));refine .cut 6 (fun (v7:Bool)=>b6=v7) (fun v7=>⟨[(41,.b v7),(9,.i r3),(7,.o (lQ 192 (lx192 F) 0)),(5,.q 1 0)],[(1,.bx 97 [lI p2.1,lF qI p2.2.1,lF qI p2.2.2])],2⟩) ?_ ?_
      · rintro _ rfl;refine .mv R (bS hm fun b9 eb9 hm=>?_);refine .cut 7 (fun (y:Bool)=>b9=y) (fun y=>⟨[(49,.b y)],[],2⟩) ?_ ?_
        · rintro _ rfl;exact .sa R (.nil (.blkN ((e _ hm).s0 R)))
        · intro H;rcases ifS eb9 with ⟨hc,hm⟩|⟨hc,hm⟩
          · refine .know (d:=42) R hc ?_;exact .mg R (.mg R (.fag y6J R (.lbg nag26 R (bS hm fun a4 L hm=> .op (O.ca0 (y8N L) cf127 R R (Gu.mk R R) R R R) R (.op (O.not (Gu.mk R R) R R) R (.pT R ((H (!a4) (oj hm)).s0 R)))))))
          · refine .know (d:=42) R hc ?_;exact .s2 R R (.s2 R R (.s2 R R (.pF R ((H false (oj hm)).s0 R))))
      · intro J8;rcases ifS eb6 with ⟨hc,hm⟩|⟨hc,hm⟩
        · refine .know (d:=35) R hc ?_;exact .mg R (.mg R (.fag y6J R (.lbg nag26 R (bS hm fun a5 M hm=> .op (O.ca0 (ych M) cf133 R R (Gu.mk R R) R R R) R (.pT R ((J8 a5 (oj hm)).s0 R))))))
        · refine .know (d:=35) R hc ?_;exact .s2 R R (.s2 R R (.sk R (.pF R ((J8 false (oj hm)).s0 R))))
     ·refine .sr (.bi R (.an R ?_));refine .cc hm R (fun hm=>?_) fun hm=>?_
      ·refine .sub (τ:=⟨[(9,.i r3),(7,.o (lQ 192 (lx192 F) 0)),(5,.q 1 0)],[(1,.bx 97 [lI p2.1,lF qI p2.2.1,lF qI p2.2.2])],2⟩) ?_ [] R;refine .drP 2 [(2,[]),(2,[oT])] [_,_] ⟨zM R,O.bi Z R R R R,trivial⟩ fun s=>?_;rcases ifS hm with ⟨g,hm⟩|⟨g,hm⟩
       · skip
         refine .drX s 8 [(2,[oT,oT]),(2,tT 3),(2,tT 4),(2,tT 5),(2,tT 6),(2,tT 7)] [_,_,_,_,_,_] ⟨O.kn (zM R) g,O.faP y6J (Gu.mk R R) R R,O.ld nag26 (Gu.mk R R) R (.B R) R R,O.len sl26 (Gu.mk R R) R R,O.bi (Gu.mk R R) R R R R,O.pkT Z R R R R,trivial⟩ (by kernel_rfl) fun t=>?_;rcases ifS hm with ⟨j,hm⟩|⟨j,hm⟩
         · skip
           refine bS hm fun b1 W hm=>bS hm fun a9 N hm=> .drX t 19 [(2,tT 8),(2,tT 9),(2,tT 10),(2,tT 11),(2,tT 12),(2,tT 9),(2,tA 9 (fA 4 (tT 1))),(2,tA 9 (fA 4 (tT 2))),(2,tA 9 (fA 4 (tT 3))),(2,tT 17),(2,tT 18)] [_,_,_,_,_,_,_,_,_,_,_] ⟨O.kn (zM R) j,O.mv (Gu.mk R R) R R,O.nc .Q (Gu.mk R R) R R,O.faQ ybk (Gu.mk R R) R R,O.ld nag26 (Gu.mk R R) R .Q R R,O.faP y6J (Gu.mk R R) R R,O.ld nag26 (Gu.mk R R) R (.B R) R R,O.ix sl26 (Gu.mk R R) R R W R,O.ld nag3 (Gu.mk R R) R (.E lv3) R R,O.ca0 (yC N) cf69 R R (Gu.mk R R) R R R,O.pkT Z R R R R,trivial⟩ (by kernel_rfl) fun u=>?_;rcases ifS hm with ⟨k,hm⟩|⟨k,hm⟩
           · skip
             refine bS hm fun b2 X hm=>bS hm fun b0 P hm=> .drX u 30 [(2,tT 19),(2,tT 20),(2,tT 21),(2,tT 22),(2,tT 23),(2,tT 20),(2,tA 20 (fA 4 (tT 1))),(2,tA 20 (fA 4 (tT 2))),(2,tA 20 (fA 4 (tT 3))),(2,tT 28),(2,tT 29)] [_,_,_,_,_,_,_,_,_,_,_] ⟨O.kn (zM R) k,O.mv (Gu.mk R R) R R,O.nc .Q (Gu.mk R R) R R,O.faQ ygG (Gu.mk R R) R R,O.ld nag26 (Gu.mk R R) R .Q R R,O.faP y6J (Gu.mk R R) R R,O.ld nag26 (Gu.mk R R) R (.B R) R R,O.ix sl26 (Gu.mk R R) R R X R,O.ld nag3 (Gu.mk R R) R (.E lv3) R R,O.ca0 (yC P) cf69 R R (Gu.mk R R) R R R,O.pkT Z R R R R,trivial⟩ (by kernel_rfl) fun v=>?_;rcases ifS hm with ⟨m,hm⟩|⟨m,hm⟩
             · skip
               exact bS hm fun b3 Y hm=>bS hm fun b5 a0 hm=>bS hm fun a6 S hm=> .drF v [(2,tT 30),(2,tT 31),(2,tT 31),(2,tT 31),(2,tA 31 (fA 2 (tT 1))),(2,tA 31 (fA 2 (tT 2))),(2,tA 31 (fA 2 (tT 3))),(2,tT 31),(2,tA 31 (fA 6 (tT 1))),(2,tA 31 (fA 6 (tT 2))),(2,tA 31 (fA 6 (tT 3))),(2,tT 41),(2,tT 42),(2,tT 43)] [_,_,_,_,_,_,_,_,_,_,_,_,_,_] ⟨[(10,.b a6)],[],2⟩ ⟨O.kn (zM R) m,O.mv (Gu.mk R R) R R,O.mv (Gu.mk R R) R R,O.faP y6J (Gu.mk R R) R R,O.ld nag26 (Gu.mk R R) R (.B R) R R,O.ix sl26 (Gu.mk R R) R R Y R,O.ld nag3 (Gu.mk R R) R (.E lv3) R R,O.faP y6J (Gu.mk R R) R R,O.ld nag26 (Gu.mk R R) R (.B R) R R,O.ix sl26 (Gu.mk R R) R R a0 R,O.ld nag3 (Gu.mk R R) R (.E lv3) R R,O.ca0 (y8O S) cf129 R R (Gu.mk R R) R R R,O.pkT Z R R R R,O.as Z R R,trivial⟩ (by kernel_rfl) R (.blkN ((e _ hm).s0 R))
             · skip
               exact .drF v [(2,tT 30),(2,tT 31),(2,tT 31),(2,tT 31),(2,tA 31 (fA 2 (tT 1))),(2,tA 31 (fA 2 (tT 2))),(2,tA 31 (fA 2 (tT 3))),(2,tT 31),(2,tA 31 (fA 6 (tT 1))),(2,tA 31 (fA 6 (tT 2))),(2,tA 31 (fA 6 (tT 3))),(2,tT 41),(2,tT 42),(2,tT 43)] [_,_,_,_,_,_,_,_,_,_,_,_,_,_] ⟨[(10,.b false)],[],2⟩ ⟨O.kn (zM R) m,zK R,zK R,zK R,zK R,zK R,zK R,zK R,zK R,zK R,zK R,zK R,O.pkF Z R R R R,O.as Z R R,trivial⟩ (by kernel_rfl) R (.blkN ((e _ hm).s0 R))
           · skip
             exact .drF u [(2,tT 19),(2,tT 20),(2,tT 21),(2,tT 22),(2,tT 23),(2,tT 20),(2,tA 20 (fA 4 (tT 1))),(2,tA 20 (fA 4 (tT 2))),(2,tA 20 (fA 4 (tT 3))),(2,tT 28),(2,tT 29),(2,tT 30),(2,tT 31),(2,tT 31),(2,tT 31),(2,tA 31 (fA 2 (tT 1))),(2,tA 31 (fA 2 (tT 2))),(2,tA 31 (fA 2 (tT 3))),(2,tT 31),(2,tA 31 (fA 6 (tT 1))),(2,tA 31 (fA 6 (tT 2))),(2,tA 31 (fA 6 (tT 3))),(2,tT 41),(2,tT 42),(2,tT 43)] [_,_,_,_,_,_,_,_,_,_,_,_,_,_,_,_,_,_,_,_,_,_,_,_,_] ⟨[(10,.b false)],[],2⟩ ⟨O.kn (zM R) k,zK R,zK R,zK R,zK R,zK R,zK R,zK R,zK R,zK R,O.pkF Z R R R R,zM R,zK R,zK R,zK R,zK R,zK R,zK R,zK R,zK R,zK R,zK R,zK R,O.pkF Z R R R R,O.as Z R R,trivial⟩ (by kernel_rfl) R (.blkN ((e _ hm).s0 R))
         · skip
           exact .drF t [(2,tT 8),(2,tT 9),(2,tT 10),(2,tT 11),(2,tT 12),(2,tT 9),(2,tA 9 (fA 4 (tT 1))),(2,tA 9 (fA 4 (tT 2))),(2,tA 9 (fA 4 (tT 3))),(2,tT 17),(2,tT 18),(2,tT 19),(2,tT 20),(2,tT 21),(2,tT 22),(2,tT 23),(2,tT 20),(2,tA 20 (fA 4 (tT 1))),(2,tA 20 (fA 4 (tT 2))),(2,tA 20 (fA 4 (tT 3))),(2,tT 28),(2,tT 29),(2,tT 30),(2,tT 31),(2,tT 31),(2,tT 31),(2,tA 31 (fA 2 (tT 1))),(2,tA 31 (fA 2 (tT 2))),(2,tA 31 (fA 2 (tT 3))),(2,tT 31),(2,tA 31 (fA 6 (tT 1))),(2,tA 31 (fA 6 (tT 2))),(2,tA 31 (fA 6 (tT 3))),(2,tT 41),(2,tT 42),(2,tT 43)] [_,_,_,_,_,_,_,_,_,_,_,_,_,_,_,_,_,_,_,_,_,_,_,_,_,_,_,_,_,_,_,_,_,_,_,_] ⟨[(10,.b false)],[],2⟩ ⟨O.kn (zM R) j,zK R,zK R,zK R,zK R,zK R,zK R,zK R,zK R,zK R,O.pkF Z R R R R,zM R,zK R,zK R,zK R,zK R,zK R,zK R,zK R,zK R,zK R,O.pkF Z R R R R,zM R,zK R,zK R,zK R,zK R,zK R,zK R,zK R,zK R,zK R,zK R,zK R,O.pkF Z R R R R,O.as Z R R,trivial⟩ (by kernel_rfl) R (.blkN ((e _ hm).s0 R))
       · skip
         exact .drF s [(2,[oT,oT]),(2,tT 3),(2,tT 4),(2,tT 5),(2,tT 6),(2,tT 7),(2,tT 8),(2,tT 9),(2,tT 10),(2,tT 11),(2,tT 12),(2,tT 9),(2,tA 9 (fA 4 (tT 1))),(2,tA 9 (fA 4 (tT 2))),(2,tA 9 (fA 4 (tT 3))),(2,tT 17),(2,tT 18),(2,tT 19),(2,tT 20),(2,tT 21),(2,tT 22),(2,tT 23),(2,tT 20),(2,tA 20 (fA 4 (tT 1))),(2,tA 20 (fA 4 (tT 2))),(2,tA 20 (fA 4 (tT 3))),(2,tT 28),(2,tT 29),(2,tT 30),(2,tT 31),(2,tT 31),(2,tT 31),(2,tA 31 (fA 2 (tT 1))),(2,tA 31 (fA 2 (tT 2))),(2,tA 31 (fA 2 (tT 3))),(2,tT 31),(2,tA 31 (fA 6 (tT 1))),(2,tA 31 (fA 6 (tT 2))),(2,tA 31 (fA 6 (tT 3))),(2,tT 41),(2,tT 42),(2,tT 43)] [_,_,_,_,_,_,_,_,_,_,_,_,_,_,_,_,_,_,_,_,_,_,_,_,_,_,_,_,_,_,_,_,_,_,_,_,_,_,_,_,_,_] ⟨[(10,.b false)],[],2⟩ ⟨O.kn (zM R) g,zK R,zK R,zK R,zK R,O.pkF Z R R R R,zM R,zK R,zK R,zK R,zK R,zK R,zK R,zK R,zK R,zK R,O.pkF Z R R R R,zM R,zK R,zK R,zK R,zK R,zK R,zK R,zK R,zK R,zK R,O.pkF Z R R R R,zM R,zK R,zK R,zK R,zK R,zK R,zK R,zK R,zK R,zK R,zK R,zK R,O.pkF Z R R R R,O.as Z R R,trivial⟩ (by kernel_rfl) R (.blkN ((e _ hm).s0 R))
      ·refine .sr (.bi R (.an R ?_));refine .cc hm R (fun hm=>?_) fun hm=>?_
       ·refine .sv R (.mv R (bS hm fun w T hm=> .c0 (yaC T) cf134 R (.al 2 zz190 R (.st ag190.sz R (.nr (.lg (lx190 w) ag190 R (.B R) R (.fa y9N R (.lb nag26 R (bS hm fun x U hm=> .c0 (y9b U) cf132 R (.an R (.reg (.mv R (.bi R (.mv R ?_))))))))))))));refine .cut 5 (fun (z:Bool)=>((x != (-1))&&((p2.2.2.length:Int)==0))=z) (fun z=>⟨[(111,.b z),(12,.i x),(11,.q 2 0)],[(2,.bx 190 (lx190 w))],3⟩) ?_ ?_
        · rintro _ rfl;refine .mv R (bS hm fun a1 eb33 hm=>?_);refine .cut 7 (fun (D:Bool)=>a1=D) (fun D=>⟨[(119,.b D)],[],4⟩) ?_ ?_
          · rintro _ rfl;exact .sa R (.nil (.blkN ((e _ hm).s0 R)))
          · intro J;rcases ifS eb33 with ⟨hc,hm⟩|⟨hc,hm⟩
            · refine .know (d:=112) R hc ?_;exact .op (O.lg (l':=(lx190 w)) ag190 (Gu.mk R R) R (.B R) R R R) R (bS hm fun a7 V hm=> .op (O.ca (r':= .h 3) [3] [(0,ROW rB 4 a7)] (some 4) (yci V) cf135 R R (Gu.mk R R) R R R R ⟨⟨_,R,I4⟩,trivial⟩ I3 R) R (.mg R (bS hm fun a8 p hm=> .op (O.ir sl177 (Gu.mk R R) R R R p R) R (.op (O.ld nag4 (Gu.mk R R) R (.R R p lv4) R R) R (.op (O.not (Gu.mk R R) R R) R (.pT R ((J (!a8) (oj hm)).s0 R)))))))
            · refine .know (d:=112) R hc ?_;exact .s2 R R (.s2 R R (.s2 R R (.pF R ((J false (oj hm)).s0 R))))
        · intro I;rcases yEt (x != (-1)) with hc|hc
          · refine .know (d:=106) R hc ?_;exact .fag y6J R (.lbg nag26 R (.op (O.len sl26 (Gu.mk R R) R R) R (.bg R (.pT R ((I ((p2.2.2.length:Int)==0) (andT hc).symm).s0 R)))))
          · refine .know (d:=106) R hc ?_;exact .s2 R R (.s2 R R (.pF R ((I false (andF hc).symm).s0 R)))
       ·refine .sr (.an R (.ret (.blkR (.seqR ?_))));cases hm;exact .r0 results56 (.tmp R .nil) R R
def y3R(a:Int×(List CycT))(b:List CycT):Option ((Int×(List CycT))⊕(List CycT)):=
 some (.inl (W (a.1+1),b))
def y3S(p0:PbT)(p1:Int×LI×LI)(a:Int×(List CycT)):Option ((Int×(List CycT))⊕(List CycT)):=
 if decide (a.1<(p1.2.1.length:Int)) then
  (idx p1.2.1 a.1).bind fun b=>
  (yf p0.2.2 b).bind fun c=>
  if c then
   (app a.2 ([(([b]:LI),([]:LI),(-1))]:List CycT)).bind fun d=>
   y3R a d
  else
   (app a.2 ([(([]:LI),([]:LI),b)]:List CycT)).bind fun e=>
   y3R a e
 else
  some (.inr a.2)
def y2E(p0:PbT)(p1:Int×LI×LI):Option ((List CycT)×Int):=
 (yr p0).bind fun b=>
 if(b != 0) then
  some (([]:List CycT),b)
 else
  if((p1.1 != 1)&&(p1.1 != 2)) then
   some (([]:List CycT),11)
  else
   (y3Z p0 ([]:LI) p1).bind fun d=>
   if(d != 0) then
    some (([]:List CycT),d)
   else
    (iter (y3S p0 p1) (0,([]:List CycT))).bind fun a=>
    if(p1.1==1) then
     (yB p1.2.2).bind fun c=>
     (app a ([(c,([]:LI),(-1))]:List CycT)).bind fun e=>
     some (e,0)
    else
     (idx p1.2.2 0).bind fun f=>
     (idx p1.2.2 1).bind fun g=>
     (app a ([(([]:LI),([f]:LI),g)]:List CycT)).bind fun h=>
     some (h,0)
theorem y7x{p0:PbT}{p1:Int×LI×LI}{r:(List CycT)×Int}(hm:y2E p0 p1=some r):
    F0 52 [.a (lx99 p0),.a [lI p1.1,lF qI p1.2.1,lF qI p1.2.2]] [] (.tp [.h 0,.i r.2]) [ROW rE170 170 r.1]:=by
  refine Fw.mk2 func52 ntmps52 R (fun C=>?_) R;refine .sr (.bo 0 R (.bo 1 R (.sa R (.an R (.seq (.sr (.lg (lx99 p0) ag99 R (.B R) R (bS hm fun r1 S hm=> .c0 (y7B S) cf124 R (.an R (.sv R (.bi R (.ns ?_))))))))))));refine .cc hm R (fun hm=>?_) fun hm=>?_
  ·refine .sv R (.sa R (.an R (.ret (.seqR (.nlg rE170 170 4 0 R R ?_)))));cases hm;exact .rr [2] results52 (.tmp R (.tmp R .nil)) R I3 ⟨⟨_,R,I4⟩,trivial⟩
  ·refine .sn (.seq (.sr (.fa yaw R (.lb nag3 R (.bi R (.mv R ?_))))));refine .cut 4 (fun (N:Bool)=>((p1.1 != 1)&&(p1.1 != 2))=N) (fun N=>⟨[(23,.b N),(3,.q 1 0),(2,.q 0 0)],[(1,.bx 97 [lI p1.1,lF qI p1.2.1,lF qI p1.2.2]),(0,.bx 99 (lx99 p0))],2⟩) ?_ ?_
   · rintro _ rfl;refine .ns ?_;refine .cc hm R (fun hm=>?_) fun hm=>?_
     ·refine .sr (.sa R (.an R (.ret (.seqR (.nlg rE170 170 4 0 R R ?_)))));cases hm;exact .rr [2] results52 (.tmp R (.tmp R .nil)) R I3 ⟨⟨_,R,I4⟩,trivial⟩
     ·refine .sn (.seq (.sr (.lg (lx99 p0) ag99 R (.B R) R (.lg [lI p1.1,lF qI p1.2.1,lF qI p1.2.2] ag97 R (.B R) R (bS hm fun r4 T hm=> .op (O.ca0c (yaP T) cf56 R R Z R ⟨⟨R,.rf⟩,⟨R,(.c (.nf (r:=qI)) .n)⟩,⟨R,.rf⟩,trivial⟩ R R) R (.an R (.sv R (.bi R (.ns ?_)))))))));refine .cc hm R (fun hm=>?_) fun hm=>?_
      ·refine .sv R (.sa R (.an R (.ret (.seqR (.nlg rE170 170 4 0 R R ?_)))));cases hm;exact .rr [2] results52 (.tmp R (.tmp R .nil)) R I3 ⟨⟨_,R,I4⟩,trivial⟩
      ·refine .sn (.sr (.an R (.seq (.sr (.fa y9N R (.lb nag26 R (.ln sl26 R (.mv R (.ns (.block (bS hm fun m w hm=>?_)))))))))));refine .cut1 (z:= .exit 0) m (fun (m:(List CycT))=>⟨[(8,.h 0),(3,.q 1 0)],[(0,ROW rE170 170 m),(1,.bx 97 [lI p1.1,lF qI p1.2.1,lF qI p1.2.2])],2⟩) ?_ fun Q=>?_
       · skip
         refine .blkE (.seqN (.seq (.sr (.fa yaw R (.lb nag3 R (.bi R (.ns ?_)))))));refine .cc hm R (fun hm=>?_) fun hm=>?_
         ·refine .sv R (.fa y6J R (.lb nag26 R (bS hm fun u x hm=> .cm (r':= .h 2) [2] [(0,rwI u)] (some 3) (y2q x) cf58 R ⟨⟨_,R,I4⟩,trivial⟩ R (.bu [lH 2,lN,lI (-1)] pl170 R (.fz 2 [60] [] R R fR R R (.op (O.bsF (r:=rE170) (zs:=([(u,([]:LI),(-1))]:List CycT)) bs102 R R Z R R R (.c (.p .l (.p .n .k)) .n) R R R) R (bS hm fun W D hm=> .ap 3 underlying102 el170 R R (.fr R) D (.sa R (.an R (.ret (.seqR ?_)))))))))));cases hm;exact .rr [3] results52 (.tmp R (.tmp R .nil)) R I3 ⟨⟨_,R,I4⟩,trivial⟩
         ·refine .sn (.seq ?_);refine .sub (τ:=⟨[(8,.h 0),(3,.q 1 0)],[(0,ROW rE170 170 m),(1,.bx 97 [lI p1.1,lF qI p1.2.1,lF qI p1.2.2])],2⟩) ?_ [] R;refine bS hm fun s F hm=>bS hm fun v G hm=>bS hm fun U H hm=>?_;refine .drg 3 [(2,[]),(2,[]),(2,[oF,oT]),(2,[oF,oT,oT]),(2,fA 1 (tT 3)),(2,fA 1 (tT 4)),(2,[]),(2,[oF,oF,oF,oF,oF,oF,oT]),(2,[oF,oF,oF,oF,oF,oF,oT,oT]),(2,fA 6 (tT 3)),(2,fA 1 (tT 9)),(2,fA 1 (tT 10)),(2,tT 12),(3,tT 13),(3,tT 14)] [_,_,_,_,_,_,_,_,_,_,_,_,_,_,_] ⟨[(5,.i 0),(4,.h 2)],[(2,ROW rE170 170 U)],3⟩ ⟨zM R,O.faP y6J Z R R,zB nag26 R,O.ix sl26 Z R R F R,O.ld nag3 Z R (.E lv3) R R,O.bsF (r:=qI) (zs:=([s]:LI)) bs26 R R Z R R R (.c .k .n) R R R,O.faP y6J Z R R,zB nag26 R,O.ix sl26 Z R R G R,O.ld nag3 Z R (.E lv3) R R,O.bu (l:=[lN,lF qI ([s]:LI),lI v]) pl170 R Z R R R,O.bsF (r:=rE170) (zs:=([(([]:LI),([s]:LI),v)]:List CycT)) bs102 R R Z R R R (.c (.p .n (.p .l .k)) .n) R R R,O.ap 2 underlying102 el170 R R Z R R (.fr R) H R,O.as Z R R,O.as Z R R,trivial⟩ (by kernel_rfl) R ?_;refine .seqN (.ret ?_);cases hm;exact .rr [2] results52 (.tmp R (.tmp R .nil)) R I3 ⟨⟨_,R,I4⟩,trivial⟩
       refine .nlg rE170 170 8 0 R R (.iter (fun (e:Int×(List CycT))=>⟨[(33,.i e.1),(32,.i p1.2.1.length),(31,.f qI p1.2.1),(8,.h 0),(3,.q 1 0),(2,.q 2 0)],[(0,ROW rE170 170 e.2),(1,.bx 97 [lI p1.1,lF qI p1.2.1,lF qI p1.2.2]),(2,.bx 99 (lx99 p0))],3⟩) w [(0,2),(2,0)] R ?_);intro e t hm M L;refine .sr (.bi R (.ns (.seq ?_)));refine .cc hm R (fun hm=>?_) fun hm=> .xx ((Q _ (L _ (oj hm))).s0 R);refine .sn ?_;refine .join1 (fun (j:List CycT)=>y3R e j=some t) (fun j=>⟨[(8,.h 0),(33,.i e.1),(32,.i p1.2.1.length),(31,.f qI p1.2.1),(3,.q 1 0),(2,.q 2 0)],[(0,ROW rE170 170 j),(1,.bx 97 [lI p1.1,lF qI p1.2.1,lF qI p1.2.2]),(2,.bx 99 (lx99 p0))],3⟩) ?_ ?_
       · intro j hm;exact .reg (.bi R (.mv R (.nil ((M _ (oj hm)).s0 R))))
       · intro o;refine .block (.sr (bS hm fun g I hm=> .ix sl26 I R (.le nag3 lv3 R (.an R (.sr (.fa y9M R (.lb nag26 R (.mv R (bS hm fun V y hm=> .c0 (yi y) cf41 R (.ns ?_))))))))));exact .cc hm R (fun hm=> .reg (.mv R (.mv R (.bf (r:=qI) ([g]:LI) bs26 R (.c .k .n) R (.bu [lF qI ([g]:LI),lN,lI (-1)] pl170 R (.op (O.bsF (r:=rE170) (zs:=([(([g]:LI),([]:LI),(-1))]:List CycT)) bs102 R R Z R R R (.c (.p .l (.p .n .k)) .n) R R R) R (bS hm fun X J hm=> .ap 3 underlying102 el170 R R (.fr R) J (.sa R (.nil (.blkN ((o _ hm).sub [(0,3)] R))))))))))) fun hm=> .reg (.mv R (.mv R (.bu [lN,lN,lI g] pl170 R (.op (O.bsF (r:=rE170) (zs:=([(([]:LI),([]:LI),g)]:List CycT)) bs102 R R Z R R R (.c (.p .n (.p .n .k)) .n) R R R) R (bS hm fun Y K hm=> .ap 3 underlying102 el170 R R (.fr R) K (.sa R (.nil (.blkN ((o _ hm).sub [(0,3)] R)))))))))
   · intro P;rcases yEt (p1.1 != 1) with hc|hc
     · refine .know (d:=19) R hc ?_;exact .fag yaw R (.lbg nag3 R (.bg R (.pT R ((P (p1.1 != 2) (andT hc).symm).s0 R))))
     · refine .know (d:=19) R hc ?_;exact .s2 R R (.sk R (.pF R ((P false (andF hc).symm).s0 R)))
def y7S(a:Int)(p0:Int×Int×Int):Option Bool:=
 some (p0.2.2==a)
theorem ybu{c:Int}{p0:Int×Int×Int}{r:Bool}(hm:y7S c p0=some r):
  F0 204 [.a [lI p0.1,lI p0.2.1,lI p0.2.2],.o (lQ 3 [lI c] 0)] [] (.b r) []:=by
 refine Fw.mk2 func204 ntmps204 R (fun C=>?_) R;refine .sr (.bo 0 R (.an R (.sr (.fa y3l R (.lb nag3 R (.lq nag3 R (.bi R (.an R (.ret ?_)))))))));cases hm;exact .r0 results204 (.tmp R .nil) R R
def y6G(p0:AutT×(List KeyT))(a:LI×Int):Option ((LI×Int)⊕LI):=
 if decide (a.2>0) then
  (yE p0.1.2.2.2 (y7S a.2)).bind fun b=>
  (idx p0.1.2.2.2 b).bind fun c=>
  (app a.1 ([c.2.1]:LI)).bind fun d=>
  (idx p0.1.2.2.2 b).bind fun e=>
  some (.inl (d,e.1))
 else
  some (.inr a.1)
def y4S(p0:AutT×(List KeyT))(p1:Int):Option LI:=
 (iter (y6G p0) (([]:LI),p1)).bind fun b=>
 (y3k b).bind fun a=>
 some a
theorem y9o{p0:AutT×(List KeyT)}{p1:Int}{r:LI}(hm:y4S p0 p1=some r):
  F0 128 [.a (lx190 p0),.i p1] [] (.h 0) [rwI r]:=by
 refine Fw.mk2 func128 ntmps128 R (fun C=>?_) R;refine .sr (.bo 0 R (.bo 1 R (.an R (.sr (.an R (.seq (.block (bS hm fun m p hm=>?_))))))));refine .cut1 (z:= .exit 0) m (fun (m:LI)=>⟨[(5,.h 0)],[(0,rwI m)],1⟩) ?_ fun o=>?_
 ·skip
  refine .blkE (.seqN (.sv R (bS hm fun u d hm=> .cm (r':= .tp []) [0] [(0,rwI u)] none (yaV d) cf205 R ⟨⟨_,R,I4⟩,trivial⟩ R (.nr (.mv R (.an R (.ret ?_)))))));cases hm;exact .rr [0] results128 (.tmp R .nil) R I3 ⟨⟨_,R,I4⟩,trivial⟩
 refine .nlg qI 3 5 0 R R (.iter (fun (b:LI×Int)=>⟨[(5,.h 0),(3,.q 1 0),(2,.q 2 0)],[(0,rwI b.1),(1,.bx 3 [lI b.2]),(2,.bx 190 (lx190 p0))],3⟩) p [(0,2),(2,0)] R ?_);intro b w hm t s;refine .seq (.sr (.lb nag3 R (.bi R (.ns ?_))));refine .cc hm R (fun hm=>?_) fun hm=> .xx ((o _ (s _ (oj hm))).s0 R);refine .sn (.block (.sr (.fa y7a R (.fa yF R (.lb nag27 R (.op (O.mz (l:=[lP 1 0]) Z R R) R (bS hm fun y e hm=> .op (O.caZ (y4q e) cf203 R R Z R ⟨⟨R,LnL.rf⟩,⟨R,(.z (l':=[lQ 3 [lI b.2] 0]) cf204 (fun x r h=>ybu h) (fun _=>R) R ⟨(.q R LnL.rf),trivial⟩),trivial⟩,trivial⟩ (fun _ _ _ _ _ h=>h) R) R (.an R (.sv R (.fa y7a R (.fa yF R (.lb nag27 R (.mv R (bS hm fun v f hm=> .ix sl27 f R (.fe y3F R (.le nag3 lv112 R (.bf (r:=qI) ([v.2.1]:LI) bs26 R (.c .k .n) R (bS hm fun B g hm=> .ap 3 underlying26 el3 R R (.fr R) g (.an R (.reg (.fa y7a R (.fa yF R (.lb nag27 R (.mv R (bS hm fun D j hm=> .ix sl27 j R (.fe y1A R (.le nag3 lv112 R ?_)))))))))))))))))))))))))));exact .st nag3.sz R (.nil (.blkN ((t _ (oj hm)).sub [(0,3)] R)))
def y6N(g:TskT)(b:Int)(c:List LI)(a:Int):Option (Int⊕(Unit⊕(LI×LI))):=
 if decide (a<(c.length:Int)) then
  (idx c a).bind fun d=>
  (y5k g b d).bind fun e=>
  if(!e) then
   (y4S g.2.2.1 b).bind fun f=>
   some (.inr (.inr ((f,d))))
  else
   some (.inl (W (a+1)))
 else
  some (.inr (.inl ()))
def y7F(p1:Int)(b:TskT)(a:Int):Option (Int⊕(Unit⊕(LI×LI))):=
 if decide (a<(b.2.2.2.1.length:Int)) then
  (y4n b a p1).bind fun d=>
  (iter (y6N b a d) 0).bind fun c=>
  match c with
  | .inl f=>
   some (.inl (W (a+1)))
  | .inr (e)=>
   some (.inr (.inr (e)))
 else
  some (.inr (.inl ()))
def y8B(p0:PbT)(p1:Int):Option ((Int×LI×LI)×Bool×Int):=
 (y2x p0).bind fun a=>
 if(a.2 != 0) then
  some ((0,([]:LI),([]:LI)),false,a.2)
 else
  if((decide (p1<2))||(decide (p1>3))) then
   some ((0,([]:LI),([]:LI)),false,2)
  else
   a.1.bind fun d=>
   (iter (y7F p1 d) 0).bind fun b=>
   match b with
   | .inl e=>
    some ((0,([]:LI),([]:LI)),true,0)
   | .inr (c)=>
    some ((1,c),false,0)
theorem ydK{p0:PbT}{p1:Int}{r:(Int×LI×LI)×Bool×Int}(hm:y8B p0 p1=some r):
    F0 53 [.a (lx99 p0),.i p1] [] (.tp [.a [lI r.1.1,lH 0,lF qI r.1.2.2],.b r.2.1,.i r.2.2]) [rwI r.1.2.1]:=by
  refine Fw.mk2 func53 ntmps53 R (fun C=>?_) R;refine .sr (.bo 0 R (.al 1 zz97 R (.sa R (.an R (.sr (.lg (lx99 p0) ag99 R (.B R) R (bS hm fun X S hm=> .c0 (y8A S) cf125 R (.mv R (.ex R (.ex R (.sa R (.an R (.seq (.sv R (.bi R (.ns ?_))))))))))))))));refine .cc hm R (fun hm=>?_) fun hm=>?_
  ·refine .sr (.bu [lI 0,lN,lN] pl97 R (.mv R (.st ag97.sz R (.sa R (.an R (.ret (.seqR (.nlb qI 3 1 1 R R (.cno 1 R (.c .rf (.c .rf (.c (.nf (r:=qI)) .n))) R ?_)))))))));cases hm;exact .rr [2] results53 (.cell R R ag97 R (.tmp R (.tmp R .nil))) R I3 ⟨⟨_,R,I4⟩,trivial⟩
  ·refine .sn (.seq (.sv R (.bi R (.mv R ?_))));refine .cut 3 (fun (J:Bool)=>((decide (p1<2))||(decide (p1>3)))=J) (fun J=>⟨[(25,.b J),(7,.o (lK rE192 192 X.1)),(4,.q 1 0),(1,.i p1)],[(1,.bx 97 [lI 0,lN,lN])],2⟩) ?_ ?_
   · rintro _ rfl;refine .ns ?_;refine .cc hm R (fun hm=>?_) fun hm=>?_
     ·refine .sr (.bu [lI 0,lN,lN] pl97 R (.st ag97.sz R (.sa R (.an R (.ret (.seqR (.nlb qI 3 1 1 R R (.cno 1 R (.c .rf (.c .rf (.c (.nf (r:=qI)) .n))) R ?_))))))));cases hm;exact .rr [2] results53 (.cell R R ag97 R (.tmp R (.tmp R .nil))) R I3 ⟨⟨_,R,I4⟩,trivial⟩
     ·refine .sn (.seq (.sv R (bS hm fun j v hm=> .cnt 27 R (.c (.pd v lv192) .n) R (.cnt 7 R (.c (.pd v lv192) .n) R (.op (O.nc .Q Z R R) R (.fq ybl R (.lq nag74 R (.ln sl74 R (.mv R (.ns (.block (bS hm fun w y hm=>?_))))))))))));refine .cutU (z:= .exit 0) (fun t=> .inl t=w) (fun (t:Unit)=>⟨[(4,.q 0 0)],[(0,.bx 97 [lI 0,lN,lN])],1⟩) ?_ fun L=>?_
      · rintro t rfl;dsimp only at hm;refine .blkE (.seqN (.sr (.bu [lI 0,lN,lN] pl97 R (.st ag97.sz R (.sa R (.an R (.ret (.nlb qI 3 0 1 R R (.cno 0 R (.c .rf (.c .rf (.c (.nf (r:=qI)) .n))) R ?_)))))))));cases hm;exact .rr [1] results53 (.cell R R ag97 R (.tmp R (.tmp R .nil))) R I3 ⟨⟨_,R,I4⟩,trivial⟩
      refine .cutU (z:= .ret) (fun f=> .inr (f)=w) (fun (f:LI×LI)=>⟨[(6,.i 0),(5,.b false),(4,.q 0 0)],[(0,.bx 97 [lI 1,lH 1,lF qI f.2]),(1,rwI f.1)],2⟩) ?_ fun M=>?_
      · rintro f rfl;dsimp only at hm;refine .blkR (.seqR ?_);cases hm;exact .rr [1] results53 (.cell R R ag97 R (.tmp R (.tmp R .nil))) R I3 ⟨⟨_,R,I4⟩,trivial⟩
      refine .iter (fun (e:Int)=>⟨[(32,.i e),(31,.i j.2.2.2.1.length),(7,.o (lQ 192 (lx192 j) 0)),(4,.q 0 0),(1,.i p1)],[(0,.bx 97 [lI 0,lN,lN])],1⟩) y [(0,1)] R ?_;intro e V hm H l;refine .sr (.bi R (.ns (.seq ?_)));refine .cc hm R (fun hm=>?_) fun hm=> .xx ((L _ (l _ (oj hm))).s0 R);refine .sn (.seq (.block (.sv R (.an R (.sv R (.mv R (.mv R (bS hm fun p E hm=> .cm (r':= .h 1) [1] [(0,ROW (rL qI) 26 p)] (some 2) (y9c E) cf126 R ⟨⟨_,R,I4⟩,trivial⟩ R (.lh sl74 R (.mv R (.ns (.block (bS hm fun x D hm=>?_)))))))))))));refine .cutU (z:= .exit 2) (fun u=> .inl u=x) (fun (u:Unit)=>⟨[(32,.i e),(31,.i j.2.2.2.1.length),(7,.o (lQ 192 (lx192 j) 0)),(4,.q 0 0),(1,.i p1)],[(0,.bx 97 [lI 0,lN,lN])],1⟩) ?_ fun N=>?_
      · rintro u rfl;dsimp only at hm;exact .blkE (.blkN (.seqN (.reg (.bi R (.mv R (.nil ((H _ (oj hm)).s0 R)))))))
      refine .cutU (z:= .ret) (fun g=> .inr (g)=x) (fun (g:LI×LI)=>⟨[(6,.i 0),(5,.b false),(4,.q 0 0)],[(0,.bx 97 [lI 1,lH 1,lF qI g.2]),(1,rwI g.1)],2⟩) ?_ fun P=>?_
      · rintro g rfl;dsimp only at hm;exact .blkR (.blkR (.seqR (.seqR ((M _ (l _ (oj hm))).s0 R))))
      refine .iter (fun (s:Int)=>⟨[(40,.i s),(39,.i p.length),(38,.h 0),(8,.i e),(32,.i e),(31,.i j.2.2.2.1.length),(7,.o (lQ 192 (lx192 j) 0)),(4,.q 1 0),(1,.i p1)],[(0,ROW (rL qI) 26 p),(1,.bx 97 [lI 0,lN,lN])],2⟩) D [(0,1),(1,0)] R ?_;intro s W hm I m;refine .sr (.bi R (.ns (.seq ?_)));refine .cc hm R (fun hm=>?_) fun hm=> .xx ((N _ (m _ (oj hm))).sub [(0,1)] R);refine .sn (.seq (.block (.sr (bS hm fun U k hm=> .op (O.ir sl74 Z R R R k R) R (.op (O.ld nag26 Z R (.R R k lv26) R R) R (.an R (.sv R (.mv R (.mv R (bS hm fun Y F hm=> .c0 (y8N F) cf127 R (.no R (.ns ?_))))))))))));exact .cc hm R (fun hm=> .sv R (.op (O.nc .Q Z R R) R (.fq y7v R (.lg (lx190 j.2.2.1) ag190 R .Q R (.mv R (bS hm fun T G hm=> .cm (r':= .h 2) [2] [(0,rwI T)] (some 3) (y9o G) cf128 R ⟨⟨_,R,I4⟩,trivial⟩ R (.mv R (.bu [lI 1,lH 2,lF qI U] pl97 R (.st ag97.sz R (.sa R (.an R (.ret (.blkR (.seqR (.seqR ((P _ (m _ (oj hm))).sub [(0,1),(1,2)] R)))))))))))))))) fun hm=> .skip (.blkN (.seqN (.reg (.bi R (.mv R (.nil ((I _ (oj hm)).s0 R)))))))
   · intro K;rcases yEt (decide (p1<2)) with hc|hc
     · refine .know (d:=22) R hc ?_;exact .s2 R R (.pT R ((K true (orT hc).symm).s0 R))
     · refine .know (d:=22) R hc ?_;exact .mg R (.bg R (.pF R ((K (decide (p1>3)) (orF hc).symm).s0 R)))
def y6O(c:TskT)(b:Int)(d:Int)(a:Int):Option (Int⊕(Unit⊕(LI×LI))):=
 if decide (a<(c.2.2.2.2.2.length:Int)) then
  (idx c.2.2.2.2.2 a).bind fun e=>
  (y5l c b d e).bind fun f=>
  if f then
   (y4S c.2.2.1 b).bind fun g=>
   some (.inr (.inr ((g,([d,e]:LI)))))
  else
   some (.inl (W (a+1)))
 else
  some (.inr (.inl ()))
def y6P(c:TskT)(b:Int)(a:Int):Option (Int⊕(Unit⊕(LI×LI))):=
 if decide (a<(c.2.2.2.2.1.length:Int)) then
  (idx c.2.2.2.2.1 a).bind fun f=>
  (iter (y6O c b f) 0).bind fun d=>
  match d with
  | .inl g=>
   some (.inl (W (a+1)))
  | .inr (e)=>
   some (.inr (.inr (e)))
 else
  some (.inr (.inl ()))
def y7G(d:TskT)(a:Int):Option (Int⊕(Unit⊕(LI×LI))):=
 if decide (a<(d.2.2.2.1.length:Int)) then
  (iter (y6P d a) 0).bind fun b=>
  match b with
  | .inl e=>
   some (.inl (W (a+1)))
  | .inr (c)=>
   some (.inr (.inr (c)))
 else
  some (.inr (.inl ()))
def y8C(p0:PbT):Option ((Int×LI×LI)×Bool×Int):=
 (y2x p0).bind fun a=>
 if(a.2 != 0) then
  some ((0,([]:LI),([]:LI)),false,a.2)
 else
  a.1.bind fun d=>
  (iter (y7G d) 0).bind fun b=>
  match b with
  | .inl e=>
   some ((0,([]:LI),([]:LI)),true,0)
  | .inr (c)=>
   some ((2,c),false,0)
theorem ydL{p0:PbT}{r:(Int×LI×LI)×Bool×Int}(hm:y8C p0=some r):
    F0 54 [.a (lx99 p0)] [] (.tp [.a [lI r.1.1,lH 0,lF qI r.1.2.2],.b r.2.1,.i r.2.2]) [rwI r.1.2.1]:=by
  refine Fw.mk2 func54 ntmps54 R (fun C=>?_) R;refine .sr (.bo 0 R (.al 1 zz97 R (.sa R (.an R (.sr (.lg (lx99 p0) ag99 R (.B R) R (bS hm fun r1 a2 hm=> .c0 (y8A a2) cf125 R (.mv R (.ex R (.ex R (.sa R (.an R (.seq (.sv R (.bi R (.ns ?_))))))))))))))));refine .cc hm R (fun hm=>?_) fun hm=>?_
  ·refine .sr (.bu [lI 0,lN,lN] pl97 R (.mv R (.st ag97.sz R (.sa R (.an R (.ret (.seqR (.nlb qI 3 1 1 R R (.cno 1 R (.c .rf (.c .rf (.c (.nf (r:=qI)) .n))) R ?_)))))))));cases hm;exact .rr [2] results54 (.cell R R ag97 R (.tmp R (.tmp R .nil))) R I3 ⟨⟨_,R,I4⟩,trivial⟩
  ·refine .sn (.seq (.sv R (bS hm fun e p hm=> .cnt 20 R (.c (.pd p lv192) .n) R (.cnt 5 R (.c (.pd p lv192) .n) R (.cnt 14 R (.c (.pd p lv192) .n) R (.op (O.nc .Q Z R R) R (.fq ybl R (.lq nag74 R (.ln sl74 R (.mv R (.ns (.block (bS hm fun E I hm=>?_)))))))))))));refine .cutU (z:= .exit 0) (fun w=> .inl w=E) (fun (w:Unit)=>⟨[(2,.q 0 0)],[(0,.bx 97 [lI 0,lN,lN])],1⟩) ?_ fun V=>?_
   · rintro w rfl;dsimp only at hm;refine .blkE (.seqN (.sr (.bu [lI 0,lN,lN] pl97 R (.st ag97.sz R (.sa R (.an R (.ret (.nlb qI 3 0 1 R R (.cno 0 R (.c .rf (.c .rf (.c (.nf (r:=qI)) .n))) R ?_)))))))));cases hm;exact .rr [1] results54 (.cell R R ag97 R (.tmp R (.tmp R .nil))) R I3 ⟨⟨_,R,I4⟩,trivial⟩
   refine .cutU (z:= .ret) (fun j=> .inr (j)=E) (fun (j:LI×LI)=>⟨[(4,.i 0),(3,.b false),(2,.q 0 0)],[(0,.bx 97 [lI 2,lH 1,lF qI j.2]),(1,rwI j.1)],2⟩) ?_ fun W=>?_
   · rintro j rfl;dsimp only at hm;refine .blkR (.seqR ?_);cases hm;exact .rr [1] results54 (.cell R R ag97 R (.tmp R (.tmp R .nil))) R I3 ⟨⟨_,R,I4⟩,trivial⟩
   refine .iter (fun (d:Int)=>⟨[(25,.i d),(24,.i e.2.2.2.1.length),(5,.o (lQ 192 (lx192 e) 0)),(2,.q 0 0)],[(0,.bx 97 [lI 0,lN,lN])],1⟩) I [(0,1)] R ?_;intro d a4 hm S s;refine .sr (.bi R (.ns (.seq ?_)));refine .cc hm R (fun hm=>?_) fun hm=> .xx ((V _ (s _ (oj hm))).s0 R);refine .sn (.seq (.block (.sv R (.an R (.sv R (.op (O.nc .Q Z R R) R (.fq ybk R (.lq nag26 R (.ln sl26 R (.mv R (.ns (.block (bS hm fun F J hm=>?_)))))))))))));refine .cutU (z:= .exit 2) (fun x=> .inl x=F) (fun (x:Unit)=>⟨[(25,.i d),(24,.i e.2.2.2.1.length),(5,.o (lQ 192 (lx192 e) 0)),(2,.q 0 0)],[(0,.bx 97 [lI 0,lN,lN])],1⟩) ?_ fun X=>?_
   · rintro x rfl;dsimp only at hm;exact .blkE (.blkN (.seqN (.reg (.bi R (.mv R (.nil ((S _ (oj hm)).s0 R)))))))
   refine .cutU (z:= .ret) (fun l=> .inr (l)=F) (fun (l:LI×LI)=>⟨[(4,.i 0),(3,.b false),(2,.q 0 0)],[(0,.bx 97 [lI 2,lH 1,lF qI l.2]),(1,rwI l.1)],2⟩) ?_ fun Y=>?_
   · rintro l rfl;dsimp only at hm;exact .blkR (.blkR (.seqR (.seqR ((W _ (s _ (oj hm))).s0 R))))
   refine .iter (fun (g:Int)=>⟨[(33,.i g),(32,.i e.2.2.2.2.1.length),(31,.f qI e.2.2.2.2.1),(6,.i d),(25,.i d),(24,.i e.2.2.2.1.length),(5,.o (lQ 192 (lx192 e) 0)),(2,.q 0 0)],[(0,.bx 97 [lI 0,lN,lN])],1⟩) J [] R ?_;intro g a5 hm T t;refine .sr (.bi R (.ns (.seq ?_)));refine .cc hm R (fun hm=>?_) fun hm=> .xx ((X _ (t _ (oj hm))).s0 R);refine .sn (.seq (.block (.sr (bS hm fun D N hm=> .ix sl26 N R (.le nag3 lv3 R (.an R (.sv R (.op (O.nc .Q Z R R) R (.fq ygG R (.lq nag26 R (.ln sl26 R (.mv R (.ns (.block (bS hm fun G K hm=>?_)))))))))))))));refine .cutU (z:= .exit 4) (fun y=> .inl y=G) (fun (y:Unit)=>⟨[(33,.i g),(32,.i e.2.2.2.2.1.length),(31,.f qI e.2.2.2.2.1),(6,.i d),(25,.i d),(24,.i e.2.2.2.1.length),(5,.o (lQ 192 (lx192 e) 0)),(2,.q 0 0)],[(0,.bx 97 [lI 0,lN,lN])],1⟩) ?_ fun a0=>?_
   · rintro y rfl;dsimp only at hm;exact .blkE (.blkN (.seqN (.reg (.bi R (.mv R (.nil ((T _ (oj hm)).s0 R)))))))
   refine .cutU (z:= .ret) (fun m=> .inr (m)=G) (fun (m:LI×LI)=>⟨[(4,.i 0),(3,.b false),(2,.q 0 0)],[(0,.bx 97 [lI 2,lH 1,lF qI m.2]),(1,rwI m.1)],2⟩) ?_ fun a1=>?_
   · rintro m rfl;dsimp only at hm;exact .blkR (.blkR (.seqR (.seqR ((Y _ (t _ (oj hm))).s0 R))))
   refine .iter (fun (v:Int)=>⟨[(42,.i v),(41,.i e.2.2.2.2.2.length),(40,.f qI e.2.2.2.2.2),(8,.i D),(33,.i g),(32,.i e.2.2.2.2.1.length),(31,.f qI e.2.2.2.2.1),(6,.i d),(25,.i d),(24,.i e.2.2.2.1.length),(5,.o (lQ 192 (lx192 e) 0)),(2,.q 0 0)],[(0,.bx 97 [lI 0,lN,lN])],1⟩) K [] R ?_;intro v a6 hm U u;refine .sr (.bi R (.ns (.seq ?_)));refine .cc hm R (fun hm=>?_) fun hm=> .xx ((a0 _ (u _ (oj hm))).s0 R);refine .sn (.seq (.block (.sr (bS hm fun H P hm=> .ix sl26 P R (.le nag3 lv3 R (.an R (.sv R (.mv R (.mv R (.mv R (bS hm fun a7 L hm=> .c0 (y8O L) cf129 R (.ns ?_))))))))))));exact .cc hm R (fun hm=> .sv R (.op (O.nc .Q Z R R) R (.fq y7v R (.lg (lx190 e.2.2.1) ag190 R .Q R (.mv R (bS hm fun a3 M hm=> .cm (r':= .h 1) [1] [(0,rwI a3)] (some 2) (y9o M) cf128 R ⟨⟨_,R,I4⟩,trivial⟩ R (.mv R (.mv R (.bf (r:=qI) ([D,H]:LI) bs26 R (.c .k (.c .k .n)) R (.bu [lI 2,lH 1,lF qI ([D,H]:LI)] pl97 R (.st ag97.sz R (.sa R (.an R (.ret (.blkR (.seqR (.seqR ((a1 _ (u _ (oj hm))).s0 R)))))))))))))))))) fun hm=> .skip (.blkN (.seqN (.reg (.bi R (.mv R (.nil ((U _ (oj hm)).s0 R)))))))
def y3e(a:Int)(b:Bool):Option (Int⊕(Unit⊕Unit)):=
 if b then
  some (.inr (.inr (())))
 else
  some (.inl (W (a+1)))
def y3f(c:List CycT)(b:(List CycT)×Int)(a:Int):Option (Int⊕(Unit⊕Unit)):=
 if decide (a<(b.1.length:Int)) then
  (idx b.1 a).bind fun f=>
  (idx c a).bind fun g=>
  (y1S f.1 g.1).bind fun d=>
  if(!d) then
   y3e a true
  else
   (idx b.1 a).bind fun h=>
   (idx c a).bind fun i=>
   (y1S h.2.1 i.2.1).bind fun e=>
   if(!e) then
    y3e a true
   else
    (idx b.1 a).bind fun j=>
    (idx c a).bind fun k=>
    y3e a (j.2.2 != k.2.2)
 else
  some (.inr (.inl ()))
def y3g(p0:PbT)(p1:Int×LI×LI)(c:List CycT):Option Bool:=
 (y2E p0 p1).bind fun a=>
 if((a.2 != 0)||((a.1.length:Int) != (c.length:Int))) then
  some false
 else
  (iter (y3f c a) 0).bind fun e=>
  match e with
  | .inl f=>
   if decide ((a.1.length:Int)>256) then
    some true
   else
    (y5r p0 a.1).bind fun d=>
    (y2m p0 d.1).bind fun b=>
    some ((((d.2==0)&&(b.2.2.2==0))&&b.2.2.1)&&(b.1==(W ((a.1.length:Int)-1))))
  | .inr (g)=>
   some false
def y3h(a:Int×(List CycT))(b:List CycT):Option ((Int×(List CycT))⊕(List CycT)):=
 some (.inl (W (a.1+1),b))
def y3i(p0:PbT)(p1:Int×LI×LI)(a:Int×(List CycT)):Option ((Int×(List CycT))⊕(List CycT)):=
 if decide (a.1<(p1.2.1.length:Int)) then
  (idx p1.2.1 a.1).bind fun c=>
  (y5j p0.2.2 c).bind fun b=>
  if b then
   (slc p1.2.1 a.1 (W (a.1+1))).bind fun d=>
   (app a.2 ([(d,([]:LI),(-1))]:List CycT)).bind fun e=>
   y3h a e
  else
   (idx p1.2.1 a.1).bind fun f=>
   (app a.2 ([(([]:LI),([]:LI),f)]:List CycT)).bind fun g=>
   y3h a g
 else
  some (.inr a.2)
def yR(p0:PbT)(p1:Int×LI×LI):Option Bool:=
 (iter (y3i p0 p1) (0,([]:List CycT))).bind fun a=>
 if(p1.1==1) then
  (app a ([(p1.2.2,([]:LI),(-1))]:List CycT)).bind fun b=>
  y3g p0 p1 b
 else
  (slc p1.2.2 0 1).bind fun c=>
  (idx p1.2.2 1).bind fun d=>
  (app a ([(([]:LI),c,d)]:List CycT)).bind fun e=>
  y3g p0 p1 e
theorem y6Y{p0:PbT}{p1:Int×LI×LI}{r:Bool}(hm:yR p0 p1=some r):
    F0 55 [.a (lx99 p0),.a [lI p1.1,lF qI p1.2.1,lF qI p1.2.2]] [] (.b r) []:=by
  refine Fw.mk2 func55 ntmps55 R (fun C=>?_) R;refine .sr (.bo 0 R (.bo 1 R (.an R (.sr (.an R (.seq (.sr (.an R (.block (bS hm fun y b0 hm=>?_))))))))));refine .cut1 (z:= .exit 0) y (fun (y:(List CycT))=>⟨[(5,.h 0),(3,.q 1 0),(2,.q 2 0)],[(0,ROW rE170 170 y),(1,.bx 97 [lI p1.1,lF qI p1.2.1,lF qI p1.2.2]),(2,.bx 99 (lx99 p0))],3⟩) ?_ fun d0=>?_
  · skip
    refine .blkE (.seqN ?_);refine .join1 (fun (j:List CycT)=>y3g p0 p1 j=some r) (fun j=>⟨[(5,.h 0),(3,.q 1 0),(2,.q 2 0)],[(0,ROW rE170 170 j),(1,.bx 97 [lI p1.1,lF qI p1.2.1,lF qI p1.2.2]),(2,.bx 99 (lx99 p0))],3⟩) ?_ ?_
    · intro j hm;refine .sr (.lg (lx99 p0) ag99 R (.B R) R (.lg [lI p1.1,lF qI p1.2.1,lF qI p1.2.2] ag97 R (.B R) R (bS hm fun e b2 hm=> .cm (r':= .tp [.h 3,.i e.2]) [3] [(0,ROW rE170 170 e.1)] (some 4) (y7x b2) cf52 R ⟨⟨_,R,I4⟩,trivial⟩ R (.mv R (.ex R (.ex R (.sa R (.an R (.seq (.sv R (.bi R (.mv R ?_))))))))))));refine .cut 6 (fun (T:Bool)=>((e.2 != 0)||((e.1.length:Int) != (j.length:Int)))=T) (fun T=>⟨[(84,.b T),(7,.h 3),(5,.h 0),(2,.q 2 0)],[(3,ROW rE170 170 e.1),(0,ROW rE170 170 j),(2,.bx 99 (lx99 p0))],4⟩) ?_ ?_
      · rintro _ rfl;refine .ns ?_;refine .cc hm R (fun hm=>?_) fun hm=>?_
        ·refine .sr (.an R (.ret (.seqR ?_)));cases hm;exact .r0 results55 (.tmp R .nil) R R
        ·refine .sn (.seq (.sr (.an R (.block (bS hm fun a5 b1 hm=>?_)))));refine .cutU (z:= .exit 2) (fun Q=> .inl Q=a5) (fun (Q:Unit)=>⟨[(7,.h 0),(2,.q 1 0)],[(0,ROW rE170 170 e.1),(1,.bx 99 (lx99 p0))],2⟩) ?_ fun d1=>?_
         · rintro Q rfl;dsimp only at hm;refine .blkE (.seqN (.seq (.sv R (.lh sl102 R (.bi R (.ns ?_))))));refine .cc hm R (fun hm=>?_) fun hm=>?_
           ·refine .sr (.an R (.ret (.seqR ?_)));cases hm;exact .r0 results55 (.tmp R .nil) R R
           ·refine .sn (.sr (.lg (lx99 p0) ag99 R (.B R) R (.mv R (.fz 0 [135,7] [] R R fR R R (bS hm fun s b3 hm=> .cm (r':= .tp [.h 2,.i s.2]) [2] [(0,ROW rE174 174 s.1)] (some 3) (y8e b3) cf115 R ⟨⟨_,R,I4⟩,trivial⟩ R (.mv R (.ex R (.ex R (.sa R (.an R (.sr (.lg (lx99 p0) ag99 R (.B R) R (.mv R (bS hm fun g b4 hm=> .op (O.caZ (y6z b4) cf117 R R Z R ⟨⟨R,LnL.rf⟩,⟨R,.hr R,trivial⟩,trivial⟩ (fun _ _ _ _ _ h=>h) R) R (.mv R (.ex R (.ex R (.ex R (.ex R (.sa R (.sa R (.sa R (.an R (.sv R (.bi R (.mv R ?_))))))))))))))))))))))))));refine .cut 3 (fun (U:Bool)=>((s.2==0)&&(g.2.2.2==0))=U) (fun U=>⟨[(152,.b U),(14,.b g.2.2.1),(12,.i g.1),(7,.f rE170 e.1)],[],3⟩) ?_ ?_
            · rintro _ rfl;refine .mv R ?_;refine .cut 2 (fun (V:Bool)=>(((s.2==0)&&(g.2.2.2==0))&&g.2.2.1)=V) (fun V=>⟨[(155,.b V),(12,.i g.1),(7,.f rE170 e.1)],[],3⟩) ?_ ?_
              · rintro _ rfl;refine .mv R ?_;refine .cut 6 (fun (X:Bool)=>((((s.2==0)&&(g.2.2.2==0))&&g.2.2.1)&&(g.1==(W ((e.1.length:Int)-1))))=X) (fun X=>⟨[(162,.b X)],[],3⟩) ?_ ?_
                · rintro _ rfl;refine .an R (.ret ?_);cases hm;exact .r0 results55 (.tmp R .nil) R R
                · intro a4;rcases yEt (((s.2==0)&&(g.2.2.2==0))&&g.2.2.1) with hc|hc
                  · refine .know (d:=156) R hc ?_;exact .mg R (.mg R (.op (O.len sl102 (Gu.mk R R) R R) R (.bg R (.bg R (.pT R ((a4 (g.1==(W ((e.1.length:Int)-1))) (andT hc).symm).s0 R))))))
                  · refine .know (d:=156) R hc ?_;exact .s2 R R (.s2 R R (.sk R (.pF R ((a4 false (andF hc).symm).s0 R))))
              · intro a3;rcases yEt ((s.2==0)&&(g.2.2.2==0)) with hc|hc
                · refine .know (d:=153) R hc ?_;exact .mg R (.pT R ((a3 g.2.2.1 (andT hc).symm).s0 R))
                · refine .know (d:=153) R hc ?_;exact .sk R (.pF R ((a3 false (andF hc).symm).s0 R))
            · intro a2;rcases yEt (s.2==0) with hc|hc
              · refine .know (d:=149) R hc ?_;exact .mg R (.bg R (.pT R ((a2 (g.2.2.2==0) (andT hc).symm).s0 R)))
              · refine .know (d:=149) R hc ?_;exact .s2 R R (.pF R ((a2 false (andF hc).symm).s0 R))
         refine .cutU (z:= .ret) (fun S=> .inr (S)=a5) (fun (S:Unit)=>⟨[(4,.b false)],[],0⟩) ?_ fun d2=>?_
         · rintro S rfl;dsimp only at hm;refine .blkR (.seqR ?_);cases hm;exact .r0 results55 (.tmp R .nil) R R
         refine .iter (fun (o:Int)=>⟨[(9,.i o),(7,.h 0),(5,.h 1),(2,.q 2 0)],[(0,ROW rE170 170 e.1),(1,ROW rE170 170 j),(2,.bx 99 (lx99 p0))],3⟩) b1 [(0,3),(1,0)] R ?_;intro o a0 hm c9 M;refine .seq (.sv R (.mv R (.lh sl102 R (.bi R (.ns ?_)))));refine .cc hm R (fun hm=>?_) fun hm=> .xx ((d1 _ (M _ (oj hm))).sub [(1,2)] R);refine .sn (.seq (.block ?_));refine .join1 (fun (w:Bool)=>y3e o w=some a0) (fun w=>⟨[(129,.b w),(9,.i o),(7,.h 0),(5,.h 1),(2,.q 2 0)],[(0,ROW rE170 170 e.1),(1,ROW rE170 170 j),(2,.bx 99 (lx99 p0))],3⟩) ?_ ?_
         · intro w hm;exact .cc hm R (fun hm=> .sr (.an R (.ret (.blkR (.seqR (.seqR ((d2 _ (M _ (oj hm))).s0 R))))))) fun hm=> .skip (.blkN (.seqN (.reg (.mv R (.bi R (.sa R (.nil ((c9 _ (oj hm)).s0 R))))))))
         · intro t;refine .sub (τ:=⟨[(9,.i o),(7,.h 0),(5,.h 1),(2,.q 2 0)],[(0,ROW rE170 170 e.1),(1,ROW rE170 170 j),(2,.bx 99 (lx99 p0))],3⟩) ?_ [] R;refine bS hm fun d9 G hm=>bS hm fun e0 H hm=>bS hm fun d7 b5 hm=> .drP 12 [(3,[]),(3,[]),(3,[oT,oT]),(3,tT 3),(3,tT 4),(3,[]),(3,[]),(3,[oF,oF,oF,oF,oF,oT,oT]),(3,fA 5 (tT 3)),(3,fA 5 (tT 4)),(3,tT 10),(3,tT 11)] [_,_,_,_,_,_,_,_,_,_,_,_] ⟨zM R,zM R,O.ir sl102 Z R R R G R,O.faR ycH Z R R,O.ld nag26 Z R (.R R G lv170) R R,zM R,zM R,O.ir sl102 Z R R R H R,O.faR ycH Z R R,O.ld nag26 Z R (.R R H lv170) R R,O.ca0 (y6n b5) cf118 R R Z R R R,O.not Z R R,trivial⟩ fun N=>?_;rcases ifS hm with ⟨u,hm⟩|⟨u,hm⟩
           · skip
             exact .drF N [(3,tT 12),(3,tT 13),(3,tT 13),(3,tT 15),(3,tT 16),(3,tT 17),(3,tT 13),(3,tT 13),(3,tA 13 (fA 5 (tT 2))),(3,tA 13 (fA 5 (tT 3))),(3,tA 13 (fA 5 (tT 4))),(3,tT 23),(3,tT 24),(3,tT 25),(3,tT 26),(3,tT 27),(3,tT 27),(3,tT 29),(3,tT 30),(3,tT 31),(3,tT 27),(3,tT 27),(3,tA 27 (fA 5 (tT 2))),(3,tA 27 (fA 5 (tT 3))),(3,tA 27 (fA 5 (tT 4))),(3,tT 37),(3,tT 38)] [_,_,_,_,_,_,_,_,_,_,_,_,_,_,_,_,_,_,_,_,_,_,_,_,_,_,_] ⟨[(129,.b true),(9,.i o),(7,.h 0),(5,.h 1),(2,.q 2 0)],[(0,ROW rE170 170 e.1),(1,ROW rE170 170 j),(2,.bx 99 (lx99 p0))],3⟩ ⟨O.kn (zM R) u,zK R,zK R,zK R,zK R,zK R,zK R,zK R,zK R,zK R,zK R,zK R,zK R,O.pkT Z R R R R,zM R,zK R,zK R,zK R,zK R,zK R,zK R,zK R,zK R,zK R,zK R,zK R,O.pkT Z R R R R,trivial⟩ (by kernel_rfl) R ((t _ hm).s0 R)
           · skip
             refine bS hm fun e1 I hm=>bS hm fun e2 J hm=>bS hm fun d8 b6 hm=> .drX N 26 [(3,tT 12),(3,tT 13),(3,tT 13),(3,tT 15),(3,tT 16),(3,tT 17),(3,tT 13),(3,tT 13),(3,tA 13 (fA 5 (tT 2))),(3,tA 13 (fA 5 (tT 3))),(3,tA 13 (fA 5 (tT 4))),(3,tT 23),(3,tT 24),(3,tT 25)] [_,_,_,_,_,_,_,_,_,_,_,_,_,_] ⟨O.kn (zM R) u,O.mv (Gu.mk R R) R R,O.mv (Gu.mk R R) R R,O.ir sl102 (Gu.mk R R) R R R I R,O.faR ycI (Gu.mk R R) R R,O.ld nag26 (Gu.mk R R) R (.R R I lv170) R R,O.mv (Gu.mk R R) R R,O.mv (Gu.mk R R) R R,O.ir sl102 (Gu.mk R R) R R R J R,O.faR ycI (Gu.mk R R) R R,O.ld nag26 (Gu.mk R R) R (.R R J lv170) R R,O.ca0 (y6n b6) cf118 R R (Gu.mk R R) R R R,O.not (Gu.mk R R) R R,O.pkF Z R R R R,trivial⟩ (by kernel_rfl) fun P=>?_;rcases ifS hm with ⟨v,hm⟩|⟨v,hm⟩
             · skip
               exact .drF P [(3,tT 26),(3,tT 27),(3,tT 27),(3,tT 29),(3,tT 30),(3,tT 31),(3,tT 27),(3,tT 27),(3,tA 27 (fA 5 (tT 2))),(3,tA 27 (fA 5 (tT 3))),(3,tA 27 (fA 5 (tT 4))),(3,tT 37),(3,tT 38)] [_,_,_,_,_,_,_,_,_,_,_,_,_] ⟨[(129,.b true),(9,.i o),(7,.h 0),(5,.h 1),(2,.q 2 0)],[(0,ROW rE170 170 e.1),(1,ROW rE170 170 j),(2,.bx 99 (lx99 p0))],3⟩ ⟨O.kn (zM R) v,zK R,zK R,zK R,zK R,zK R,zK R,zK R,zK R,zK R,zK R,zK R,O.pkT Z R R R R,trivial⟩ (by kernel_rfl) R ((t _ hm).s0 R)
             · skip
               exact bS hm fun d4 K hm=>bS hm fun d5 L hm=> .drF P [(3,tT 26),(3,tT 27),(3,tT 27),(3,tT 29),(3,tT 30),(3,tT 31),(3,tT 27),(3,tT 27),(3,tA 27 (fA 5 (tT 2))),(3,tA 27 (fA 5 (tT 3))),(3,tA 27 (fA 5 (tT 4))),(3,tT 37),(3,tT 38)] [_,_,_,_,_,_,_,_,_,_,_,_,_] ⟨[(129,.b (d4.2.2 != d5.2.2)),(9,.i o),(7,.h 0),(5,.h 1),(2,.q 2 0)],[(0,ROW rE170 170 e.1),(1,ROW rE170 170 j),(2,.bx 99 (lx99 p0))],3⟩ ⟨O.kn (zM R) v,O.mv (Gu.mk R R) R R,O.mv (Gu.mk R R) R R,O.ir sl102 (Gu.mk R R) R R R K R,O.faR y8H (Gu.mk R R) R R,O.ld nag3 (Gu.mk R R) R (.R R K lv170) R R,O.mv (Gu.mk R R) R R,O.mv (Gu.mk R R) R R,O.ir sl102 (Gu.mk R R) R R R L R,O.faR y8H (Gu.mk R R) R R,O.ld nag3 (Gu.mk R R) R (.R R L lv170) R R,O.bi (Gu.mk R R) R R R R,O.pkF Z R R R R,trivial⟩ (by kernel_rfl) R ((t _ hm).s0 R)
      · intro a1;rcases yEt (e.2 != 0) with hc|hc
        · refine .know (d:=78) R hc ?_;exact .s2 R R (.s2 R R (.sk R (.pT R ((a1 true (orT hc).symm).s0 R))))
        · refine .know (d:=78) R hc ?_;exact .mg R (.op (O.lenH sl102 (Gu.mk R R) R R R) R (.mg R (.op (O.lenH sl102 (Gu.mk R R) R R R) R (.bg R (.pF R ((a1 ((e.1.length:Int) != (j.length:Int)) (orF hc).symm).s0 R))))))
    · intro D;refine .sr (.fa yaw R (.lb nag3 R (.bi R (.ns ?_))));refine .cc hm R (fun hm=> .reg (.mv R (.fa y6J R (.lb nag26 R (.bu [lF qI p1.2.2,lN,lI (-1)] pl170 R (.op (O.bsF (r:=rE170) (zs:=([(p1.2.2,([]:LI),(-1))]:List CycT)) bs102 R R Z R R R (.c (.p .l (.p .n .k)) .n) R R R) R (bS hm fun e3 b8 hm=> .ap 3 underlying102 el170 R R (.fr R) b8 (.sa R (.nil ((D _ hm).sub [(0,3)] R)))))))))) fun hm=>?_;refine .sub (τ:=⟨[(5,.h 0),(3,.q 1 0),(2,.q 2 0)],[(0,ROW rE170 170 y),(1,.bx 97 [lI p1.1,lF qI p1.2.1,lF qI p1.2.2]),(2,.bx 99 (lx99 p0))],3⟩) ?_ [] R;refine bS hm fun a6 b9 hm=>bS hm fun a7 c0 hm=>bS hm fun d6 c1 hm=>?_;refine .drg 4 [(3,[]),(3,[]),(3,[oF,oT]),(3,[oF,oT,oT]),(3,[]),(3,[oF,oF,oF,oF,oT]),(3,[oF,oF,oF,oF,oT,oT]),(3,fA 4 (tT 3)),(3,fA 1 (tT 7)),(3,fA 1 (tT 8)),(3,tT 10),(4,tT 11)] [_,_,_,_,_,_,_,_,_,_,_,_] ⟨[(5,.h 3),(3,.q 1 0),(2,.q 2 0)],[(3,ROW rE170 170 d6),(1,.bx 97 [lI p1.1,lF qI p1.2.1,lF qI p1.2.2]),(2,.bx 99 (lx99 p0))],4⟩ ⟨zM R,O.faP y6J Z R R,zB nag26 R,O.sh sl26 Z R R b9 R,O.faP y6J Z R R,zB nag26 R,O.ix sl26 Z R R c0 R,O.ld nag3 Z R (.E lv3) R R,O.bu (l:=[lN,lF qI a6,lI a7]) pl170 R Z R R R,O.bsF (r:=rE170) (zs:=([(([]:LI),a6,a7)]:List CycT)) bs102 R R Z R R R (.c (.p .n (.p .l .k)) .n) R R R,O.ap 3 underlying102 el170 R R Z R R (.fr R) c1 R,O.as Z R R,trivial⟩ (by kernel_rfl) R ?_;exact(D _ hm).sub [(0,3)] R
  refine .nlg rE170 170 5 0 R R (.iter (fun (m:Int×(List CycT))=>⟨[(6,.i m.1),(5,.h 0),(3,.q 1 0),(2,.q 2 0)],[(0,ROW rE170 170 m.2),(1,.bx 97 [lI p1.1,lF qI p1.2.1,lF qI p1.2.2]),(2,.bx 99 (lx99 p0))],3⟩) b0 [(0,2),(2,0)] R ?_);intro m Y hm c8 c7;refine .seq (.sv R (.fa y9N R (.lb nag26 R (.ln sl26 R (.bi R (.ns ?_))))));refine .cc hm R (fun hm=>?_) fun hm=> .xx ((d0 _ (c7 _ (oj hm))).s0 R);refine .sn ?_;refine .join1 (fun (x:List CycT)=>y3h m x=some Y) (fun x=>⟨[(5,.h 0),(6,.i m.1),(3,.q 1 0),(2,.q 2 0)],[(0,ROW rE170 170 x),(1,.bx 97 [lI p1.1,lF qI p1.2.1,lF qI p1.2.2]),(2,.bx 99 (lx99 p0))],3⟩) ?_ ?_
  · intro x hm;exact .reg (.mv R (.bi R (.sa R (.nil ((c8 _ (oj hm)).s0 R)))))
  · intro F;refine .block (.seq ?_);refine .sub (τ:=⟨[(6,.i m.1),(5,.h 0),(3,.q 1 0),(2,.q 2 0)],[(0,ROW rE170 170 m.2),(1,.bx 97 [lI p1.1,lF qI p1.2.1,lF qI p1.2.2]),(2,.bx 99 (lx99 p0))],3⟩) ?_ [] R;refine bS hm fun e4 c2 hm=>bS hm fun d3 b7 hm=>?_;refine .drw [(3,[]),(3,[oT]),(3,[]),(3,[oF,oF,oT]),(3,[]),(3,fA 2 (tT 3)),(3,fA 2 (tT 4)),(3,tT 7)] [_,_,_,_,_,_,_,_] ⟨[(30,.b d3),(6,.i m.1),(5,.h 0),(3,.q 1 0),(2,.q 2 0)],[(0,ROW rE170 170 m.2),(1,.bx 97 [lI p1.1,lF qI p1.2.1,lF qI p1.2.2]),(2,.bx 99 (lx99 p0))],3⟩ ⟨O.faP y9M Z R R,zB nag26 R,O.faP y9N Z R R,zB nag26 R,zM R,O.ix sl26 Z R R c2 R,O.ld nag3 Z R (.E lv3) R R,O.ca0 (y8M b7) cf130 R R Z R R R,trivial⟩ (by kernel_rfl) R ?_;exact .seqN (.cc hm R (fun hm=> .reg (.mv R (.fa y9N R (.lb nag26 R (.mv R (.mv R (.bi R (bS hm fun a8 c3 hm=> .op (O.sl sl26 Z R R R c3 R) R (.bu [lF qI a8,lN,lI (-1)] pl170 R (.op (O.bsF (r:=rE170) (zs:=([(a8,([]:LI),(-1))]:List CycT)) bs102 R R Z R R R (.c (.p .l (.p .n .k)) .n) R R R) R (bS hm fun e5 c4 hm=> .ap 3 underlying102 el170 R R (.fr R) c4 (.sa R (.nil (.blkN ((F _ hm).sub [(0,3)] R))))))))))))))) fun hm=> .reg (.mv R (.fa y9N R (.lb nag26 R (.mv R (bS hm fun a9 c5 hm=> .ix sl26 c5 R (.le nag3 lv3 R (.bu [lN,lN,lI a9] pl170 R (.op (O.bsF (r:=rE170) (zs:=([(([]:LI),([]:LI),a9)]:List CycT)) bs102 R R Z R R R (.c (.p .n (.p .n .k)) .n) R R R) R (bS hm fun e6 c6 hm=> .ap 3 underlying102 el170 R R (.fr R) c6 (.sa R (.nil (.blkN ((F _ hm).sub [(0,3)] R))))))))))))))
def yM(p2:Int×LI×LI)(e:PbT)(a:(List CycT)×Int)(b:Int):Option Bool:=
 if(b != 0) then
  some (((a.1.length:Int)==0)&&(a.2==b))
 else
  (if (a.2==0) then
   (yR e p2).bind fun d=>
   some d
  else
   some false).bind fun c=>
  some c
def yN(p2:Int×LI×LI)(a:PbT)(i:Int):Option Bool:=
 (y8B a i).bind fun b=>
 (y8C a).bind fun c=>
 (if ((b.2.2 != 0)||(c.2.2 != 0)) then
  some true
 else
  (if (!b.2.1) then
   (yR a b.1).bind fun l=>
   some (!l)
  else
   some false).bind fun h=>
  some h).bind fun e=>
 (if e then
  some true
 else
  (if (!c.2.1) then
   (yR a c.1).bind fun k=>
   some (!k)
  else
   some false).bind fun g=>
  some g).bind fun f=>
 if f then
  some false
 else
  (y2E a p2).bind fun d=>
  (y3Z a ([]:LI) p2).bind fun j=>
  if((p2.1 != 1)&&(p2.1 != 2)) then
   yM p2 a d 11
  else
   yM p2 a d j
def y3T(p0:((Int×y1h)×(Int×y1h)×Int)×Bool)(p1:Bool)(p2:Int×LI×LI):Option Bool:=
 (y5R).bind fun d=>
 if(((!d)||(decide ((p2.2.1.length:Int)>6)))||(decide ((p2.2.2.length:Int)>4))) then
  (y5R).bind fun e=>
  some e
 else
  (y4u p0).bind fun a=>
  (y2S a).bind fun b=>
  if(b != 0) then
   (y2E a p2).bind fun c=>
   some (((c.1.length:Int)==0)&&(c.2==b))
  else
   if p1 then
    yN p2 a 3
   else
    yN p2 a 2
theorem y8p{p0:((Int×y1h)×(Int×y1h)×Int)×Bool}{p1:Bool}{p2:Int×LI×LI}{r:Bool}(hm:y3T p0 p1 p2=some r):
    F0 10 [.a (lx95 p0),.b p1,.a [lI p2.1,lF qI p2.2.1,lF qI p2.2.2]] [] (.b r) []:=by
  refine Fw.mk2 func10 ntmps10 R (fun C=>?_) R;refine .sr (.bo 0 R (.bo 1 R (.an R (.seq (.sr (bS hm fun G a5 hm=> .c0 (y8r a5) cf49 R (.no R (.mv R ?_))))))));refine .cut 5 (fun (v2:Bool)=>((!G)||(decide ((p2.2.1.length:Int)>6)))=v2) (fun v2=>⟨[(28,.b v2),(5,.q 1 0),(3,.q 0 0),(1,.b p1)],[(1,.bx 97 [lI p2.1,lF qI p2.2.1,lF qI p2.2.2]),(0,.bx 95 (lx95 p0))],2⟩) ?_ ?_
  · rintro _ rfl;refine .mv R ?_;refine .cut 5 (fun (v4:Bool)=>(((!G)||(decide ((p2.2.1.length:Int)>6)))||(decide ((p2.2.2.length:Int)>4)))=v4) (fun v4=>⟨[(34,.b v4),(5,.q 1 0),(3,.q 0 0),(1,.b p1)],[(1,.bx 97 [lI p2.1,lF qI p2.2.1,lF qI p2.2.2]),(0,.bx 95 (lx95 p0))],2⟩) ?_ ?_
    · rintro _ rfl;refine .ns ?_;refine .cc hm R (fun hm=>?_) fun hm=>?_
      ·refine .sr (bS hm fun r6 a6 hm=> .c0 (y8r a6) cf49 R (.an R (.ret (.seqR ?_))));cases hm;exact .r0 results10 (.tmp R .nil) R R
      ·refine .sn (.sr (.lg (lx95 p0) ag95 R (.B R) R (bS hm fun e a7 hm=> .cm (r':= .g [lF qI e.1.1,lI e.1.2.1,lF qI e.1.2.2.1,lF qT e.1.2.2.2,lH 2,lI e.2.1.2.1,lH 3,lH 4,lH 5]) [2,3,4,5] [(0,rwI e.2.1.1),(1,rwI e.2.1.2.2.1),(2,ROW qT 112 e.2.1.2.2.2),(3,rwI e.2.2)] (some 6) (y9W a7) cf50 R ⟨⟨_,R,I4⟩,⟨_,R,I4⟩,⟨_,R,I4⟩,⟨_,R,I4⟩,trivial⟩ R (.al 6 zz99 R (.st ag99.sz R (.ns (.seq (.sr (.lg [lF qI e.1.1,lI e.1.2.1,lF qI e.1.2.2.1,lF qT e.1.2.2.2,lH 2,lI e.2.1.2.1,lH 3,lH 4,lH 5] ag99 R (.B R) R (bS hm fun r8 a8 hm=> .op (O.caZ (yaM a8) cf51 R R Z R ⟨⟨R,.rf,.rf,.rf,.rf,.hr R,.rf,.hr R,.hr R,.hr R,trivial⟩,trivial⟩ (fun _ _ _ _ _ h=>h) R) R (.an R (.sv R (.bi R (.ns ?_))))))))))))));refine .cc hm R (fun hm=>?_) fun hm=>?_
       ·refine .sr (.lg [lF qI e.1.1,lI e.1.2.1,lF qI e.1.2.2.1,lF qT e.1.2.2.2,lH 2,lI e.2.1.2.1,lH 3,lH 4,lH 5] ag99 R (.B R) R (.lg [lI p2.1,lF qI p2.2.1,lF qI p2.2.2] ag97 R (.B R) R (.fz 2 [43] [6] R R fR R R (.fz 3 [43] [6] R R fR R R (.fz 4 [43] [6] R R fR R R (.fz 5 [43] [6] R R fR R R (bS hm fun p a9 hm=> .cm (r':= .tp [.h 7,.i p.2]) [7] [(0,ROW rE170 170 p.1)] (some 8) (y7x a9) cf52 R ⟨⟨_,R,I4⟩,trivial⟩ R (.mv R (.ex R (.ex R (.sa R (.an R (.sv R (.lh sl102 R (.bi R (.mv R ?_))))))))))))))));refine .cut 4 (fun (u:Bool)=>(((p.1.length:Int)==0)&&(p.2==r8))=u) (fun u=>⟨[(55,.b u)],[],8⟩) ?_ ?_
        · rintro _ rfl;refine .an R (.ret (.seqR ?_));cases hm;exact .r0 results10 (.tmp R .nil) R R
        · intro H;rcases yEt ((p.1.length:Int)==0) with hc|hc
          · refine .know (d:=51) R hc ?_;exact .mg R (.mg R (.bg R (.pT R ((H (p.2==r8) (andT hc).symm).s0 R))))
          · refine .know (d:=51) R hc ?_;exact .s2 R R (.sk R (.pF R ((H false (andF hc).symm).s0 R)))
       ·refine .sn (.sr (.an R ?_));refine .join1 (fun (o:Int)=>yN p2 e o=some r) (fun o=>⟨[(11,.i o),(7,.q 0 0),(5,.q 5 0)],[(0,.bx 99 [lF qI e.1.1,lI e.1.2.1,lF qI e.1.2.2.1,lF qT e.1.2.2.2,lH 1,lI e.2.1.2.1,lH 2,lH 3,lH 4]),(1,rwI e.2.1.1),(2,rwI e.2.1.2.2.1),(3,ROW qT 112 e.2.1.2.2.2),(4,rwI e.2.2),(5,.bx 97 [lI p2.1,lF qI p2.2.1,lF qI p2.2.2])],6⟩) ?_ ?_
        · intro o hm;refine .sr (.lg [lF qI e.1.1,lI e.1.2.1,lF qI e.1.2.2.1,lF qT e.1.2.2.2,lH 1,lI e.2.1.2.1,lH 2,lH 3,lH 4] ag99 R (.B R) R (.mv R (.fz 1 [58] [0] R R fR R R (.fz 2 [58] [0] R R fR R R (.fz 3 [58] [0] R R fR R R (.fz 4 [58] [0] R R fR R R (bS hm fun j U hm=> .cm (r':= .tp [.a [lI j.1.1,lH 6,lF qI j.1.2.2],.b j.2.1,.i j.2.2]) [6] [(0,rwI j.1.2.1)] (some 7) (ydK U) cf53 R ⟨⟨_,R,I4⟩,trivial⟩ R (.mv R (.ex R (.ex R (.ex R (.al 7 zz97 R (.st ag97.sz R (.sa R (.an R (.sr (.lg (lx99 e) ag99 R (.B R) R (bS hm fun f V hm=> .cm (r':= .tp [.a [lI f.1.1,lH 8,lF qI f.1.2.2],.b f.2.1,.i f.2.2]) [8] [(0,rwI f.1.2.1)] (some 9) (ydL V) cf54 R ⟨⟨_,R,I4⟩,trivial⟩ R (.mv R (.ex R (.ex R (.ex R (.al 9 zz97 R (.st ag97.sz R (.sa R (.an R (.seq (.sv R (.bi R ?_)))))))))))))))))))))))))))));refine .mv R ?_;refine .cut 3 (fun (v:Bool)=>((j.2.2 != 0)||(f.2.2 != 0))=v) (fun v=>⟨[(75,.b v),(16,.b f.2.1),(15,.q 9 0),(13,.b j.2.1),(12,.q 7 0),(7,.q 0 0),(5,.q 5 0)],[(9,.bx 97 [lI f.1.1,lH 8,lF qI f.1.2.2]),(8,rwI f.1.2.1),(7,.bx 97 [lI j.1.1,lH 6,lF qI j.1.2.2]),(6,rwI j.1.2.1),(0,.bx 99 (lx99 e)),(5,.bx 97 [lI p2.1,lF qI p2.2.1,lF qI p2.2.2])],10⟩) ?_ ?_
          · rintro _ rfl;refine .mv R (bS hm fun a2 eb18 hm=>?_);refine .cut 9 (fun (w:Bool)=>a2=w) (fun w=>⟨[(85,.b w),(16,.b f.2.1),(15,.q 9 0),(7,.q 0 0),(5,.q 5 0)],[(9,.bx 97 [lI f.1.1,lH 8,lF qI f.1.2.2]),(8,rwI f.1.2.1),(0,.bx 99 (lx99 e)),(5,.bx 97 [lI p2.1,lF qI p2.2.1,lF qI p2.2.2])],10⟩) ?_ ?_
            · rintro _ rfl;refine .mv R (bS hm fun a3 eb21 hm=>?_);refine .cut 9 (fun (x:Bool)=>a3=x) (fun x=>⟨[(95,.b x),(7,.q 0 0),(5,.q 5 0)],[(0,.bx 99 (lx99 e)),(5,.bx 97 [lI p2.1,lF qI p2.2.1,lF qI p2.2.2])],10⟩) ?_ ?_
              · rintro _ rfl;refine .ns ?_;refine .cc hm R (fun hm=>?_) fun hm=>?_
                ·refine .sr (.an R (.ret (.seqR ?_)));cases hm;exact .r0 results10 (.tmp R .nil) R R
                ·refine .sn (.sr (.lg (lx99 e) ag99 R (.B R) R (.lg [lI p2.1,lF qI p2.2.1,lF qI p2.2.2] ag97 R (.B R) R (bS hm fun k W hm=> .cm (r':= .tp [.h 10,.i k.2]) [10] [(0,ROW rE170 170 k.1)] (some 11) (y7x W) cf52 R ⟨⟨_,R,I4⟩,trivial⟩ R (.mv R (.ex R (.ex R (.sa R (.an R (.sr (.lg (lx99 e) ag99 R (.B R) R (.lg [lI p2.1,lF qI p2.2.1,lF qI p2.2.2] ag97 R (.B R) R (bS hm fun b0 X hm=> .op (O.ca0c (yaP X) cf56 R R Z R ⟨⟨R,.rf⟩,⟨R,(.c (.nf (r:=qI)) .n)⟩,⟨R,.rf⟩,trivial⟩ R R) R (.an R ?_))))))))))))));refine .join1 (fun (m:Int)=>yM p2 e k m=some r) (fun m=>⟨[(20,.i m),(19,.i k.2),(18,.h 0),(7,.q 1 0),(5,.q 2 0)],[(0,ROW rE170 170 k.1),(1,.bx 99 (lx99 e)),(2,.bx 97 [lI p2.1,lF qI p2.2.1,lF qI p2.2.2])],3⟩) ?_ ?_
                 · intro m hm;refine .seq (.sv R (.bi R (.ns ?_)));refine .cc hm R (fun hm=>?_) fun hm=>?_
                   ·refine .sv R (.lh sl102 R (.bi R (.mv R ?_)));refine .cut 4 (fun (y:Bool)=>(((k.1.length:Int)==0)&&(k.2==m))=y) (fun y=>⟨[(122,.b y)],[],3⟩) ?_ ?_
                    · rintro _ rfl;refine .an R (.ret (.seqR ?_));cases hm;exact .r0 results10 (.tmp R .nil) R R
                    · intro L;rcases yEt ((k.1.length:Int)==0) with hc|hc
                      · refine .know (d:=118) R hc ?_;exact .mg R (.mg R (.bg R (.pT R ((L (k.2==m) (andT hc).symm).s0 R))))
                      · refine .know (d:=118) R hc ?_;exact .s2 R R (.sk R (.pF R ((L false (andF hc).symm).s0 R)))
                   ·refine .sn (.sv R (.bi R (.mv R (bS hm fun a4 eb30 hm=>?_))));refine .cut 4 (fun (z:Bool)=>a4=z) (fun z=>⟨[(129,.b z)],[],3⟩) ?_ ?_
                    · rintro _ rfl;refine .an R (.ret ?_);cases hm;exact .r0 results10 (.tmp R .nil) R R
                    · intro M;rcases ifS eb30 with ⟨hc,hm⟩|⟨hc,hm⟩
                      · refine .know (d:=125) R hc ?_;exact .op (O.lg (l':=(lx99 e)) ag99 (Gu.mk R R) R (.B R) R R R) R (.op (O.lg (l':=[lI p2.1,lF qI p2.2.1,lF qI p2.2.2]) ag97 (Gu.mk R R) R (.B R) R R R) R (bS hm fun b1 Y hm=> .op (O.ca0 (y6Y Y) cf55 R R (Gu.mk R R) R R R) R (.pT R ((M b1 (oj hm)).s0 R))))
                      · refine .know (d:=125) R hc ?_;exact .s2 R R (.sk R (.pF R ((M false (oj hm)).s0 R)))
                 · intro t;refine .sr (.fa yaw R (.lb nag3 R (.bi R (.mv R ?_))));refine .cut 4 (fun (D:Bool)=>((p2.1 != 1)&&(p2.1 != 2))=D) (fun D=>⟨[(112,.b D),(20,.i b0),(19,.i k.2),(18,.h 10),(7,.q 0 0),(5,.q 5 0)],[(10,ROW rE170 170 k.1),(0,.bx 99 (lx99 e)),(5,.bx 97 [lI p2.1,lF qI p2.2.1,lF qI p2.2.2])],11⟩) ?_ ?_
                   · rintro _ rfl;exact .ns (.cc hm R (fun hm=> .reg (.sa R (.nil ((t _ hm).sub [(0,10),(1,0),(2,5)] R)))) fun hm=> .skip ((t _ hm).sub [(0,10),(1,0),(2,5)] R))
                   · intro N;rcases yEt (p2.1 != 1) with hc|hc
                     · refine .know (d:=108) R hc ?_;exact .fag yaw R (.lbg nag3 R (.bg R (.pT R ((N (p2.1 != 2) (andT hc).symm).s0 R))))
                     · refine .know (d:=108) R hc ?_;exact .s2 R R (.sk R (.pF R ((N false (andF hc).symm).s0 R)))
              · intro K;rcases ifS eb21 with ⟨hc,hm⟩|⟨hc,hm⟩
                · refine .know (d:=86) R hc ?_;exact .s2 R R (.sk R (.su R (.su R (.su R (.su R (.sk R (.pT R ((K true (oj hm)).s0 R))))))))
                · refine .know (d:=86) R hc ?_;refine .mg R (.op (O.not (Gu.mk R R) R R) R (.mg R (bS hm fun S eb36 hm=>?_)));refine .cut 5 (fun (E:Bool)=>S=E) (fun E=>⟨[(94,.b E),(86,.b false),(7,.q 0 0),(5,.q 5 0)],[(0,.bx 99 (lx99 e)),(5,.bx 97 [lI p2.1,lF qI p2.2.1,lF qI p2.2.2])],10⟩) ?_ ?_
                  · rintro _ rfl;exact .pF R ((K S (oj hm)).s0 R)
                  · intro P;rcases ifS eb36 with ⟨hc,hm⟩|⟨hc,hm⟩
                    · refine .know (d:=89) R hc ?_;exact .op (O.lg (l':=(lx99 e)) ag99 (Gu.mk R R) R (.B R) R R R) R (.op (O.lg (l':=[lI f.1.1,lH 8,lF qI f.1.2.2]) ag97 (Gu.mk R R) R (.B R) R R R) R (bS hm fun b2 a0 hm=> .op (O.caZ (y6Y a0) cf55 R R (Gu.mk R R) R ⟨⟨R,LnL.rf⟩,⟨R,.rf,.hr R,.rf,trivial⟩,trivial⟩ (fun _ _ _ _ _ h=>h) R) R (.op (O.not (Gu.mk R R) R R) R (.op (O.pkT (Gu.mk R R) R R R R) R ((P (!b2) (oj hm)).s0 R)))))
                    · refine .know (d:=89) R hc ?_;exact .s2 R R (.s2 R R (.op (O.pkF (Gu.mk R R) R R R R) R ((P false (oj hm)).s0 R)))
            · intro J;rcases ifS eb18 with ⟨hc,hm⟩|⟨hc,hm⟩
              · refine .know (d:=76) R hc ?_;exact .s2 R R (.sk R (.su R (.su R (.su R (.su R (.sk R (.pT R ((J true (oj hm)).s0 R))))))))
              · refine .know (d:=76) R hc ?_;refine .mg R (.op (O.not (Gu.mk R R) R R) R (.mg R (bS hm fun T eb40 hm=>?_)));refine .cut 5 (fun (F:Bool)=>T=F) (fun F=>⟨[(84,.b F),(76,.b false),(16,.b f.2.1),(15,.q 9 0),(7,.q 0 0),(5,.q 5 0)],[(9,.bx 97 [lI f.1.1,lH 8,lF qI f.1.2.2]),(8,rwI f.1.2.1),(0,.bx 99 (lx99 e)),(5,.bx 97 [lI p2.1,lF qI p2.2.1,lF qI p2.2.2])],10⟩) ?_ ?_
                · rintro _ rfl;exact .pF R ((J T (oj hm)).s0 R)
                · intro Q;rcases ifS eb40 with ⟨hc,hm⟩|⟨hc,hm⟩
                  · refine .know (d:=79) R hc ?_;exact .op (O.lg (l':=(lx99 e)) ag99 (Gu.mk R R) R (.B R) R R R) R (.op (O.lg (l':=[lI j.1.1,lH 6,lF qI j.1.2.2]) ag97 (Gu.mk R R) R (.B R) R R R) R (bS hm fun b3 a1 hm=> .op (O.caZ (y6Y a1) cf55 R R (Gu.mk R R) R ⟨⟨R,LnL.rf⟩,⟨R,.rf,.hr R,.rf,trivial⟩,trivial⟩ (fun _ _ _ _ _ h=>h) R) R (.op (O.not (Gu.mk R R) R R) R (.op (O.pkT (Gu.mk R R) R R R R) R ((Q (!b3) (oj hm)).s0 R)))))
                  · refine .know (d:=79) R hc ?_;exact .s2 R R (.s2 R R (.op (O.pkF (Gu.mk R R) R R R R) R ((Q false (oj hm)).s0 R)))
          · intro I;rcases yEt (j.2.2 != 0) with hc|hc
            · refine .know (d:=72) R hc ?_;exact .s2 R R (.pT R ((I true (orT hc).symm).s0 R))
            · refine .know (d:=72) R hc ?_;exact .mg R (.bg R (.pF R ((I (f.2.2 != 0) (orF hc).symm).s0 R)))
        · intro s;refine .sv R (.ns ?_);exact .cc hm R (fun hm=> .reg (.sa R (.nil ((s _ hm).sub [(0,6),(1,2),(2,3),(3,4),(4,5),(5,1)] R)))) fun hm=> .skip ((s _ hm).sub [(0,6),(1,2),(2,3),(3,4),(4,5),(5,1)] R)
    · intro J5;rcases yEt ((!G)||(decide ((p2.2.1.length:Int)>6))) with hc|hc
      · refine .know (d:=29) R hc ?_;exact .s2 R R (.s2 R R (.pT R ((J5 true (orT hc).symm).s0 R)))
      · refine .know (d:=29) R hc ?_;exact .fag y6J R (.lbg nag26 R (.op (O.len sl26 (Gu.mk R R) R R) R (.bg R (.pF R ((J5 (decide ((p2.2.2.length:Int)>4)) (orF hc).symm).s0 R)))))
  · intro J3;rcases yEt (!G) with hc|hc
    · refine .know (d:=23) R hc ?_;exact .s2 R R (.s2 R R (.pT R ((J3 true (orT hc).symm).s0 R)))
    · refine .know (d:=23) R hc ?_;exact .fag y9N R (.lbg nag26 R (.op (O.len sl26 (Gu.mk R R) R R) R (.bg R (.pF R ((J3 (decide ((p2.2.1.length:Int)>6)) (orF hc).symm).s0 R)))))
end
end
section
open Tryz Go.RowKit Go.Shelf
structure St where
 s:Int
 p:Int
 e:Int
def St.cells(x:St):List Value:=[.int .i64 x.s,.int .i64 x.p,.int .i64 x.e]
abbrev ykm(l:List St):List Value:=l.flatMap St.cells
structure PInv (w:World) (G:Array Value) (FP:Value) (n:Nat) (ds:List Deferred) (wr:World) (tag:Nat→Nat) (bi i:Nat) (vs:Value) (seen:List Bool) (steps:List St):Prop where
 below:Below w.heap.size w wr
 marks:Marks w.heap.size wr ds
 g:Own wr w.heap.size tag 0 w.heap.size G 315
 fp:Own wr w.heap.size tag 0 (w.heap.size+1) #[FP] 295
 sb:Own wr w.heap.size tag 3 (w.heap.size+1+1+1) #[vs] 351
 st:Row wr w.heap.size tag 2 350 3 vs steps.length (ykm steps)
 eb:Own wr w.heap.size tag 0 (w.heap.size+1+1+1+1+1) #[.slice (some ⟨w.heap.size+1+1+1+1,0,none⟩) n n] 177
 se:Row wr w.heap.size tag 1 4 1 (.slice (some ⟨w.heap.size+1+1+1+1,0,none⟩) n n) n (bools seen)
 ib:Own wr w.heap.size tag 4 bi #[.int .i64 i] 3
section
variable{w:World}{G:Array Value}{FP:Value}{n:Nat}{ds:List Deferred}{wr wr':World}{tag tag':Nat→Nat}{bi i:Nat}{vs:Value}{seen:List Bool}{steps:List St}
theorem PInv.size(h:PInv w G FP n ds wr tag bi i vs seen steps):w.heap.size+1+1+1+1+1<wr.heap.size:=h.eb.lt
theorem PInv.turn{k:Nat}(h:PInv w G FP n ds wr tag bi i vs seen steps)(ht:Turn w.heap.size tag tag' k wr wr')(hk:4<k):PInv w G FP n ds wr' tag' bi i vs seen steps:=
 ⟨ygg h.below ht h.below.size,h.marks.turn ht,h.g.turn ht (by omega),h.fp.turn ht (by omega),h.sb.turn ht (by omega),h.st.turn ht (by omega),h.eb.turn ht (by omega),h.se.turn ht (by omega),h.ib.turn ht (by omega)⟩
end
end
section
open Tryz
def wval(u:LI):Int:=u.foldl (fun acc e=>33*acc+e+1) 0
theorem yaQ(u:LI)(e:Int):wval (u++[e])=33*wval u+e+1:=by simp [wval,List.foldl_append]
def Evs(u:LI):Prop:=∀e∈u,0≤e∧e<32
theorem Evs.nil :Evs []:=fun e h=>by cases h
theorem Evs.snoc{u:LI}{e:Int}(h:Evs u)(h0:0≤e)(h1:e<32):Evs (u++[e]):=by
 intro x hx;rcases yMa.1 hx with h2|h2
 ·exact h x h2
 ·rw [yMs.1 h2];exact⟨h0,h1⟩
theorem Evs.of_snoc{u:LI}{e:Int}(h:Evs (u++[e])):Evs u∧0≤e∧e<32:=
 ⟨fun x hx=>h x (yMl _ hx),h e (by simp)⟩
theorem yfB{α:Type}{P:List α→Prop}(h0:P [])(h1:∀u e,P u→P (u++[e]))(u:List α):P u:=by
 have h2:∀n (u:List α),u.length=n→P u:=by
  intro n
  induction n with
  | zero=>intro u hu;rw [yLz hu];exact h0
  | succ n ih=>
   intro u hu;rcases List.eq_nil_or_concat u with rfl|⟨l,b,rfl⟩
   ·cases hu
   ·have hl:l.length=n:=by simpa using hu
    simpa using h1 l b (ih l hl)
 exact h2 _ u rfl
theorem yg0(u:LI):Evs u→0≤wval u:=by
 refine yfB (P:=fun u=>Evs u→0≤wval u) (fun _=>Int.le_refl 0) (fun u e ih h=>?_) u;have h1:=h.of_snoc;have:=ih h1.1;rw [yaQ];omega
def Leads(es:List Ed)(perm:Ed→Bool)(s:Int):LI→Int→Prop
 | [],t=>s=t
 | e::u,t=>∃x∈es,x.f=s∧x.e=e∧perm x=true∧Leads es perm x.t u t
theorem Leads.snoc{es:List Ed}{perm:Ed→Bool}:∀{u:LI} {s t:Int},Leads es perm s u t→∀{x:Ed},x∈es→x.f=t→perm x=true→Leads es perm s (u++[x.e]) x.t
 | [],s,t,h,x,hx,hf,hp=>⟨x,hx,by rw [hf];exact h.symm,rfl,hp,rfl⟩
 | e::u,s,t,⟨y,hy,h1,h2,h3,h4⟩,x,hx,hf,hp=>⟨y,hy,h1,h2,h3,h4.snoc hx hf hp⟩
theorem Leads.of_snoc{es:List Ed}{perm:Ed→Bool}{e:Int}:∀{u:LI} {s t:Int},Leads es perm s (u++[e]) t→∃x∈es,Leads es perm s u x.f∧x.e=e∧x.t=t∧perm x=true
 | [],s,t,⟨y,hy,h1,h2,h3,h4⟩=>⟨y,hy,h1.symm,h2,h4,h3⟩
 | a::u,s,t,⟨y,hy,h1,h2,h3,h4⟩=>by
  obtain⟨x,hx,g1,g2,g3,g4⟩:=Leads.of_snoc (u:=u) h4;exact⟨x,hx,⟨y,hy,h1,h2,h3,g1⟩,g2,g3,g4⟩
def EvEs(es:List Ed):Prop:=∀x∈es,0≤x.e∧x.e<32
structure Found (es:List Ed) (perm:Ed→Bool) (s:Int) (L:List (LI×Int)) (b:Int):Prop where
 lead:∀r∈L,Leads es perm s r.1 r.2
 sorted:∀j k:Nat,j<k→∀r r':LI×Int,L[j]? =some r→L[k]? =some r'→wval r.1<wval r'.1
 bd:∀r∈L,wval r.1≤b
section
variable{es:List Ed}{perm:Ed→Bool}{s:Int}{L:List (LI×Int)}{b:Int}{m i:Nat}
theorem Found.mono(h:Found es perm s L b){j k:Nat}(hjk:j≤k){r r':LI×Int}(hj:L[j]? =some r)(hk:L[k]? =some r'):wval r.1≤wval r'.1:=by
 by_cases e:j=k
 ·subst e;rw [hj] at hk;cases hk;exact Int.le_refl _
 ·exact Int.le_of_lt (h.sorted j k (by omega) r r' hj hk)
end
def edLt(x y:Ed):Prop:=x.f<y.f∨(x.f=y.f∧x.e<y.e)
def ydM(es:List Ed):Prop:=es.Pairwise edLt
def y9G(es:List Ed)(tg:LI):Nat→Int→Prop
 | 0,s=>s∈tg
 | k+1,s=>∃x∈es,x.f=s∧y9G es tg k x.t
end
section
open Tryz Go Go.RowKit
variable{α:Type}{xs:LI}{i:Nat}{out us vs:LI}{β:Type}{v:β}{B:Nat}
theorem W_of{x:Int}(h0: -9223372036854775808≤x)(h1:x<9223372036854775808):W x=x:=IntWalk.i64_in _ (by omega)
theorem W_nat{k:Nat}(h:k<9223372036854775808):W (k:Int)=k:=W_of (by omega) (by omega)
theorem yb{xs:List α}(h:i<xs.length):idx xs (i:Int)=some xs[i]:=by rw [y7O,yGe h]
theorem y3r{S O:Type}{f:S→Option (S⊕O)}{s:S}{o:O}{n:Nat}(hn:n≤18446744073709551616)(h:iterF f n s=some o):iter f s=some o:=by
 have mono:∀(n m:Nat) (s:S),n≤m→iterF f n s=some o→iterF f m s=some o:=by
  intro n
  induction n with
  | zero=>intro m s _ h;cases h
  | succ n ih=>
   intro m s hm h;obtain⟨k,rfl⟩:∃k,m=k+1:=⟨m-1,by omega⟩;rw [yc] at h ⊢;split at h
   ·cases h
   ·rename_i h1;exact ih k _ (by omega) h
   ·rename_i h1;exact h
 exact mono n _ s hn h
theorem ye{S O:Type}{f:S→Option (S⊕O)}(P:Nat→S→Prop)(Q:O→Prop):∀(n i:Nat),n<i+18446744073709551616→(∀i s,i<n→P i s→(∃s',f s=some (.inl s')∧P (i+1) s')∨∃o,f s=some (.inr o)∧Q o)→(∀s,P n s→∃o,f s=some (.inr o)∧Q o)→i≤n→
  ∀s,P i s→∃o,iter f s=some o∧Q o:=by
 have key:∀(n:Nat),(∀i s,i<n→P i s→(∃s',f s=some (.inl s')∧P (i+1) s')∨∃o,f s=some (.inr o)∧Q o)→(∀s,P n s→∃o,f s=some (.inr o)∧Q o)→∀(j i:Nat),i+j=n→∀s,P i s→∃o,iterF f (j+1) s=some o∧Q o:=by
  intro n step fin j
  induction j with
  | zero=>
   intro i hi s h;obtain rfl:i=n:=by omega
   obtain⟨o,h1,h2⟩:=fin s h;exact⟨o,by rw [yc,h1],h2⟩
  | succ j ih=>
   intro i hi s h;rcases step i s (by omega) h with ⟨s',h1,h2⟩|⟨o,h1,h2⟩
   ·obtain ⟨o,h3,h4⟩:=ih (i+1) (by omega) s' h2;exact⟨o,by rw [yc,h1];exact h3,h4⟩
   ·exact ⟨o,by rw [yc,h1],h2⟩
 intro n i hn step fin hi s h;obtain⟨o,h1,h2⟩:=key n step fin (n-i) i (by omega) s h;exact⟨o,y3r (by omega) h1,h2⟩
theorem nxt(h:i<4611686018427387904):W ((i:Int)+1)=((i+1:Nat):Int):=by rw [show (i:Int)+1=((i+1:Nat):Int) by omega,W_nat (by omega)]
theorem ct_lt{n:Nat}(h:i<n):decide ((i:Int)<(n:Int))=true:=by simp;omega
theorem ct_ge{n:Nat}:¬decide ((n:Int)<(n:Int))=true:=by simp
theorem y8z{xs:List α}{y:α}(h:i<xs.length):upd xs (i:Int) y=some (xs.set i y):=by
 unfold upd;rw [iP ⟨by omega,by omega⟩,yTn]
theorem y7H(h:xs.length≤4294967296):yB xs=some xs:=by
 rw [yB,yg (by simpa using h)];rfl
def errO(e:Int):Unit⊕Int:=if e=0 then .inl () else .inr e
theorem yg1{n:Int}(hl:xs.length<4611686018427387904):∀(j i:Nat),i+j=xs.length→
  iterF (y3s xs n) (j+1) (i:Int)=some (errO (yv n (y7W xs i) (xs.drop i))):=by
 intro j
 induction j with
 | zero=>
  intro i hi;have e:xs.drop i= []:=List.drop_of_length_le (by omega);rw [yc,y3s,iN (by simp;omega),e];rfl
 | succ j ih=>
  intro i hi;have hlt:i<xs.length:=by omega
  rw [yc,y3s,iP (by simp;omega),yb hlt,yOb];by_cases h1:xs[i]<0∨n≤xs[i]
  ·rw [iP (by simpa using h1),yiS hlt h1];rfl
  ·rw [iN (by simpa using h1)];by_cases h0:0<i
   ·rw [iP (by simp;omega),show(i:Int)-1=((i-1:Nat):Int) by omega,W_nat (by omega),yb (show i-1<xs.length by omega),yOb,yOb];by_cases h2:xs[i]≤xs[i-1]
    ·rw [iP (by simpa using h2),yiT hlt h1 h0 h2];rfl
    ·rw [iN (by simpa using h2),show(i:Int)+1=((i+1:Nat):Int) by omega,W_nat (by omega),yd2 hlt h1 (fun _=>by omega)];exact ih (i+1) (by omega)
   ·rw [iN (by simp;omega),yOb,iN (by simp),show(i:Int)+1=((i+1:Nat):Int) by omega,W_nat (by omega),yd2 hlt h1 (fun h=>absurd h h0)];exact ih (i+1) (by omega)
theorem y9I{n:Int}(hl:xs.length<4611686018427387904):y2p xs n=some (yv n none xs):=by
 have h:iter (y3s xs n) 0=some (errO (yv n none xs)):=y3r (by omega) (yg1 (n:=n) hl xs.length 0 (by omega));rw [y2p,h,yOb];by_cases h0:yv n none xs=0
 ·rw [h0];rfl
 ·rw [errO,iN h0]
theorem yj7{x:Int}(hl:xs.length<4611686018427387904):∀(j i:Nat),i+j=xs.length→
  ∃o,iterF (y4d xs x) (j+1) (i:Int)=some o∧((o= .inl ()∧x∉xs.drop i)∨∃k:Nat,i≤k∧o= .inr (k:Int)∧x∈xs.drop i):=by
 intro j
 induction j with
 | zero=>
  intro i hi;have e:xs.drop i= []:=List.drop_of_length_le (by omega);refine⟨.inl (),?_,.inl ⟨rfl,by rw [e];simp⟩⟩;rw [yc,y4d,iN (by simp;omega)]
 | succ j ih=>
  intro i hi;have hlt:i<xs.length:=by omega
  rw [yc,y4d,iP (by simp;omega),yb hlt,yOb];by_cases h1:x=xs[i]
  ·rw [iP (by simpa using h1)];exact⟨_,rfl,.inr ⟨i,yNr _,rfl,by rw [yDc hlt,h1];exact yMc⟩⟩
  ·rw [iN (by simpa using h1),show(i:Int)+1=((i+1:Nat):Int) by omega,W_nat (by omega)];obtain⟨o,h2,h3⟩:=ih (i+1) (by omega);refine⟨o,h2,?_⟩;rw [yDc hlt];rcases h3 with ⟨h4,h5⟩|⟨k,h4,h5,h6⟩
   ·exact .inl ⟨h4,fun hc=>(yMo.1 hc).elim h1 h5⟩
   ·exact .inr ⟨k,by omega,h5,yMm _ h6⟩
theorem yG{x:Int}(hl:xs.length<4611686018427387904):yf xs x=some (hasB xs x):=by
 obtain⟨o,h1,h2⟩:=yj7 (x:=x) hl xs.length 0 (by omega);have h:iter (y4d xs x) 0=some o:=y3r (by omega) h1;rw [yf,y8b,h,yOb];rcases h2 with ⟨rfl,h4⟩|⟨k,_,rfl,h4⟩
 ·rw [yaa.2 (by simpa using h4)];rfl
 ·rw [ya.2 (by simpa using h4)];show some (decide ((k:Int)≥0))=some true;simp
def edP(x:Ed):Int×Int×Int:=(x.f,x.e,x.t)
def autP(a:Aut):LI×Int×LI×List (Int×Int×Int):=(a.al,a.n,a.ms,a.es.map edP)
def prevE(es:List Ed)(k:Nat):Option Ed:=if k=0 then none else es[k-1]?
theorem yg2{al:LI}{n:Int}{es:List Ed}{k:Nat}(hk:k<es.length):edErr al n (prevE es k) (es.drop k)=
  if(es[k].f<0∨n≤es[k].f∨es[k].t<0∨n≤es[k].t) then 2 else if hasB al es[k].e=false then 9 else if(∃q,prevE es k=some q∧(es[k].f<q.f∨(es[k].f=q.f∧es[k].e≤q.e))) then 5 else edErr al n (prevE es (k+1)) (es.drop (k+1)):=by
 rw [yDc hk,edErr];congr 3;simp [prevE,yGe hk]
theorem yj8{a:Aut}(hl:a.es.length<4611686018427387904)(hal:a.al.length<4611686018427387904):∀(j i:Nat),i+j=a.es.length→
  iterF (y2G (autP a)) (j+1) (i:Int)=some (errO (edErr a.al a.n (prevE a.es i) (a.es.drop i))):=by
 have hlen:(autP a).2.2.2.length=a.es.length:=by simp [autP]
 have hat:∀(i:Nat) (h:i<a.es.length),idx (autP a).2.2.2 (i:Int)=some (edP a.es[i]):=fun i h=>by
  rw [yb (by rw [hlen];exact h)];simp [autP]
 intro j
 induction j with
 | zero=>
  intro i hi;have e:a.es.drop i= []:=List.drop_of_length_le (by omega);rw [yc,y2G,iN (by rw [hlen];simp;omega),e];rfl
 | succ j ih=>
  intro i hi;have hlt:i<a.es.length:=by omega
  have hnext:y2F (i:Int)=some (.inl ((i+1:Nat):Int)):=by
   rw [y2F,show(i:Int)+1=((i+1:Nat):Int) by omega,W_nat (by omega)]
  rw [yc,y2G,iP (by rw [hlen];simp;omega),hat i hlt,yOb,yg2 hlt];by_cases h1:a.es[i].f<0∨a.n≤a.es[i].f∨a.es[i].t<0∨a.n≤a.es[i].t
  ·rw [iP (by simp only [Bool.or_eq_true,decide_eq_true_eq];show((a.es[i].f<0∨a.es[i].f≥a.n)∨a.es[i].t<0)∨a.es[i].t≥a.n;omega),iP h1];rfl
  ·rw [iN (by simp only [Bool.or_eq_true,decide_eq_true_eq];show ¬(((a.es[i].f<0∨a.es[i].f≥a.n)∨a.es[i].t<0)∨a.es[i].t≥a.n);omega),iN h1];rw [show yf (autP a).1 (edP a.es[i]).2.1=some (hasB a.al a.es[i].e) from yG hal,yOb];cases h2:hasB a.al a.es[i].e with
   | false=>rfl
   | true=>
    rw [iN (show ¬(!true)=true by simp),iN (show ¬(true=false) by simp)];by_cases h0:i=0
    ·subst h0;rw [iP (by simp),hnext,iN (by rintro⟨q,hq,_⟩;simp [prevE] at hq)];exact ih 1 (by omega)
    ·have hp:prevE a.es i=some a.es[i-1]:=by rw [prevE,iN h0,yGe (by omega)]
     rw [iN (by simp;omega),show(i:Int)-1=((i-1:Nat):Int) by omega,W_nat (by omega),hat (i-1) (by omega),yOb];by_cases h3:a.es[i].f<a.es[i-1].f∨(a.es[i].f=a.es[i-1].f∧a.es[i].e≤a.es[i-1].e)
     ·rw [iP (by simp only [Bool.or_eq_true,yAe,decide_eq_true_eq,beq_iff_eq];exact h3),iP ⟨_,hp,h3⟩];rfl
     ·rw [iN (by simp only [Bool.or_eq_true,yAe,decide_eq_true_eq,beq_iff_eq];exact h3),hnext,iN (by rintro⟨q,hq,h4⟩;rw [hp] at hq;cases hq;exact h3 h4)];exact ih (i+1) (by omega)
theorem ybV{a:Aut}(hl:a.es.length<4611686018427387904)(hal:a.al.length<4611686018427387904)(hms:a.ms.length<4611686018427387904):y1J (autP a)=some a.err:=by
 have h:iter (y2G (autP a)) 0=some (errO (edErr a.al a.n none a.es)):=y3r (by omega) (yj8 hl hal a.es.length 0 (by omega));have he:y5x (autP a)=some (edErr a.al a.n none a.es):=by
  rw [y5x,h,yOb];by_cases h0:edErr a.al a.n none a.es=0
  ·rw [h0];rfl
  ·rw [errO,iN h0]
 rw [y1J,show y2p (autP a).1 32=some (yv 32 none a.al) from y9I hal,yOb,Aut.err];by_cases h1:(yv 32 none a.al != 0)=true
 ·rw [iP h1,iP h1]
 ·rw [iN h1,iN h1];by_cases h2:a.n<0
  ·rw [iP (show decide ((autP a).2.1<0)=true from decide_eq_true h2),iP h2]
  ·rw [iN (show ¬decide ((autP a).2.1<0)=true from fun e=>h2 (of_decide_eq_true e)),iN h2];by_cases h3:4096<a.n
   ·rw [iP (show decide ((autP a).2.1>4096)=true from decide_eq_true h3),iP h3]
   ·rw [iN (show ¬decide ((autP a).2.1>4096)=true from fun e=>h3 (of_decide_eq_true e)),iN h3,show y2p (autP a).2.2.1 (autP a).2.1=some (yv a.n none a.ms) from y9I hms,yOb];by_cases h4:(yv a.n none a.ms != 0)=true
    ·rw [iP h4,iP h4]
    ·rw [iN h4,iN h4,he];rfl
abbrev Inc(xs:LI):Prop:=xs.Pairwise (· < ·)
theorem ykn{j:Nat}(h:i+j<9223372036854775808):W ((IntKind.u64.wrap (W ((i:Int)+(j:Int)))).fdiv (2 ^ (min (1:Int).toNat 64)))=(((i+j)/2:Nat):Int):=by
 rw [W_of (x:=(i:Int)+j) (by omega) (by omega),IntWalk.u64_in _ (by omega),show(2:Int) ^ (min (1:Int).toNat 64)=2 from rfl,Int.fdiv_eq_ediv_of_nonneg _ (by omega),W_of (by omega) (by omega)];omega
theorem yko(x y:Int):y8n x y=some (decide (x<y)):=by
 rw [y8n,show y7c x=some false by rw [y7c];simp,yOb,iN (by simp),yOb,Bool.false_or]
theorem yl2{t:Int}(hl:xs.length<4294967296)(hs:Inc xs):∀(f i j:Nat),j≤i+f→i≤j→j≤xs.length→(∀k (h:k<xs.length),k<i→xs[k]<t)→(∀k (h:k<xs.length),j≤k→t≤xs[k])→
  ∃p:Nat,iterF (y1M xs t) (f+1) ((j:Int),(i:Int))=some (p:Int)∧p≤xs.length∧(∀k (h:k<xs.length),k<p→xs[k]<t)∧(∀k (h:k<xs.length),p≤k→t≤xs[k]):=by
 intro f
 induction f with
 | zero=>
  intro i j h1 h2 h3 h4 h5;refine⟨i,?_,by omega,h4,fun k h hk=>h5 k h (by omega)⟩;rw [yc,y1M,iN (by simp;omega)]
 | succ f ih=>
  intro i j h1 h2 h3 h4 h5;rw [yc,y1M];dsimp only;by_cases hij:i<j
  ·have hm:(i+j)/2<xs.length:=by omega
   rw [iP (by simp;omega),ykn (by omega),yb hm,yOb,yko,yOb];have mono:∀(a b:Nat) (ha:a<xs.length) (hb:b<xs.length),a≤b→xs[a]≤xs[b]:=fun a b ha hb hab=>by
    rcases Nat.lt_or_ge a b with h|h
    ·exact Int.le_of_lt (yPg.1 hs a b ha hb h)
    ·have:a=b:=by omega
     subst this;exact Int.le_refl _
   by_cases hc:xs[(i+j)/2]<t
   ·rw [iP (decide_eq_true hc),show(((i+j)/2:Nat):Int)+1=(((i+j)/2+1:Nat):Int) by omega,W_nat (by omega)];exact ih _ j (by omega) (by omega) h3 (fun k h hk=>by have:=mono k _ h hm (by omega);omega) h5
   ·rw [iN (by simpa using hc)];exact ih i _ (by omega) (by omega) (by omega) h4 (fun k h hk=>by have:=mono _ k hm h hk;omega)
  ·rw [iN (by simp;omega)];exact⟨i,rfl,by omega,h4,fun k h hk=>h5 k h (by omega)⟩
theorem y2v{t:Int}(hl:xs.length<4294967296)(hs:Inc xs):yq xs t=some (hasB xs t):=by
 obtain⟨p,hp,hle,hlo,hhi⟩:=yl2 (t:=t) hl hs xs.length 0 xs.length (by omega) (by omega) (by omega) (fun k h hk=>absurd hk (by omega)) (fun k h hk=>absurd hk (by omega));have hi:iter (y1M xs t) ((xs.length:Int),0)=some (p:Int):=y3r (by omega) hp;rw [yq,y6u,hi,yOb];by_cases hlt:p<xs.length
 ·rw [iP (by simpa using hlt),yb hlt,yOb];by_cases he:xs[p]=t
  ·rw [iP (by simpa using he)];show some true=_;rw [ya.2 (he▸yGm hlt)]
  ·rw [iN (by simpa using he),yOb,show y5E xs[p]=some false by rw [y5E];simp,yOb,iN (by simp)];show some false=_;rw [yaa.2];intro hm;obtain⟨k,hk,hk2⟩:=yGo hm;rcases Nat.lt_trichotomy k p with h|h|h
   ·have:=hlo k hk h;omega
   ·subst h;exact he hk2
   ·have:=hhi p hlt (yNr _);have:=yPg.1 hs p k hlt hk h;omega
 ·rw [iN (by simpa using hlt)];show some false=_;rw [yaa.2];intro hm;obtain⟨k,hk,hk2⟩:=yGo hm;have:=hlo k hk (by omega);omega
theorem y7y{n:Int}:∀{p:Option Int} {xs:LI},xs.Pairwise (· < ·)→(∀x∈xs,0≤x∧x<n)→(∀q,p=some q→∀x∈xs,q<x)→yv n p xs=0
 | _,[],_,_,_=>rfl
 | p,x::xs,h,hr,hp=>by
  obtain⟨h1,h2⟩:=yPc.1 h;have h3:=hr x (yMc ..);rw [yv,iN (by omega),iN ?_]
  ·exact y7y h2 (fun y hy=>hr y (yMm _ hy)) (fun q hq y hy=>by cases hq;exact h1 y hy)
  ·rintro ⟨q,hq,hle⟩;have:=hp q hq x (yMc ..);omega
theorem yfC{al:LI}{n:Int}:∀{p:Option Ed} {es:List Ed},ydM es→(∀x∈es,0≤x.f∧x.f<n∧0≤x.t∧x.t<n∧hasB al x.e=true)→(∀q,p=some q→∀x∈es,edLt q x)→edErr al n p es=0
 | _,[],_,_,_=>rfl
 | p,x::xs,h,hr,hp=>by
  obtain⟨h1,h2⟩:=yPc.1 h;have h3:=hr x (yMc ..);rw [edErr,iN (by omega),iN (by rw [h3.2.2.2.2];simp),iN ?_]
  ·exact yfC h2 (fun y hy=>hr y (yMm _ hy)) (fun q hq y hy=>by cases hq;exact h1 y hy)
  ·rintro ⟨q,hq,hle⟩;have:=hp q hq x (yMc ..);unfold edLt at this;omega
theorem yae(a:AutT):autP (toAut a)=a:=by
 obtain⟨x,y,z,es⟩:=a;simp only [autP,toAut,List.map_map];rw [show (edP∘toEd)=id from rfl,List.map_id]
structure Right (a:AutT) (n:Nat):Prop where
 nn:a.2.1=(n:Int)
 nl:n≤4096
 ali:Inc a.1
 alr:∀x∈a.1,0≤x∧x<32
 msi:Inc a.2.2.1
 msr:∀x∈a.2.2.1,0≤x∧x<(n:Int)
 es:∀x∈a.2.2.2,0≤x.1∧x.1<(n:Int)∧0≤x.2.2∧x.2.2<(n:Int)∧x.2.1∈a.1
 so:a.2.2.2.Pairwise fun x y=>x.1<y.1∨(x.1=y.1∧x.2.1<y.2.1)
 l1:a.1.length≤1000000
 l2:a.2.2.1.length≤1000000
 l3:a.2.2.2.length≤1000000
namespace Right
variable{a:AutT}{n:Nat}
theorem sorted(h:Right a n):ydM (a.2.2.2.map toEd):=by
 unfold ydM;rw [List.pairwise_map];exact h.so
theorem ein(h:Right a n):∀x∈a.2.2.2.map toEd,0≤x.f∧x.f<(n:Int)∧0≤x.t∧x.t<(n:Int):=fun x hx=>by
 obtain⟨y,hy,rfl⟩:=List.mem_map.1 hx;have:=h.es y hy;exact⟨this.1,this.2.1,this.2.2.1,this.2.2.2.1⟩
theorem evs(h:Right a n):EvEs (a.2.2.2.map toEd):=fun x hx=>by
 obtain⟨y,hy,rfl⟩:=List.mem_map.1 hx;exact h.alr _ (h.es y hy).2.2.2.2
theorem err(h:Right a n):(toAut a).err=0:=by
 have h1:yv 32 none (toAut a).al=0:=y7y h.ali h.alr (fun q hq=>by cases hq);have hn:(toAut a).n=n:=h.nn;have h2:yv (toAut a).n none (toAut a).ms=0:=by rw [hn];exact y7y h.msi h.msr (fun q hq=>by cases hq)
 have h3:edErr (toAut a).al (toAut a).n none (toAut a).es=0:=by
  rw [hn];refine yfC h.sorted (fun x hx=>?_) (fun q hq=>by cases hq);obtain⟨y,hy,rfl⟩:=List.mem_map.1 hx;have:=h.es y hy;exact⟨this.1,this.2.1,this.2.2.1,this.2.2.2.1,ya.2 this.2.2.2.2⟩
 have:=h.nl;unfold Aut.err;rw [h1,if_neg (by decide),if_neg (by rw [hn];omega),if_neg (by rw [hn];omega),h2,if_neg (by decide),h3]
theorem check(h:Right a n):y1J a=some 0:=by
 have h1:=h.l1;have h2:=h.l2;have h3:=h.l3;have:=ybV (a:=toAut a) (by simp [toAut];omega) (by simp [toAut];omega) (by simp [toAut];omega);rwa [yae,h.err] at this
end Right
theorem y4p{n:Nat}:∀{xs:List Int} {lo:Int},Inc xs→(∀x∈xs,lo≤x∧x<(n:Int))→0≤lo→xs.length≤n-lo.toNat
 | [],_,_,_,_=>yZl _
 | x::xs,lo,h,hr,h0=>by
  obtain⟨h1,h2⟩:=List.pairwise_cons.1 h;have hx:=hr x (List.mem_cons_self ..);have:=y4p (n:=n) (lo:=x+1) h2 (fun y hy=>⟨by have:=h1 y hy;omega,(hr y (List.mem_cons_of_mem _ hy)).2⟩) (by omega);rw [List.length_cons];omega
theorem y1u(a:α)(us:List α):idx (a::us) 0=some a:=rfl
theorem y5m(a:α)(us:List α):slc (a::us) 1 ((a::us).length:Int)=some us:=by
 rw [slc,if_pos ⟨by omega,by simp;omega,by omega⟩];simp
structure Mrg (out us vs:List Int):Prop where
 o:Inc out
 u:Inc us
 v:Inc vs
 ou:∀x∈out,∀y∈us,x<y
 ov:∀x∈out,∀y∈vs,x<y
 ro:∀x∈out,0≤x∧x<32
 ru:∀x∈us,0≤x∧x<32
 rv:∀x∈vs,0≤x∧x<32
theorem Mrg.swap(h:Mrg out us vs):Mrg out vs us:=⟨h.o,h.v,h.u,h.ov,h.ou,h.ro,h.rv,h.ru⟩
theorem Mrg.push{a:Int}(h:Mrg out (a::us) vs)(hv:∀y∈vs,a<y):Mrg (out++[a]) us vs:=by
 obtain⟨u1,u2⟩:=List.pairwise_cons.1 h.u;refine⟨?_,u2,h.v,?_,?_,?_,fun x hx=>h.ru x (List.mem_cons_of_mem _ hx),h.rv⟩
 ·unfold Inc;rw [List.pairwise_append];exact⟨h.o,List.pairwise_singleton _ _,fun x hx y hy=>by rw [yMs.1 hy];exact h.ou x hx a (List.mem_cons_self ..)⟩
 ·intro x hx y hy;rcases yMa.1 hx with hx|hx
  ·exact h.ou x hx y (List.mem_cons_of_mem _ hy)
  ·rw [yMs.1 hx];exact u1 y hy
 ·intro x hx y hy;rcases yMa.1 hx with hx|hx
  ·exact h.ov x hx y hy
  ·rw [yMs.1 hx];exact hv y hy
 ·intro x hx;rcases yMa.1 hx with hx|hx
  ·exact h.ro x hx
  ·rw [yMs.1 hx];exact h.ru a (List.mem_cons_self ..)
theorem Mrg.tailv{a:Int}(h:Mrg out us (a::vs)):Mrg out us vs:=
 ⟨h.o,h.u,(List.pairwise_cons.1 h.v).2,h.ou,fun x hx y hy=>h.ov x hx y (List.mem_cons_of_mem _ hy),h.ro,h.ru,fun x hx=>h.rv x (List.mem_cons_of_mem _ hx)⟩
theorem Mrg.len(h:Mrg out us vs):out.length≤32:=by
 have:=y4p (n:=32) (lo:=0) h.o h.ro (Int.le_refl _);simpa using this
theorem Mrg.lt{a b:Int}(h:Mrg out us (b::vs))(hab:a<b):∀y∈b::vs,a<y:=fun y hy=>by
 rcases List.mem_cons.1 hy with rfl|hy
 ·exact hab
 ·have:=(List.pairwise_cons.1 h.v).1 y hy;omega
theorem yh9(h:Mrg out us vs)(hne:0<us.length+vs.length):
  ∃o u v,yh yA (out,us,vs)=some (.inl (o,u,v))∧Mrg o u v∧u.length+v.length+1≤us.length+vs.length:=by
 have hl:=h.len;have ho:∀a:Int,app out ([a]:List Int)=some (out++[a]):=fun a=>yg (by simp;omega);cases us with
 | nil=>
  cases vs with
  | nil=>simp at hne
  | cons b vs=>
   refine⟨out++[b],[],vs,?_,(h.swap.push (fun y hy=>by cases hy)).swap,by simp⟩;rw [yh];dsimp only;rw [if_pos (by simp),if_neg (by simp),yt];dsimp only;rw [if_pos (by simp),if_pos (by simp),ym,if_neg (by simp),yk,if_pos rfl];dsimp only;rw [y1u,yOb,y5m,yOb,yp,show yA false true=some true from rfl,yOb,if_pos rfl];dsimp only;rw [ho,yOb]
 | cons a us=>
  cases vs with
  | nil=>
   refine⟨out++[a],us,[],?_,h.push (fun y hy=>by cases hy),by simp⟩;rw [yh];dsimp only;rw [if_pos (by simp),if_pos (by simp),if_pos (by simp),yt];dsimp only;rw [if_neg (by simp),ym,if_pos rfl];dsimp only;rw [y1u,yOb,y5m,yOb,yk,if_neg (by simp),yp,show yA true false=some true from rfl,yOb,if_pos rfl];dsimp only;rw [ho,yOb]
  | cons b vs=>
   have e0:yh yA (out,a::us,b::vs)=ym yA (out,a::us,b::vs) (decide (a≤b)) (decide (b≤a)):=by
    rw [yh];dsimp only;rw [if_pos (by simp),if_pos (by simp),if_neg (by simp;omega),y1u,yOb,y1u,yOb,yt];dsimp only;rw [if_pos (by simp),if_neg (by simp;omega),y1u,yOb,y1u,yOb]
   rw [e0,ym];dsimp only;by_cases h1:a<b
   ·refine ⟨out++[a],us,b::vs,?_,h.push (h.lt h1),by simp;omega⟩;rw [if_pos (show decide (a≤b)=true by simp;omega),y1u,yOb,y5m,yOb,yk,if_neg (by simp;omega),yp,show decide (a≤b)=true by simp;omega,show decide (b≤a)=false by simp;omega,
     show yA true false=some true from rfl,yOb,if_pos rfl]
    dsimp only;rw [ho,yOb]
   ·by_cases h2:b<a
    ·refine ⟨out++[b],a::us,vs,?_,(h.swap.push (h.swap.lt h2)).swap,by simp;omega⟩;rw [if_neg (show ¬decide (a≤b)=true by simp;omega),yk,if_pos (show decide (b≤a)=true by simp;omega)];dsimp only;rw [y1u,yOb,y5m,yOb,yp,show decide (a≤b)=false by simp;omega,show decide (b≤a)=true by simp;omega,
      show yA false true=some true from rfl,yOb,if_pos rfl]
     dsimp only;rw [ho,yOb]
    ·obtain rfl:a=b:=by omega
     refine⟨out++[a],us,vs,?_,h.tailv.push ((List.pairwise_cons.1 h.v).1),by simp;omega⟩;rw [if_pos (show decide (a≤a)=true by simp),y1u,yOb,y5m,yOb,yk,if_pos (show decide (a≤a)=true by simp)];dsimp only;rw [y1u,yOb,y5m,yOb,yp,show decide (a≤a)=true by simp,
      show yA true true=some true from rfl,yOb,if_pos rfl]
     dsimp only;rw [ho,yOb]
def Alp(xs:List Int):Prop:=Inc xs∧∀x∈xs,0≤x∧x<32
theorem Alp.nil :Alp []:=⟨List.Pairwise.nil,fun x hx=>by cases hx⟩
theorem Alp.len(h:Alp xs):xs.length≤32:=by
 have:=y4p (n:=32) (lo:=0) h.1 h.2 (Int.le_refl _);simpa using this
theorem yj9(hu:Alp us)(hv:Alp vs):∃o,y5o us vs=some o∧Alp o:=by
 have h0:Mrg [] us vs:=⟨List.Pairwise.nil,hu.1,hv.1,fun x hx=>(by cases hx),fun x hx=>(by cases hx),fun x hx=>(by cases hx),hu.2,hv.2⟩;have l1:=hu.len;have l2:=hv.len;obtain⟨o,h1,h2⟩:=ye (f:=yh yA) (fun i s=>Mrg s.1 s.2.1 s.2.2∧s.2.1.length+s.2.2.length+i≤us.length+vs.length) (fun o=>Alp o) (us.length+vs.length) 0 (by omega) (fun i s hi ⟨g1,g2⟩=>by
   obtain⟨out,u,v⟩:=s;dsimp only at g1 g2;by_cases hne:0<u.length+v.length
   ·obtain ⟨o,u',v',e,g3,g4⟩:=yh9 g1 hne;exact .inl ⟨_,e,g3,by dsimp only;omega⟩
   ·have e1:u= []:=List.eq_nil_of_length_eq_zero (by omega);have e2:v= []:=List.eq_nil_of_length_eq_zero (by omega);subst e1;subst e2;exact .inr ⟨out,rfl,g1.o,g1.ro⟩) (fun s ⟨g1,g2⟩=>by
   obtain⟨out,u,v⟩:=s;dsimp only at g1 g2;have e1:u= []:=List.eq_nil_of_length_eq_zero (by omega);have e2:v= []:=List.eq_nil_of_length_eq_zero (by omega);subst e1;subst e2;exact⟨out,rfl,g1.o,g1.ro⟩) (yZl _) ([],us,vs) ⟨h0,by dsimp only;omega⟩
 exact⟨o,by rw [y5o,y2V,h1];rfl,h2⟩
theorem yhX{l:List AutT}(hl:l.length≤1000)(h:∀a∈l,Alp a.1):∃ev,y5p l=some ev∧Alp ev:=by
 obtain⟨o,h1,h2⟩:=ye (f:=y1I l) (fun i s=>s.1=(i:Int)∧Alp s.2) (fun o=>Alp o) l.length 0 (by omega) (fun i s hi ⟨e1,g1⟩=>by
   obtain⟨k,out⟩:=s;dsimp only at e1 g1;subst e1;obtain⟨o,e,g2⟩:=yj9 g1 (h _ (yGm hi));refine .inl ⟨(((i+1:Nat):Int),o),?_,rfl,g2⟩;rw [y1I];dsimp only;rw [if_pos (ct_lt hi),yb hi,yOb,e,yOb,nxt (by omega)]) (fun s ⟨e1,g1⟩=>by
   obtain⟨k,out⟩:=s;dsimp only at e1 g1;subst e1;refine⟨out,?_,g1⟩;rw [y1I];dsimp only;rw [if_neg ct_ge]) (yZl _) (0,[]) ⟨rfl,Alp.nil⟩
 exact⟨o,by rw [y5p,h1];rfl,h2⟩
section
variable{κ β:Type}[BEq κ]
theorem yja{m:List (κ×β)}{k:κ}{v:β}(h:kget m k=some v):∃e∈m,e.2=v:=by
 unfold kget at h;rw [Option.map_eq_some_iff] at h;obtain⟨e,h1,h2⟩:=h;exact⟨e,List.mem_of_find?_eq_some h1,h2⟩
theorem yaD{m:List (κ×β)}{k:κ}{v:β}{e:κ×β}(h:e∈kput m k v):e∈m∨e=(k,v):=by
 unfold kput at h;split at h
 ·exact List.mem_or_eq_of_mem_set h
 ·rcases yMa.1 h with h|h
  ·exact .inl h
  ·exact .inr (yMs.1 h)
theorem yd5{m:List (κ×β)}{k:κ}:(kget m k).isSome=m.any fun p=>k==p.1:=by
 unfold kget
 induction m with
 | nil=>rfl
 | cons p m ih=>
  rw [List.any_cons];cases h:k==p.1 with
  | true=>rw [List.find?_cons_of_pos (by simpa using h)];rfl
  | false=>rw [List.find?_cons_of_neg (by simp [h])];simpa using ih
end
theorem beqB(k:ByteArray):(k==k)=true:=by rw [beq_toListBytes];simp
theorem yeO{m:List (ByteArray×β)}{k:ByteArray}:(kget (kput m k v) k).isSome=true:=by
 rw [yd5,List.any_eq_true];refine⟨(k,v),?_,beqB k⟩;unfold kput;split
 ·rename_i h;exact List.mem_set h _
 ·exact List.mem_append_right _ (yMs.2 rfl)
theorem yhY{m:List (ByteArray×β)}{k q:ByteArray}(h:(kget m q).isSome=true):(kget (kput m k v) q).isSome=true:=by
 rw [yd5,List.any_eq_true] at h ⊢;obtain⟨e,h1,h2⟩:=h;have hq:=eqS h2;unfold kput;split
 ·rename_i hlt;obtain⟨i,hi,rfl⟩:=List.getElem_of_mem h1;by_cases e:kidx (m.map (·.1)) k=i
  ·refine ⟨(k,v),List.mem_set hlt _,?_⟩;have hk:(fun p=>k==p) ((m.map (·.1))[kidx (m.map (·.1)) k]'(by rw [List.length_map];exact hlt))=true:=List.findIdx_getElem (p:=fun p=>k==p) (w:=by rw [List.length_map];exact hlt);rw [List.getElem_map] at hk;have hk:=eqS hk;subst e;rw [hq,←hk];exact beqB k
  ·refine ⟨m[i],?_,h2⟩;have:=List.getElem_set_ne (l:=m) e (a:=(k,v)) (by rw [List.length_set];exact hi);rw [←this];exact yGm _
 ·exact ⟨e,List.mem_append_left _ h1,h2⟩
def InT(l:List AutT)(t:List Int):Prop:=t.length=l.length∧∀i (h:i<l.length) (h':i<t.length),0≤t[i]∧t[i]<l[i].2.1
theorem InT.set{l:List AutT}{t:List Int}(h:InT l t)(hi:i<l.length){v:Int}(h0:0≤v)(h1:v<l[i].2.1):InT l (t.set i v):=by
 refine⟨by rw [List.length_set];exact h.1,fun k hk hk'=>?_⟩;rw [List.getElem_set];split
 ·rename_i e;subst e;exact⟨h0,h1⟩
 ·exact h.2 k hk _
structure MOk (l:List AutT) (m:List AutT×List Int×List (List ((Int×Int)×Int))):Prop where
 ml:m.1=l
 ev:Alp m.2.1
 len:m.2.2.length=l.length
 edge:∀i (h:i<l.length) (h':i<m.2.2.length),∀e∈m.2.2[i],0≤e.2∧e.2<l[i].2.1
theorem ykp{a:AutT}{n:Nat}(hr:Right a n):∃o,iter (y1K a) (0,([]:List ((Int×Int)×Int)))=some o∧∀e∈o,0≤e.2∧e.2<(n:Int):=by
 have hl:=hr.l3;refine ye (f:=y1K a) (fun i s=>s.1=(i:Int)∧∀e∈s.2,0≤e.2∧e.2<(n:Int)) (fun o=>∀e∈o,0≤e.2∧e.2<(n:Int)) a.2.2.2.length 0 (by omega) (fun i s hi ⟨e1,g1⟩=>?_) (fun s ⟨e1,g1⟩=>?_) (yZl _) _ ⟨rfl,fun e he=>(by cases he)⟩
 ·obtain ⟨k,out⟩:=s;dsimp only at e1 g1;subst e1;have hx:=hr.es _ (yGm hi);refine .inl ⟨(((i+1:Nat):Int),kput out (a.2.2.2[i].1,a.2.2.2[i].2.1) a.2.2.2[i].2.2),?_,rfl,fun e he=>?_⟩
  ·rw [y1K];dsimp only;rw [if_pos (ct_lt hi),yb hi,yOb,nxt (by omega)]
  ·rcases yaD he with he|he
   ·exact g1 e he
   ·rw [he];exact⟨hx.2.2.1,hx.2.2.2.1⟩
 ·obtain ⟨k,out⟩:=s;dsimp only at e1 g1;subst e1;refine⟨out,?_,g1⟩;rw [y1K];dsimp only;rw [if_neg ct_ge]
def keyK(t:List Int):ByteArray:=⟨(keyB t).toArray⟩
theorem y8P :∀(N:Nat) (l:List Nat),l.Nodup→(∀x∈l,x<N)→l.length≤N
 | 0,[],_,_=>Nat.le_refl _
 | 0,x::l,_,h=>absurd (h x (List.mem_cons_self ..)) (by omega)
 | N+1,l,hn,h=>by
  by_cases hm:N∈l
  ·have h1:=y8P N (l.erase N) (hn.erase N) (fun x hx=>by
    have h2:=(hn.mem_erase_iff).1 hx;have:=h x h2.2;omega)
   rw [List.length_erase_of_mem hm] at h1;omega
  ·have h1:=y8P N l hn (fun x hx=>by
    have:=h x hx;have:x≠N:=fun e=>hm (e▸hx);omega)
   omega
abbrev Kno :=List (ByteArray×Int)
structure SI (l:List AutT) (ev:List Int) (i j:Nat) (kn:Kno) (T:List (List Int)) (E:List (Int×Int×Int)):Prop where
 pos:0<T.length
 nd:T.Nodup
 inT:∀t∈T,InT l t
 key:∀t∈T,(kget kn (keyK t)).isSome=true
 val:∀e∈kn,0≤e.2∧e.2<(T.length:Int)
 er:∀x∈E,0≤x.1∧x.1≤(i:Int)∧0≤x.2.2∧x.2.2<(T.length:Int)∧x.2.1∈ev
 es:∀x∈E,x.1=(i:Int)→x.2.1∈ev.take j
 so:E.Pairwise fun x y=>x.1<y.1∨(x.1=y.1∧x.2.1<y.2.1)
 el:E.length≤32*i+j
 lk:∀k:Nat,0<k→k<T.length→∃x∈E,x.2.2=(k:Int)∧0≤x.1∧x.1<(k:Int)
section
variable{l:List AutT}{ev:List Int}{i j:Nat}{kn:Kno}{T:List (List Int)}{E:List (Int×Int×Int)}
theorem SI.skip(h:SI l ev i j kn T E):SI l ev i (j+1) kn T E:=
 ⟨h.pos,h.nd,h.inT,h.key,h.val,h.er,fun x hx e=>(List.take_subset_take_left ev (Nat.le_succ j)) (h.es x hx e),h.so,by have:=h.el;omega,h.lk⟩
theorem SI.next(h:SI l ev i j kn T E)(hj:j≤32):SI l ev (i+1) 0 kn T E:=
 ⟨h.pos,h.nd,h.inT,h.key,h.val,fun x hx=>by have:=h.er x hx;exact⟨this.1,by omega,this.2.2⟩,fun x hx e=>by have:=h.er x hx;omega,h.so,by have:=h.el;omega,h.lk⟩
theorem ygH(he:Inc ev)(hj:j<ev.length):∀x∈ev.take j,x<ev[j]:=fun x hx=>by
 obtain⟨k,hk,rfl⟩:=List.getElem_of_mem hx;rw [List.length_take] at hk;rw [List.getElem_take];exact List.pairwise_iff_getElem.1 he k j (by omega) hj (by omega)
theorem SI.edge(h:SI l ev i j kn T E)(he:Inc ev)(hi:i<T.length)(hj:j<ev.length){q:Int}(h0:0≤q)(h1:q<T.length):SI l ev i (j+1) kn T (E++[((i:Int),ev[j],q)]):=by
 refine⟨h.pos,h.nd,h.inT,h.key,h.val,fun x hx=>?_,fun x hx e=>?_,?_,by have:=h.el;rw [List.length_append,List.length_singleton];omega,fun k h2 h3=>?_⟩
 ·rcases yMa.1 hx with hx|hx
  ·exact h.er x hx
  ·rw [yMs.1 hx];exact⟨by dsimp only;omega,by dsimp only;omega,h0,h1,yGm _⟩
 ·rcases yMa.1 hx with hx|hx
  ·exact (List.take_subset_take_left ev (Nat.le_succ j)) (h.es x hx e)
  ·rw [yMs.1 hx,yco ev j hj];exact List.mem_append_right _ (yMs.2 rfl)
 ·rw [List.pairwise_append];refine⟨h.so,List.pairwise_singleton _ _,fun a ha b hb=>?_⟩;rw [yMs.1 hb];have h2:=h.er a ha;by_cases e:a.1=(i:Int)
  ·exact .inr ⟨e,ygH he hj _ (h.es a ha e)⟩
  ·exact .inl (by dsimp only;omega)
 ·obtain ⟨x,hx,h4⟩:=h.lk k h2 h3;exact⟨x,List.mem_append_left _ hx,h4⟩
theorem SI.new(h:SI l ev i j kn T E)(he:Inc ev)(hi:i<T.length)(hj:j<ev.length){t:List Int}(ht:InT l t)(hk:(kget kn (keyK t)).isSome=false):SI l ev i (j+1) (kput kn (keyK t) (T.length:Int)) (T++[t]) (E++[((i:Int),ev[j],(T.length:Int))]):=by
 have hlen:(T++[t]).length=T.length+1:=by simp
 have h0:SI l ev i j (kput kn (keyK t) (T.length:Int)) T E∨True:= .inr trivial;refine⟨by omega,?_,fun s hs=>?_,fun s hs=>?_,fun e hx=>?_,fun x hx=>?_,fun x hx e=>?_,?_,by have:=h.el;rw [List.length_append,List.length_singleton];omega,fun k h2 h3=>?_⟩
 ·rw [List.nodup_append];refine⟨h.nd,by simp,fun a ha b hb=>?_⟩;rw [yMs.1 hb];intro e;subst e;rw [h.key a ha] at hk;cases hk
 ·rcases yMa.1 hs with hs|hs
  ·exact h.inT s hs
  ·rw [yMs.1 hs];exact ht
 ·rcases yMa.1 hs with hs|hs
  ·exact yhY (h.key s hs)
  ·rw [yMs.1 hs];exact yeO
 ·rw [hlen];rcases yaD hx with hx|hx
  ·have:=h.val e hx;omega
  ·rw [hx];dsimp only;omega
 ·rw [hlen];rcases yMa.1 hx with hx|hx
  ·have:=h.er x hx;exact⟨this.1,this.2.1,this.2.2.1,by omega,this.2.2.2.2⟩
  ·rw [yMs.1 hx];exact⟨by dsimp only;omega,by dsimp only;omega,by dsimp only;omega,by dsimp only;omega,yGm _⟩
 ·rcases yMa.1 hx with hx|hx
  ·exact (List.take_subset_take_left ev (Nat.le_succ j)) (h.es x hx e)
  ·rw [yMs.1 hx,yco ev j hj];exact List.mem_append_right _ (yMs.2 rfl)
 ·rw [List.pairwise_append];refine⟨h.so,List.pairwise_singleton _ _,fun a ha b hb=>?_⟩;rw [yMs.1 hb];have h2:=h.er a ha;by_cases e:a.1=(i:Int)
  ·exact .inr ⟨e,ygH he hj _ (h.es a ha e)⟩
  ·exact .inl (by dsimp only;omega)
 ·by_cases h4:k<T.length
  ·obtain ⟨x,hx,h5⟩:=h.lk k h2 h4;exact⟨x,List.mem_append_left _ hx,h5⟩
  ·have:k=T.length:=by omega
   subst this;exact⟨_,List.mem_append_right _ (yMs.2 rfl),rfl,by dsimp only;omega,by dsimp only;omega⟩
end
theorem y9G.snoc{es:List Ed}:∀{k:Nat} {x:Int} {e:Ed},e∈es→y9G es [e.f] k x→y9G es [e.t] (k+1) x
 | 0,x,e,he,h=>⟨e,he,(yMs.1 h).symm,yMs.2 rfl⟩
 | k+1,x,e,he,⟨y,hy,h1,h2⟩=>⟨y,hy,h1,h2.snoc he⟩
abbrev edsOf(p:AutT):List Ed:=p.2.2.2.map toEd
theorem yhZ{κ:Type}[BEq κ]{m:List (κ×β)}{k:κ}(h:kget m k=some v):∃e∈m,e.2=v∧(k==e.1)=true:=by
 unfold kget at h;rw [Option.map_eq_some_iff] at h;obtain⟨e,h1,h2⟩:=h;exact⟨e,List.mem_of_find?_eq_some h1,h2,List.find?_some (p:=fun p:κ×β=>k==p.1) h1⟩
section
variable{κ β:Type}[DecidableEq κ][BEq κ][LawfulBEq κ]
theorem y9Y(p:κ×β)(m:List (κ×β))(q:κ):kget (p::m) q=if q=p.1 then some p.2 else kget m q:=by
 unfold kget;by_cases h:q=p.1
 ·rw [if_pos h,List.find?_cons_of_pos (by simp [h])];rfl
 ·rw [if_neg h,List.find?_cons_of_neg (by simp [h])]
omit [DecidableEq κ] [LawfulBEq κ] in
theorem yjb(k:κ)(v:β):kput [] k v= [(k,v)]:=by
 unfold kput;rw [if_neg (by simp)];rfl
theorem yi0(p:κ×β)(m:List (κ×β))(k:κ)(v:β):kput (p::m) k v=if k=p.1 then(k,v)::m else p::kput m k v:=by
 unfold kput;rw [List.map_cons,y9K];by_cases h:k=p.1
 ·subst h;rw [if_pos (by simp),if_pos (by simp),if_pos rfl];rfl
 ·have e:(if (k==p.1)=true then 0 else kidx (m.map (·.1)) k+1)=kidx (m.map (·.1)) k+1:=if_neg (by simp [h]);rw [e,if_neg h];by_cases h2:kidx (m.map (·.1)) k<m.length
  ·rw [if_pos h2,if_pos (by rw [List.length_cons];omega),List.set_cons_succ]
  ·rw [if_neg h2,if_neg (by rw [List.length_cons];omega)];rfl
theorem y3D{k q:κ}{v:β}:∀(m:List (κ×β)),kget (kput m k v) q=if q=k then some v else kget m q
 | []=>by rw [yjb,y9Y]
 | p::m=>by
  rw [yi0];by_cases h:k=p.1
  ·rw [if_pos h,y9Y,y9Y];by_cases h2:q=k
   ·rw [if_pos h2,if_pos h2]
   ·rw [if_neg h2,if_neg h2,if_neg (by rw [←h];exact h2)]
  ·rw [if_neg h,y9Y,y9Y,y3D m];by_cases h2:q=p.1
   ·rw [if_pos h2,if_neg (by rw [h2];exact fun e=>h e.symm),if_pos h2]
   ·rw [if_neg h2,if_neg h2]
end
structure LOkB (B:Nat) (l:List AutT):Prop where
 len:l.length≤3
 right:∀a∈l,∃n:Nat,1≤n∧n≤B∧Right a n
 b99:B≤99
 pw:B ^ l.length≤4000
theorem yha{l:List AutT}(h:LOkB B l):y5P l=some 0:=by
 have hl:=h.len;have hb99:=h.b99;obtain⟨o,h1,rfl⟩:=ye (f:=y1W l) (fun i s=>s=(i:Int)) (fun o=>o= .inl ()) l.length 0 (by omega) (fun i s hi e1=>by
   subst e1;obtain⟨n,_,_,hr⟩:=h.right _ (yGm hi);refine .inl ⟨((i+1:Nat):Int),?_,rfl⟩;rw [y1W,if_pos (ct_lt hi),yb hi,yOb,hr.check,yOb,if_neg (by simp),nxt (by omega)]) (fun s e1=>by
   subst e1;exact⟨_,by rw [y1W,if_neg ct_ge],rfl⟩) (yZl _) 0 rfl
 rw [y5P,if_neg (by simp;omega),h1];rfl
theorem yjc{l:List AutT}(h:LOkB B l):∃m,y5q l=some m∧MOk l m:=by
 have hl:=h.len;have hb99:=h.b99;obtain⟨ev,he,hev⟩:=yhX (l:=l) (by omega) (fun a ha=>by
  obtain⟨n,_,_,hr⟩:=h.right a ha;exact⟨hr.ali,hr.alr⟩)
 obtain⟨o,h1,h2⟩:=ye (f:=y2B l) (fun i s=>i≤l.length∧s.1=(i:Int)∧s.2.length=i∧∀k (h:k<l.length) (h':k<s.2.length),∀e∈s.2[k],0≤e.2∧e.2<l[k].2.1) (fun o=>o.length=l.length∧∀k (h:k<l.length) (h':k<o.length),∀e∈o[k],0≤e.2∧e.2<l[k].2.1) l.length 0 (by omega) (fun i s hi ⟨_,e1,g1,g2⟩=>by
   obtain⟨k,out⟩:=s;dsimp only at e1 g1 g2;subst e1;obtain⟨n,_,_,hr⟩:=h.right _ (yGm hi);obtain⟨o,e,g3⟩:=ykp hr;refine .inl ⟨(((i+1:Nat):Int),out++[o]),?_,by omega,rfl,by simp [g1],fun k hk hk' x hx=>?_⟩
   ·rw [y2B];dsimp only;rw [if_pos (ct_lt hi),yb hi,yOb,e,yOb,yg (by simp;omega),yOb,nxt (by omega)]
   ·dsimp only at hx;by_cases hki:k<out.length
    ·rw [List.getElem_append_left hki] at hx;exact g2 k hk hki x hx
    ·have hk2:k=i:=by simp at hk';omega
     subst hk2;rw [List.getElem_append_right (by omega)] at hx;simp only [g1,Nat.sub_self,List.getElem_cons_zero] at hx;rw [hr.nn];exact g3 x hx) (fun s ⟨_,e1,g1,g2⟩=>by
   obtain⟨k,out⟩:=s;dsimp only at e1 g1 g2;subst e1;refine⟨out,?_,g1,g2⟩;rw [y2B];dsimp only;rw [if_neg ct_ge]) (yZl _) (0,[]) ⟨yZl _,rfl,rfl,fun k hk hk'=>(by simp at hk')⟩
 exact⟨(l,ev,o),by rw [y5q,he,yOb,h1];rfl,rfl,hev,h2.1,h2.2⟩
theorem yg3{l:List AutT}(h:LOkB B l){m:List AutT×List Int×List (List ((Int×Int)×Int))}(hm:MOk l m):∃t,yy m=some (t,true)∧InT l t:=by
 have hl:=h.len;have hb99:=h.b99;obtain⟨m1,m2,m3⟩:=m;obtain⟨rfl,hev,hlen,_⟩:=hm;dsimp only at *;obtain⟨o,h1,rfl⟩:=ye (f:=yl (m1,m2,m3)) (fun i s=>s=(i:Int)) (fun o=>o= .inl ()) m1.length 0 (by omega) (fun i s hi e1=>by
   subst e1;obtain⟨n,hn,_,hr⟩:=h.right _ (yGm hi);refine .inl ⟨((i+1:Nat):Int),?_,rfl⟩;rw [yl];dsimp only;rw [if_pos (ct_lt hi),yb hi,yOb,hr.nn,if_neg (by simp;omega),nxt (by omega)]) (fun s e1=>by
   subst e1;refine⟨_,?_,rfl⟩;rw [yl];dsimp only;rw [if_neg ct_ge]) (yZl _) 0 rfl
 have hmk:mkL (m1.length:Int) (0:Int)=some (List.replicate m1.length 0):=by unfold mkL;rw [if_pos ⟨by omega,by omega⟩,Int.toNat_natCast]
 refine⟨List.replicate m1.length 0,?_,by simp,fun i hi hi'=>?_⟩
 ·rw [yy,h1,yOb];dsimp only;rw [hmk,yOb]
 ·obtain ⟨n,hn,_,hr⟩:=h.right _ (yGm hi);rw [List.getElem_replicate,hr.nn];omega
theorem yjd{l:List AutT}(h:LOkB B l){m:List AutT×List Int×List (List ((Int×Int)×Int))}(hm:MOk l m){t:List Int}(ht:InT l t)(e:Int):∃r,yY m t e=some r∧(r.2=true→InT l r.1):=by
 have hl:=h.len;have hb99:=h.b99;obtain⟨m1,m2,m3⟩:=m;obtain⟨rfl,hev,hlen,hed⟩:=hm;dsimp only at *;obtain⟨o,h1,h2⟩:=ye (f:=yn (m1,m2,m3) t e) (fun i s=>s.1=(i:Int)∧InT m1 s.2) (fun o=>∀u,o= .inl u→InT m1 u) m1.length 0 (by omega) (fun i s hi ⟨e1,g1⟩=>by
   obtain⟨k,out⟩:=s;dsimp only at e1 g1;subst e1;obtain⟨n,hn,_,hr⟩:=h.right _ (yGm hi);have ha:m1[i].1.length<4294967296:=by have:=hr.l1;omega
   have hj:∀u:List Int,yz ((i:Int),out) u=some (.inl (((i+1:Nat):Int),u)):=fun u=>by
    rw [yz];dsimp only;rw [nxt (by omega)]
   rw [yn];dsimp only;rw [if_pos (ct_lt hi),yb hi,yOb,y2v ha hr.ali,yOb];cases hb:hasB m1[i].1 e with
   | false=>
    rw [if_pos (by simp),hj];exact .inl ⟨_,rfl,rfl,g1⟩
   | true=>
    rw [if_neg (by simp),yb (by omega),yOb,yb (by have:=ht.1;omega),yOb];cases hg:kget m3[i] (t[i]'(by have:=ht.1;omega),e) with
    | none=>
     rw [if_pos (by simp)];exact .inr ⟨_,rfl,fun u hu=>by cases hu⟩
    | some v=>
     obtain⟨x,hx,rfl⟩:=yja hg;have hv:=hed i hi (by omega) x hx;rw [if_neg (by simp),yb (by have:=g1.1;omega),yOb,y8z (by have:=g1.1;omega),yOb,hj];exact .inl ⟨_,rfl,rfl,g1.set hi hv.1 hv.2⟩) (fun s ⟨e1,g1⟩=>by
   obtain⟨k,out⟩:=s;dsimp only at e1 g1;subst e1;refine⟨.inl out,?_,fun u hu=>by cases hu;exact g1⟩;rw [yn];dsimp only;rw [if_neg ct_ge]) (yZl _) (0,t) ⟨rfl,ht⟩
 rw [yY,y7H (by have:=ht.1;omega),yOb,h1,yOb];cases o with
 | inl u=>exact⟨_,rfl,fun _=>h2 u rfl⟩
 | inr u=>exact⟨_,rfl,fun hb=>by cases hb⟩
theorem yhb{l:List AutT}(h:LOkB B l){m:List AutT×List Int×List (List ((Int×Int)×Int))}(hm:MOk l m){t:List Int}(ht:InT l t):∃b,yJ m t=some b:=by
 have hl:=h.len;have hb99:=h.b99;obtain⟨m1,m2,m3⟩:=m;obtain⟨rfl,hev,hlen,hed⟩:=hm;dsimp only at *;obtain⟨o,h1,h2⟩:=ye (f:=y3w (m1,m2,m3) t) (fun i s=>s=(i:Int)) (fun _=>True) m1.length 0 (by omega) (fun i s hi e1=>by
   subst e1;obtain⟨n,hn,_,hr⟩:=h.right _ (yGm hi);have ha:m1[i].2.2.1.length<4294967296:=by have:=hr.l2;omega
   rw [y3w];dsimp only;rw [if_pos (ct_lt hi),yb hi,yOb,yb (by have:=ht.1;omega),yOb,y2v ha hr.msi,yOb];cases hb:hasB m1[i].2.2.1 (t[i]'(by have:=ht.1;omega)) with
   | false=>rw [if_pos (by simp)];exact .inr ⟨_,rfl,trivial⟩
   | true=>rw [if_neg (by simp),nxt (by omega)];exact .inl ⟨_,rfl,rfl⟩) (fun s e1=>by
   subst e1;refine⟨.inl (),?_,trivial⟩;rw [y3w];dsimp only;rw [if_neg ct_ge]) (yZl _) 0 rfl
 rw [yJ,h1,yOb];cases o with
 | inl u=>exact⟨_,rfl⟩
 | inr u=>exact⟨_,rfl⟩
theorem ygI{l:List AutT}(h:LOkB B l){t:List Int}(ht:InT l t):y4T t=some (keyK t):=by
 have hl:=h.len;have hb99:=h.b99;have hc:(t.all fun x=>decide (0≤x∧x<100))=true:=by
  rw [yAt];intro x hx;obtain⟨i,hi,rfl⟩:=List.getElem_of_mem hx;have hi':i<l.length:=by have:=ht.1;omega
  obtain⟨n,hn,hn6,hr⟩:=h.right _ (yGm hi');have:=ht.2 i hi' hi;rw [hr.nn] at this;simp;omega
 rw [y4T,if_pos ⟨hc,by have:=ht.1;omega⟩];rfl
def y8h(B:Nat):List Int→Nat
 | []=>0
 | x::t=>x.toNat+B*y8h B t
theorem ydN:∀{s t:List Int},s.length=t.length→(∀x∈s,0≤x∧x<B)→(∀x∈t,0≤x∧x<B)→y8h B s=y8h B t→s=t
 | [],[],_,_,_,_=>rfl
 | [],_::_,h,_,_,_=>by simp at h
 | _::_,[],h,_,_,_=>by simp at h
 | x::s,y::t,h,hs,ht,e=>by
  have h1:=hs x (List.mem_cons_self ..);have h2:=ht y (List.mem_cons_self ..);simp only [y8h] at e;have e2:x.toNat=y.toNat:=by
   have h3:=congrArg (· % B) e;simp only [Nat.add_mul_mod_self_left] at h3;rwa [Nat.mod_eq_of_lt (by omega),Nat.mod_eq_of_lt (by omega)] at h3
  have hxy:x=y:=by omega
  subst hxy;have e3:B*y8h B s=B*y8h B t:=by omega
  rw [ydN (s:=s) (t:=t) (by simpa using h) (fun z hz=>hs z (List.mem_cons_of_mem _ hz)) (fun z hz=>ht z (List.mem_cons_of_mem _ hz)) (Nat.eq_of_mul_eq_mul_left (by omega) e3)]
theorem yeP:∀{t:List Int},(∀x∈t,0≤x∧x<B)→y8h B t<B ^ t.length
 | [],_=>by simp [y8h]
 | x::t,h=>by
  have h1:=h x (List.mem_cons_self ..);have h2:=yeP (t:=t) (fun z hz=>h z (List.mem_cons_of_mem _ hz));rw [List.length_cons,Nat.pow_succ,y8h];have h3:B*(y8h B t+1)≤B*B ^ t.length:=Nat.mul_le_mul_left B h2;rw [Nat.mul_add,Nat.mul_one] at h3;rw [Nat.mul_comm (B ^ t.length) B];omega
theorem InT.smallB{l:List AutT}(h:LOkB B l){t:List Int}(ht:InT l t):∀x∈t,0≤x∧x<B:=by
 intro x hx;obtain⟨i,hi,rfl⟩:=List.getElem_of_mem hx;have hi':i<l.length:=by have:=ht.1;omega
 obtain⟨n,hn,hn6,hr⟩:=h.right _ (yGm hi');have:=ht.2 i hi' hi;rw [hr.nn] at this;omega
theorem y9J{l:List AutT}(h:LOkB B l){T:List (List Int)}(hn:T.Nodup)(hT:∀t∈T,InT l t):T.length≤4000:=by
 have h1:=y8P (B ^ l.length) (T.map (y8h B)) ?_ ?_
 ·rw [List.length_map] at h1;have h2:=h.pw;omega
 ·rw [List.Nodup,List.pairwise_map];refine List.Pairwise.imp_of_mem (fun {a b} ha hb hab e=>hab ?_) hn;exact ydN ((hT a ha).1.trans (hT b hb).1.symm) ((hT a ha).smallB h) ((hT b hb).smallB h) e
 ·intro x hx;obtain⟨t,ht,rfl⟩:=List.mem_map.1 hx;rw [←(hT t ht).1];exact yeP ((hT t ht).smallB h)
end
section
open Tryz
abbrev anyE :Ed→Bool:=fun _=>true
structure Num (es:List Ed) (n:Nat):Prop where
 so:es.Pairwise fun x y=>x.f<y.f∨(x.f=y.f∧x.e<y.e)
 rng:∀x∈es,0≤x.f∧x.f<(n:Int)∧0≤x.t∧x.t<(n:Int)∧0≤x.e∧x.e<32
 cov:∀k:Nat,0<k→k<n→∃x∈es,x.t=(k:Int)
 ear:∀i (hi:i<es.length) (k:Int),0<k→k<es[i].t→∃j,∃hj:j<es.length,j<i∧es[j].t=k
 fst:∀i (hi:i<es.length),(∀j (hj:j<es.length),j<i→es[j].t≠es[i].t)→es[i].t=0∨es[i].f<es[i].t
theorem ydo{es:List Ed}{k:Int}{x:Ed}(h:es.find? (fun y=>y.t==k)=some x):∃i,∃hi:i<es.length,es[i]=x∧x.t=k∧∀j (hj:j<es.length),j<i→es[j].t≠k:=by
 rw [List.find?_eq_some_iff_getElem] at h;obtain⟨h1,i,hi,h2,h3⟩:=h;refine⟨i,hi,h2,by simpa using h1,fun j hj hji e=>?_⟩;have:=h3 j hji;simp [e] at this
def wordN(es:List Ed):Nat→Int→LI
 | 0,_=> []
 | f+1,k=>if k≤0 then [] else match es.find? (fun y=>y.t==k) with
  | none=> []
  | some x=>wordN es f x.f++[x.e]
def wN(es:List Ed)(k:Int):LI:=wordN es k.toNat k
namespace Num
variable{es:List Ed}{n:Nat}
theorem find(h:Num es n){k:Nat}(h0:0<k)(h1:k<n):∃x,es.find? (fun y=>y.t==(k:Int))=some x∧x∈es∧x.t=(k:Int)∧0≤x.f∧x.f<(k:Int):=by
 obtain⟨y,hy,ht⟩:=h.cov k h0 h1;cases hf:es.find? (fun y=>y.t==(k:Int)) with
 | none=>exact absurd (by simpa using ht) (by simpa using List.find?_eq_none.1 hf y hy)
 | some x=>
  obtain⟨i,hi,e1,e2,e3⟩:=ydo hf;have hm:x∈es:=e1▸yGm hi;refine⟨x,rfl,hm,e2,(h.rng x hm).1,?_⟩;have:=h.fst i hi (fun j hj hji=>by rw [e1,e2];exact e3 j hj hji);rw [e1,e2] at this;omega
theorem fuel(h:Num es n):∀(f:Nat) (k:Int),k<(n:Int)→k.toNat≤f→wordN es f k=wN es k:=by
 have key:∀(m:Nat) (k:Int),k.toNat=m→k<(n:Int)→∀f g,m≤f→m≤g→wordN es f k=wordN es g k:=by
  intro m
  induction m using Nat.strongRecOn with
  | ind m ih=>
   intro k hk hn f g hf hg;by_cases h0:k≤0
   ·have e:∀f,wordN es f k= []:=fun f=>by
     cases f with
     | zero=>rfl
     | succ f=>rw [wordN,if_pos h0]
    rw [e,e]
   ·obtain ⟨f,rfl⟩:∃f',f=f'+1:=⟨f-1,by omega⟩;obtain⟨g,rfl⟩:∃g',g=g'+1:=⟨g-1,by omega⟩;obtain⟨k',rfl⟩:∃k':Nat,k=(k':Int):=⟨k.toNat,by omega⟩;obtain⟨x,hx,_,ht,hf0,hfk⟩:=h.find (k:=k') (by omega) (by omega);rw [wordN,wordN,if_neg h0,if_neg h0,hx];dsimp only;rw [ih x.f.toNat (by omega) x.f rfl (by omega) f g (by omega) (by omega)]
 intro f k hn hf;exact key k.toNat k rfl hn f k.toNat hf (Nat.le_refl _)
theorem step(h:Num es n){k:Nat}(h0:0<k)(h1:k<n):∃x∈es,es.find? (fun y=>y.t==(k:Int))=some x∧x.t=(k:Int)∧0≤x.f∧x.f<(k:Int)∧wN es (k:Int)=wN es x.f++[x.e]:=by
 obtain⟨x,hx,hm,ht,hf0,hfk⟩:=h.find h0 h1;refine⟨x,hm,hx,ht,hf0,hfk,?_⟩;obtain⟨k,rfl⟩:∃k',k=k'+1:=⟨k-1,by omega⟩;unfold wN;rw [Int.toNat_natCast,wordN,if_neg (by omega),hx];dsimp only;rw [h.fuel k x.f (by omega) (by omega)];rfl
theorem zero :wN es 0= []:=rfl
theorem evs(h:Num es n):∀(k:Nat),k<n→Evs (wN es (k:Int)):=by
 intro k
 induction k using Nat.strongRecOn with
 | ind k ih=>
  intro hk;by_cases h0:k=0
  ·subst h0;exact Evs.nil
  ·obtain ⟨x,hm,_,_,hf0,hfk,e⟩:=h.step (k:=k) (by omega) hk;rw [e];have hx:=h.rng x hm;have:=ih x.f.toNat (by omega) (by omega);rw [Int.toNat_of_nonneg hf0] at this;exact this.snoc hx.2.2.2.2.1 hx.2.2.2.2.2
theorem leads(h:Num es n):∀(k:Nat),k<n→Leads es anyE 0 (wN es (k:Int)) (k:Int):=by
 intro k
 induction k using Nat.strongRecOn with
 | ind k ih=>
  intro hk;by_cases h0:k=0
  ·subst h0;rfl
  ·obtain ⟨x,hm,_,ht,hf0,hfk,e⟩:=h.step (k:=k) (by omega) hk;rw [e,←ht];have:=ih x.f.toNat (by omega) (by omega);rw [Int.toNat_of_nonneg hf0] at this;exact this.snoc hm rfl rfl
theorem mono(h:Num es n):∀(k' k:Nat),k<k'→k'<n→wval (wN es (k:Int))<wval (wN es (k':Int)):=by
 intro k'
 induction k' using Nat.strongRecOn with
 | ind k' ih=>
  intro k hkk hk';obtain⟨x',hm',hf',ht',hf0',hfk',e'⟩:=h.step (k:=k') (by omega) hk';have hx':=h.rng x' hm';have hw':0≤wval (wN es x'.f):=by
   have:=h.evs x'.f.toNat (by omega);rw [Int.toNat_of_nonneg hf0'] at this;exact yg0 _ this
  rw [e',yaQ];by_cases h0:k=0
  ·subst h0;show wval []<_;show(0:Int)<_;omega
  ·obtain ⟨x,hm,hf,ht,hf0,hfk,e⟩:=h.step (k:=k) (by omega) (by omega);have hx:=h.rng x hm;rw [e,yaQ];obtain⟨i,hi,a1,a2,a3⟩:=ydo hf;obtain⟨i',hi',b1,b2,b3⟩:=ydo hf';obtain⟨j,hj,hji,hjt⟩:=h.ear i' hi' (k:Int) (by omega) (by rw [b1,b2];omega);have hij:i≤j:=Nat.le_of_not_lt fun hlt=>a3 j hj hlt hjt;have hlt:=List.pairwise_iff_getElem.1 h.so i i' hi hi' (by omega);rw [a1,b1] at hlt;rcases hlt with hlt|⟨hlt,hle⟩
   ·have:=ih x'.f.toNat (by omega) x.f.toNat (by omega) (by omega);rw [Int.toNat_of_nonneg hf0,Int.toNat_of_nonneg hf0'] at this;omega
   ·rw [hlt];omega
end Num
end
section
open Tryz Go Go.RowKit
variable{t:LI}{e:Int}{r:LI}{l:List AutT}{B:Nat}{us vs:LI}{P S:AutT}{n1 n2:Nat}
structure Disc {τ:Type} (st:τ→Int→Option τ) (al:LI) (T:List τ) (E:List (Int×Int×Int)):Prop where
 nd:T.Nodup
 so:E.Pairwise fun x y=>x.1<y.1∨(x.1=y.1∧x.2.1<y.2.1)
 sn:∀x∈E,∃(a q:Nat) (t r:τ),x.1=(a:Int)∧x.2.2=(q:Int)∧T[a]? =some t∧T[q]? =some r∧x.2.1∈al∧st t x.2.1=some r
 ed:∀(a:Nat) (t:τ) (e:Int) (r:τ),T[a]? =some t→e∈al→st t e=some r→∃q:Nat,((a:Int),e,(q:Int))∈E∧T[q]? =some r
 cov:∀k:Nat,0<k→k<T.length→∃x∈E,x.2.2=(k:Int)
 ear:∀n (hn:n<E.length) (k:Int),0<k→k<E[n].2.2→∃p,∃hp:p<E.length,p<n∧E[p].2.2=k
 fst:∀n (hn:n<E.length),(∀p (hp:p<E.length),p<n→E[p].2.2≠E[n].2.2)→E[n].2.2=0∨E[n].1<E[n].2.2
 evr:∀e∈al,0≤e∧e<32
section
variable{τ:Type}{st:τ→Int→Option τ}{al:LI}{T T':List τ}{E E':List (Int×Int×Int)}
def stw(st:τ→Int→Option τ)(t:τ):LI→Option τ
 | []=>some t
 | e::u=>(st t e).bind fun r=>stw st r u
theorem yaf{lt:τ→τ→Prop}(hir:∀a b,lt a b→lt b a→False):∀{xs ys:List τ},xs.Pairwise lt→ys.Pairwise lt→(∀x,x∈xs↔x∈ys)→xs=ys
 | [],[],_,_,_=>rfl
 | [],y::ys,_,_,h=>by have:=(h y).2 (yMc ..);cases this
 | x::xs,[],_,_,h=>by have:=(h x).1 (yMc ..);cases this
 | x::xs,y::ys,hx,hy,h=>by
  obtain⟨x1,x2⟩:=yPc.1 hx;obtain⟨y1,y2⟩:=yPc.1 hy;have hxy:x=y:=by
   rcases yMo.1 ((h x).1 (yMc ..)) with e|e
   ·exact e
   ·rcases yMo.1 ((h y).2 (yMc ..)) with e'|e'
    ·exact e'.symm
    ·exact (hir x y (x1 y e') (y1 x e)).elim
  subst hxy;have hne1:∀z∈xs,z≠x:=fun z hz e=>by subst e;exact hir z z (x1 z hz) (x1 z hz)
  have hne2:∀z∈ys,z≠x:=fun z hz e=>by subst e;exact hir z z (y1 z hz) (y1 z hz)
  rw [yaf hir x2 y2 fun z=>?_];constructor
  ·intro hz;exact(yMo.1 ((h z).1 (yMm _ hz))).resolve_left (hne1 z hz)
  ·intro hz;exact(yMo.1 ((h z).2 (yMm _ hz))).resolve_left (hne2 z hz)
end
theorem y8i{α:Type}{xs:List α}{x:α}{n:Nat}(hn:n<(xs++[x]).length):(∃h:n<xs.length,(xs++[x])[n]=xs[n])∨(n=xs.length∧(xs++[x])[n]=x):=by
 by_cases h:n<xs.length
 ·exact .inl ⟨h,yGl h⟩
 ·have h2:n=xs.length:=by simp at hn;omega
  subst h2;exact .inr ⟨rfl,by rw [List.getElem_append_right (yNr _)];simp⟩
structure Fnd {τ:Type} (st:τ→Int→Option τ) (ev:LI) (i j:Nat) (T:List τ) (E:List (Int×Int×Int)):Prop where
 sn:∀x∈E,∃(a q:Nat) (t r:τ),x.1=(a:Int)∧x.2.2=(q:Int)∧T[a]? =some t∧T[q]? =some r∧st t x.2.1=some r
 ed:∀(a b:Nat) (t:τ) (e:Int) (r:τ),(a<i∨(a=i∧b<j))→T[a]? =some t→ev[b]? =some e→st t e=some r→∃q:Nat,((a:Int),e,(q:Int))∈E∧T[q]? =some r
 cov:∀k:Nat,0<k→k<T.length→∃x∈E,x.2.2=(k:Int)
 ear:∀n (hn:n<E.length) (k:Int),0<k→k<E[n].2.2→∃p,∃hp:p<E.length,p<n∧E[p].2.2=k
 fst:∀n (hn:n<E.length),(∀p (hp:p<E.length),p<n→E[p].2.2≠E[n].2.2)→E[n].2.2=0∨E[n].1<E[n].2.2
section
variable{τ:Type}{st:τ→Int→Option τ}{ev:LI}{i j:Nat}{T:List τ}{E:List (Int×Int×Int)}
theorem Fnd.skip(h:Fnd st ev i j T E){t:τ}(ht:T[i]? =some t)(he:ev[j]? =some e)(hs:st t e=none):Fnd st ev i (j+1) T E:=by
 refine⟨h.sn,fun a b t' e' r hab ha hb hst=>?_,h.cov,h.ear,h.fst⟩;by_cases hx:a=i∧b=j
 ·obtain ⟨rfl,rfl⟩:=hx;rw [ht] at ha;rw [he] at hb;cases ha;cases hb;rw [hs] at hst;cases hst
 ·exact h.ed a b t' e' r (by omega) ha hb hst
theorem Fnd.next(h:Fnd st ev i j T E)(hj:ev.length≤j):Fnd st ev (i+1) 0 T E:=
 ⟨h.sn,fun a b t e r hab ha hb hst=>h.ed a b t e r (by have:=(yGs.1 hb).1;omega) ha hb hst,h.cov,h.ear,h.fst⟩
theorem Fnd.edge(h:Fnd st ev i j T E){t r:τ}{q:Nat}(ht:T[i]? =some t)(he:ev[j]? =some e)(hs:st t e=some r)(hq:T[q]? =some r):Fnd st ev i (j+1) T (E++[((i:Int),e,(q:Int))]):=by
 have hql:=(yGs.1 hq).1;refine⟨fun x hx=>?_,fun a b t' e' r' hab ha hb hst=>?_,fun k h0 h1=>?_,fun n hn k h0 h1=>?_,fun n hn hf=>?_⟩
 ·rcases yMa.1 hx with hx|hx
  ·exact h.sn x hx
  ·rw [yMs.1 hx];exact⟨i,q,t,r,rfl,rfl,ht,hq,hs⟩
 ·by_cases hx:a=i∧b=j
  ·obtain ⟨rfl,rfl⟩:=hx;rw [ht] at ha;rw [he] at hb;cases ha;cases hb;rw [hs] at hst;cases hst;exact⟨q,yMr _ (yMs.2 rfl),hq⟩
  ·obtain ⟨q',g1,g2⟩:=h.ed a b t' e' r' (by omega) ha hb hst;exact⟨q',yMl _ g1,g2⟩
 ·obtain ⟨x,hx,h2⟩:=h.cov k h0 h1;exact⟨x,yMl _ hx,h2⟩
 ·rcases y8i hn with ⟨hn2,e2⟩|⟨hn2,e2⟩
  ·rw [e2] at h1;obtain⟨p,hp,h3,h4⟩:=h.ear n hn2 k h0 h1;exact⟨p,by simp;omega,h3,by rw [yGl hp];exact h4⟩
  ·rw [e2] at h1;dsimp only at h1;obtain⟨x,hx,h3⟩:=h.cov k.toNat (by omega) (by omega);obtain⟨p,hp,rfl⟩:=yGo hx;exact⟨p,by simp;omega,by omega,by rw [yGl hp,h3];omega⟩
 ·rcases y8i hn with ⟨hn2,e2⟩|⟨hn2,e2⟩
  ·rw [e2];refine h.fst n hn2 fun p hp hpn=>?_;have:=hf p (by simp;omega) hpn;rwa [yGl hp,e2] at this
  ·rw [e2];dsimp only;by_cases hz:q=0
   ·left;omega
   ·exfalso;obtain⟨x,hx,h3⟩:=h.cov q (by omega) hql;obtain⟨p,hp,rfl⟩:=yGo hx;have:=hf p (by simp;omega) (by omega);rw [yGl hp,e2,h3] at this;exact this rfl
theorem Fnd.new(h:Fnd st ev i j T E){t r:τ}(hi:i<T.length)(ht:T[i]? =some t)(he:ev[j]? =some e)(hs:st t e=some r):Fnd st ev i (j+1) (T++[r]) (E++[((i:Int),e,(T.length:Int))]):=by
 have hup:∀{a:Nat} {u:τ},T[a]? =some u→(T++[r])[a]? =some u:=fun {a u} hu=>by rw [yAl (yGs.1 hu).1];exact hu
 have hnew:(T++[r])[T.length]? =some r:=by rw [yAr (yNr _)];simp
 have hto:∀x∈E,0≤x.2.2∧x.2.2<(T.length:Int):=fun x hx=>by
  obtain⟨a,q,u,v,_,h2,_,h4,_⟩:=h.sn x hx;have:=(yGs.1 h4).1;omega
 refine⟨fun x hx=>?_,fun a b t' e' r' hab ha hb hst=>?_,fun k h0 h1=>?_,fun n hn k h0 h1=>?_,fun n hn hf=>?_⟩
 ·rcases yMa.1 hx with hx|hx
  ·obtain ⟨a,q,u,v,h1,h2,h3,h4,h5⟩:=h.sn x hx;exact⟨a,q,u,v,h1,h2,hup h3,hup h4,h5⟩
  ·rw [yMs.1 hx];exact⟨i,T.length,t,r,rfl,rfl,hup ht,hnew,hs⟩
 ·have hal:a<T.length:=by omega
  rw [yAl hal] at ha;by_cases hx:a=i∧b=j
  ·obtain ⟨rfl,rfl⟩:=hx;rw [ht] at ha;rw [he] at hb;cases ha;cases hb;rw [hs] at hst;cases hst;exact⟨T.length,yMr _ (yMs.2 rfl),hnew⟩
  ·obtain ⟨q',g1,g2⟩:=h.ed a b t' e' r' (by omega) ha hb hst;exact⟨q',yMl _ g1,hup g2⟩
 ·by_cases hk:k<T.length
  ·obtain ⟨x,hx,h2⟩:=h.cov k h0 hk;exact⟨x,yMl _ hx,h2⟩
  ·have:k=T.length:=by simp at h1;omega
   subst this;exact⟨_,yMr _ (yMs.2 rfl),rfl⟩
 ·rcases y8i hn with ⟨hn2,e2⟩|⟨hn2,e2⟩
  ·rw [e2] at h1;obtain⟨p,hp,h3,h4⟩:=h.ear n hn2 k h0 h1;exact⟨p,by simp;omega,h3,by rw [yGl hp];exact h4⟩
  ·rw [e2] at h1;dsimp only at h1;obtain⟨x,hx,h3⟩:=h.cov k.toNat (by omega) (by omega);obtain⟨p,hp,rfl⟩:=yGo hx;exact⟨p,by simp;omega,by omega,by rw [yGl hp,h3];omega⟩
 ·rcases y8i hn with ⟨hn2,e2⟩|⟨hn2,e2⟩
  ·rw [e2];refine h.fst n hn2 fun p hp hpn=>?_;have:=hf p (by simp;omega) hpn;rwa [yGl hp,e2] at this
  ·rw [e2];dsimp only;right;omega
end
theorem Fnd.start{τ:Type}{st:τ→Int→Option τ}{ev:LI}{T:List τ}(h:T.length≤1):Fnd st ev 0 0 T []:=
 ⟨fun x hx=>(by cases hx),fun a b t e r hab=>by omega,fun k h0 h1=>by omega,fun n hn=>by simp at hn,fun n hn=>by simp at hn⟩
theorem Fnd.disc{τ:Type}{st:τ→Int→Option τ}{ev:LI}{T:List τ}{E:List (Int×Int×Int)}(h:Fnd st ev T.length 0 T E)(nd:T.Nodup)(so:E.Pairwise fun x y=>x.1<y.1∨(x.1=y.1∧x.2.1<y.2.1))(hal:∀x∈E,x.2.1∈ev)(evr:∀e∈ev,0≤e∧e<32):Disc st ev T E:=by
 refine⟨nd,so,fun x hx=>?_,fun a t e r ha he hs=>?_,h.cov,h.ear,h.fst,evr⟩
 ·obtain ⟨a,q,t,r,h1,h2,h3,h4,h5⟩:=h.sn x hx;exact⟨a,q,t,r,h1,h2,h3,h4,hal x hx,h5⟩
 ·obtain ⟨b,hb,hbe⟩:=yGo he;exact h.ed a b t e r (.inl (yGs.1 ha).1) ha (by rw [yGe hb,hbe]) hs
theorem ygJ{u:Nat}(hu:u<100):(32:UInt8)∉dig2 u:=by
 have h:∀v:_root_.Fin 100,(32:UInt8)∉dig2 v.val:=by decide +kernel
 exact h ⟨u,hu⟩
theorem yje{u v:Nat}(hu:u<100)(hv:v<100)(e:dig2 u=dig2 v):u=v:=by
 have h:∀v:_root_.Fin 100,((dig2 v.val).foldl (fun acc d=>10*acc+(d.toNat-48)) 0)=v.val:=by decide +kernel
 have h1:=h ⟨u,hu⟩;have h2:=h ⟨v,hv⟩;dsimp only at h1 h2;rw [e] at h1;omega
theorem yfD{α:Type}{c:α}:∀{l1 l2 r1 r2:List α},c∉l1→c∉l2→l1++c::r1=l2++c::r2→l1=l2∧r1=r2
 | [],[],_,_,_,_,h=>⟨rfl,(List.cons.inj h).2⟩
 | [],b::l2,_,_,_,h2,h=>absurd (List.cons.inj h).1 (fun e=>h2 (e▸yMc ..))
 | a::l1,[],_,_,h1,_,h=>absurd (List.cons.inj h).1 (fun e=>h1 (e▸yMc ..))
 | a::l1,b::l2,_,_,h1,h2,h=>by
  obtain⟨e1,e2⟩:=List.cons.inj h;obtain⟨e3,e4⟩:=yfD (fun hm=>h1 (yMm _ hm)) (fun hm=>h2 (yMm _ hm)) e2;exact⟨by rw [e1,e3],e4⟩
theorem yfE :∀{t u:LI},(∀x∈t,0≤x∧x<100)→(∀x∈u,0≤x∧x<100)→keyB t=keyB u→t=u
 | [],[],_,_,_=>rfl
 | [],y::u,_,_,h=>by simp [keyB] at h
 | x::t,[],_,_,h=>by simp [keyB] at h
 | x::t,y::u,ht,hu,h=>by
  have h1:=ht x (yMc ..);have h2:=hu y (yMc ..);obtain⟨e1,e2⟩:=yfD (ygJ (by omega)) (ygJ (by omega)) h;have e3:=yje (u:=x.toNat) (v:=y.toNat) (by omega) (by omega) e1;rw [show x=y by omega,yfE (fun z hz=>ht z (yMm _ hz)) (fun z hz=>hu z (yMm _ hz)) e2]
theorem yjf{u:LI}(ht:∀x∈t,0≤x∧x<100)(hu:∀x∈u,0≤x∧x<100)(h:keyK t=keyK u):t=u:=by
 refine yfE ht hu ?_;have:=congrArg ByteArray.data h;simpa [keyK] using this
theorem InT.hund(h:LOkB B l)(ht:InT l t):∀x∈t,0≤x∧x<100:=fun x hx=>by
 have:=ht.smallB h x hx;have:=h.b99;omega
noncomputable def mst(m:List AutT×LI×List (List ((Int×Int)×Int)))(t:LI)(e:Int):Option LI:=match yY m t e with
 | some (u,true)=>some u
 | _=>none
theorem yjg(h:LOkB B l){m:List AutT×LI×List (List ((Int×Int)×Int))}(hm:MOk l m)(ht:InT l t)(e:Int):∃r,yY m t e=some r∧(r.2=true→InT l r.1∧mst m t e=some r.1)∧(r.2=false→mst m t e=none):=by
 obtain⟨⟨u,b⟩,h1,h2⟩:=yjd h hm ht e;refine⟨(u,b),h1,fun hb=>⟨h2 hb,?_⟩,fun hb=>?_⟩
 ·have hb:b=true:=hb;unfold mst;rw [h1,hb]
 ·have hb:b=false:=hb;unfold mst;rw [h1,hb]
structure SZ (m:List AutT×LI×List (List ((Int×Int)×Int))) (i j:Nat) (kn:Kno) (T:List LI) (E:List (Int×Int×Int)):Prop where
 kv:∀e∈kn,∃(q:Nat) (t:LI),e.2=(q:Int)∧T[q]? =some t∧e.1=keyK t
 sn:∀x∈E,∃(a q:Nat) (t r:LI),x.1=(a:Int)∧x.2.2=(q:Int)∧T[a]? =some t∧T[q]? =some r∧mst m t x.2.1=some r
 ed:∀(a b:Nat) (t:LI) (e:Int) (r:LI),(a<i∨(a=i∧b<j))→T[a]? =some t→m.2.1[b]? =some e→mst m t e=some r→∃q:Nat,((a:Int),e,(q:Int))∈E∧T[q]? =some r
 cov:∀k:Nat,0<k→k<T.length→∃x∈E,x.2.2=(k:Int)
 ear:∀n (hn:n<E.length) (k:Int),0<k→k<E[n].2.2→∃p,∃hp:p<E.length,p<n∧E[p].2.2=k
 fst:∀n (hn:n<E.length),(∀p (hp:p<E.length),p<n→E[p].2.2≠E[n].2.2)→E[n].2.2=0∨E[n].1<E[n].2.2
section
variable{m:List AutT×LI×List (List ((Int×Int)×Int))}{i j:Nat}{kn:Kno}{T:List LI}{E:List (Int×Int×Int)}
theorem SZ.skip(h:SZ m i j kn T E)(ht:T[i]? =some t)(he:m.2.1[j]? =some e)(hs:mst m t e=none):SZ m i (j+1) kn T E:=by
 refine⟨h.kv,h.sn,fun a b t' e' r hab ha hb hst=>?_,h.cov,h.ear,h.fst⟩;by_cases hx:a=i∧b=j
 ·obtain ⟨rfl,rfl⟩:=hx;rw [ht] at ha;rw [he] at hb;cases ha;cases hb;rw [hs] at hst;cases hst
 ·exact h.ed a b t' e' r (by omega) ha hb hst
theorem SZ.next(h:SZ m i j kn T E)(hj:m.2.1.length≤j):SZ m (i+1) 0 kn T E:=
 ⟨h.kv,h.sn,fun a b t e r hab ha hb hst=>h.ed a b t e r (by have:=(yGs.1 hb).1;omega) ha hb hst,h.cov,h.ear,h.fst⟩
theorem SZ.edge(h:SZ m i j kn T E){q:Nat}(ht:T[i]? =some t)(he:m.2.1[j]? =some e)(hs:mst m t e=some r)(hq:T[q]? =some r):SZ m i (j+1) kn T (E++[((i:Int),e,(q:Int))]):=by
 have hql:=(yGs.1 hq).1;refine⟨h.kv,fun x hx=>?_,fun a b t' e' r' hab ha hb hst=>?_,fun k h0 h1=>?_,fun n hn k h0 h1=>?_,fun n hn hf=>?_⟩
 ·rcases yMa.1 hx with hx|hx
  ·exact h.sn x hx
  ·rw [yMs.1 hx];exact⟨i,q,t,r,rfl,rfl,ht,hq,hs⟩
 ·by_cases hx:a=i∧b=j
  ·obtain ⟨rfl,rfl⟩:=hx;rw [ht] at ha;rw [he] at hb;cases ha;cases hb;rw [hs] at hst;cases hst;exact⟨q,yMr _ (yMs.2 rfl),hq⟩
  ·obtain ⟨q',g1,g2⟩:=h.ed a b t' e' r' (by omega) ha hb hst;exact⟨q',yMl _ g1,g2⟩
 ·obtain ⟨x,hx,h2⟩:=h.cov k h0 h1;exact⟨x,yMl _ hx,h2⟩
 ·rcases y8i hn with ⟨hn2,e2⟩|⟨hn2,e2⟩
  ·rw [e2] at h1;obtain⟨p,hp,h3,h4⟩:=h.ear n hn2 k h0 h1;exact⟨p,by simp;omega,h3,by rw [yGl hp];exact h4⟩
  ·rw [e2] at h1;dsimp only at h1;obtain⟨x,hx,h3⟩:=h.cov k.toNat (by omega) (by omega);obtain⟨p,hp,rfl⟩:=yGo hx;exact⟨p,by simp;omega,by omega,by rw [yGl hp,h3];omega⟩
 ·rcases y8i hn with ⟨hn2,e2⟩|⟨hn2,e2⟩
  ·rw [e2];refine h.fst n hn2 fun p hp hpn=>?_;have:=hf p (by simp;omega) hpn;rwa [yGl hp,e2] at this
  ·rw [e2];dsimp only;by_cases hz:q=0
   ·left;omega
   ·exfalso;obtain⟨x,hx,h3⟩:=h.cov q (by omega) hql;obtain⟨p,hp,rfl⟩:=yGo hx;have:=hf p (by simp;omega) (by omega);rw [yGl hp,e2,h3] at this;exact this rfl
theorem SZ.new(h:SZ m i j kn T E)(hi:i<T.length)(ht:T[i]? =some t)(he:m.2.1[j]? =some e)(hs:mst m t e=some r):SZ m i (j+1) (kput kn (keyK r) (T.length:Int)) (T++[r]) (E++[((i:Int),e,(T.length:Int))]):=by
 have hup:∀{a:Nat} {u:LI},T[a]? =some u→(T++[r])[a]? =some u:=fun {a u} hu=>by rw [yAl (yGs.1 hu).1];exact hu
 have hnew:(T++[r])[T.length]? =some r:=by rw [yAr (yNr _)];simp
 have hto:∀x∈E,0≤x.2.2∧x.2.2<(T.length:Int):=fun x hx=>by
  obtain⟨a,q,u,v,_,h2,_,h4,_⟩:=h.sn x hx;have:=(yGs.1 h4).1;omega
 refine⟨fun x hx=>?_,fun x hx=>?_,fun a b t' e' r' hab ha hb hst=>?_,fun k h0 h1=>?_,fun n hn k h0 h1=>?_,fun n hn hf=>?_⟩
 ·rcases yaD hx with hx|hx
  ·obtain ⟨q,u,h1,h2,h3⟩:=h.kv x hx;exact⟨q,u,h1,hup h2,h3⟩
  ·rw [hx];exact⟨T.length,r,rfl,hnew,rfl⟩
 ·rcases yMa.1 hx with hx|hx
  ·obtain ⟨a,q,u,v,h1,h2,h3,h4,h5⟩:=h.sn x hx;exact⟨a,q,u,v,h1,h2,hup h3,hup h4,h5⟩
  ·rw [yMs.1 hx];exact⟨i,T.length,t,r,rfl,rfl,hup ht,hnew,hs⟩
 ·have hal:a<T.length:=by omega
  rw [yAl hal] at ha;by_cases hx:a=i∧b=j
  ·obtain ⟨rfl,rfl⟩:=hx;rw [ht] at ha;rw [he] at hb;cases ha;cases hb;rw [hs] at hst;cases hst;exact⟨T.length,yMr _ (yMs.2 rfl),hnew⟩
  ·obtain ⟨q',g1,g2⟩:=h.ed a b t' e' r' (by omega) ha hb hst;exact⟨q',yMl _ g1,hup g2⟩
 ·by_cases hk:k<T.length
  ·obtain ⟨x,hx,h2⟩:=h.cov k h0 hk;exact⟨x,yMl _ hx,h2⟩
  ·have:k=T.length:=by simp at h1;omega
   subst this;exact⟨_,yMr _ (yMs.2 rfl),rfl⟩
 ·rcases y8i hn with ⟨hn2,e2⟩|⟨hn2,e2⟩
  ·rw [e2] at h1;obtain⟨p,hp,h3,h4⟩:=h.ear n hn2 k h0 h1;exact⟨p,by simp;omega,h3,by rw [yGl hp];exact h4⟩
  ·rw [e2] at h1;dsimp only at h1;obtain⟨x,hx,h3⟩:=h.cov k.toNat (by omega) (by omega);obtain⟨p,hp,rfl⟩:=yGo hx;exact⟨p,by simp;omega,by omega,by rw [yGl hp,h3];omega⟩
 ·rcases y8i hn with ⟨hn2,e2⟩|⟨hn2,e2⟩
  ·rw [e2];refine h.fst n hn2 fun p hp hpn=>?_;have:=hf p (by simp;omega) hpn;rwa [yGl hp,e2] at this
  ·rw [e2];dsimp only;right;omega
end
theorem yjh(h:LOkB B l){m:List AutT×LI×List (List ((Int×Int)×Int))}(hm:MOk l m){i:Nat}{kn:Kno}{T:List LI}{E:List (Int×Int×Int)}(z:Kno×List LI×LI×List (Int×Int×Int))(hS:SI l m.2.1 i 0 kn T E)(hZ:SZ m i 0 kn T E)(hi:i<T.length):
  ∃kn' T' E',iter (y2Y m ((i:Int),z)) (0,kn,T,E)=some (.inl (kn',T',E'))∧SI l m.2.1 (i+1) 0 kn' T' E'∧SZ m (i+1) 0 kn' T' E'∧i<T'.length∧∃U,T'=T++U:=by
 have hal:=hm.ev.len;obtain⟨o,h1,h2⟩:=ye (f:=y2Y m ((i:Int),z)) (fun j s=>s.1=(j:Int)∧j≤m.2.1.length∧SI l m.2.1 i j s.2.1 s.2.2.1 s.2.2.2∧SZ m i j s.2.1 s.2.2.1 s.2.2.2∧i<s.2.2.1.length∧∃U,s.2.2.1=T++U) (fun o=>∃kn' T' E',o= .inl (kn',T',E')∧SI l m.2.1 (i+1) 0 kn' T' E'∧SZ m (i+1) 0 kn' T' E'∧i<T'.length∧∃U,T'=T++U) m.2.1.length 0 (by omega) (fun j s hj ⟨e1,_,hS,hZ,hi,U,hU⟩=>by
   obtain⟨k,kn,T1,E⟩:=s;dsimp only at e1 hS hZ hi hU;subst e1;have hTl:=y9J h hS.nd hS.inT;have hj2:∀a b c,y2W ((j:Int),kn,T1,E) a b c=some (.inl (((j+1:Nat):Int),a,b,c)):=fun a b c=>by
    rw [y2W];dsimp only;rw [nxt (by omega)]
   have hj3:∀x b n c,y2X ((i:Int),z) ((j:Int),kn,T1,E) x b n c=some (.inl (((j+1:Nat):Int),c,b,E++[((i:Int),x,n)])):=fun x b n c=>by
    have he:=hS.el;have hi':i<4000:=by omega
    rw [y2X];dsimp only;rw [yg (by simp;omega),yOb,hj2]
   have hin:=hS.inT _ (yGm hi);obtain⟨r,hr,hrT,hrF⟩:=yjg h hm hin m.2.1[j];have hti:T1[i]? =some T1[i]:=yGe hi;have hej:m.2.1[j]? =some m.2.1[j]:=yGe hj;left;rw [y2Y];dsimp only;rw [iP (ct_lt hj),yb hj,yOb,yb hi,yOb,hr,yOb];cases hb:r.2 with
   | false=>
    rw [iP (by simp),hj2];exact⟨_,rfl,rfl,by omega,hS.skip,hZ.skip hti hej (hrF hb),hi,U,hU⟩
   | true=>
    obtain⟨ht,hms⟩:=hrT hb;rw [iN (by simp),ygI h ht,yOb];cases hg:kget kn (keyK r.1) with
    | none=>
     rw [iP (by simp),iN (by simp;omega),yOb,yg (by simp;omega),yOb,hj3];exact⟨_,rfl,rfl,by omega,hS.new hm.ev.1 hi hj ht (by rw [hg];rfl),hZ.new hi hti hej hms,by simp;omega,U++[r.1],by rw [hU,yAa]⟩
    | some v=>
     obtain⟨x,hx,hxv,hxk⟩:=yhZ hg;obtain⟨q,u,g1,g2,g3⟩:=hZ.kv x hx;have hk:keyK r.1=keyK u:=(eqS hxk).trans g3;have hu:u∈T1:=List.mem_of_getElem? g2;have he:r.1=u:=yjf (ht.hund h) ((hS.inT u hu).hund h) hk;rw [←he] at g2;have hql:=(yGs.1 g2).1;have hvq:v=(q:Int):=by rw [←hxv];exact g1
     rw [iN (by simp),hj3,hvq];exact⟨_,rfl,rfl,by omega,hS.edge (q:=(q:Int)) hm.ev.1 hi hj (by omega) (by omega),hZ.edge (q:=q) hti hej hms g2,hi,U,hU⟩) (fun s ⟨e1,_,hS,hZ,hi,U,hU⟩=>by
   obtain⟨k,kn,T1,E⟩:=s;dsimp only at e1 hS hZ hi hU;subst e1;refine⟨.inl (kn,T1,E),?_,kn,T1,E,rfl,hS.next hal,hZ.next (yNr _),hi,U,hU⟩;rw [y2Y];dsimp only;rw [iN ct_ge]) (yZl _) (0,kn,T,E) ⟨rfl,yZl _,hS,hZ,hi,[],by simp⟩
 obtain⟨kn',T',E',rfl,h3,h4,h5,h6⟩:=h2;exact⟨kn',T',E',h1,h3,h4,h5,h6⟩
structure PrdZ (l:List AutT) (m:List AutT×LI×List (List ((Int×Int)×Int))) (p:AutT) (T:List LI) (n:Nat):Prop where
 right:Right p n
 pos:1≤n
 le:n≤4000
 tl:T.length=n
 nd:T.Nodup
 inT:∀t∈T,InT l t
 t0:∃t,T[0]? =some t∧yy m=some (t,true)
 ev:p.1=m.2.1
 sn:∀x∈p.2.2.2,∃(a q:Nat) (t r:LI),x.1=(a:Int)∧x.2.2=(q:Int)∧T[a]? =some t∧T[q]? =some r∧mst m t x.2.1=some r
 ed:∀(a:Nat) (t:LI) (e:Int) (r:LI),T[a]? =some t→e∈p.1→mst m t e=some r→∃q:Nat,((a:Int),e,(q:Int))∈p.2.2.2∧T[q]? =some r
 num:Num (edsOf p) n
 mkd:∀(a:Nat) (t:LI),T[a]? =some t→∃b,yJ m t=some b∧(b=true↔(a:Int)∈p.2.2.1)
theorem yji(h:LOkB B l):∃m p T n,y5q l=some m∧MOk l m∧yx l=some (p,T,0)∧PrdZ l m p T n:=by
 obtain⟨m,hm,hM⟩:=yjc h;obtain⟨t0,ht0,hT0⟩:=yg3 h hM;have hal:=hM.ev.len;have hS0:SI l m.2.1 0 0 (kput ([]:Kno) (keyK t0) 0) [t0] []:=by
  refine⟨by simp,by simp,fun t ht=>?_,fun t ht=>?_,fun e he=>?_,fun x hx=>(by cases hx),fun x hx=>(by cases hx),yPn,by simp,fun k h0 h1=>?_⟩
  ·rw [yMs.1 ht];exact hT0
  ·rw [yMs.1 ht];exact yeO
  ·rcases yaD he with he|he
   ·cases he
   ·rw [he];simp
  ·simp at h1;omega
 have hZ0:SZ m 0 0 (kput ([]:Kno) (keyK t0) 0) [t0] []:=by
  refine⟨fun e he=>?_,fun x hx=>(by cases hx),fun a b t e r hab=>by omega,fun k h0 h1=>by simp at h1;omega,fun n hn=>by simp at hn,fun n hn=>by simp at hn⟩;rcases yaD he with he|he
  ·cases he
  ·rw [he];exact⟨0,t0,rfl,rfl,rfl⟩
 obtain⟨o,h1,h2⟩:=ye (f:=y3a m) (fun i s=>s.1=(i:Int)∧i≤s.2.2.1.length∧SI l m.2.1 i 0 s.2.1 s.2.2.1 s.2.2.2.2∧SZ m i 0 s.2.1 s.2.2.1 s.2.2.2.2∧Inc s.2.2.2.1∧(∀x∈s.2.2.2.1,0≤x∧x<(i:Int))∧s.2.2.1[0]? =some t0∧∀(a:Nat) (t:LI),a<i→s.2.2.1[a]? =some t→∃b,yJ m t=some b∧(b=true↔(a:Int)∈s.2.2.2.1)) (fun o=>∃T M E,o= .inl (T,M,E)∧∃kn,SI l m.2.1 T.length 0 kn T E∧SZ m T.length 0 kn T E∧Inc M∧(∀x∈M,0≤x∧x<(T.length:Int))∧T[0]? =some t0∧∀(a:Nat) (t:LI),T[a]? =some t→∃b,yJ m t=some b∧(b=true↔(a:Int)∈M)) 4000 0 (by omega) (fun i s _ ⟨e1,hle,hS,hZ,hi1,hi2,ht,hmk⟩=>by
   obtain⟨k,kn,T,M,E⟩:=s;dsimp only at e1 hle hS hZ hi1 hi2 ht hmk;subst e1;have hTl:=y9J h hS.nd hS.inT;by_cases hi:i<T.length
   ·left;obtain⟨b,hb⟩:=yhb h hM (hS.inT _ (yGm hi));obtain⟨kn',T',E',g1,g2,g3,g4,U,hU⟩:=yjh h hM (kn,T,M,E) hS hZ hi;have hj:∀M',y2Z m ((i:Int),kn,T,M,E) M'=some (.inl (((i+1:Nat):Int),kn',T',M',E')):=fun M'=>by
     rw [y2Z];dsimp only;rw [g1,yOb];dsimp only;rw [nxt (by omega)]
    have hTT:∀a,a<T.length→T'[a]? =T[a]? :=fun a ha=>by rw [hU,yAl ha]
    have ht':T'[0]? =some t0:=by rw [hTT 0 (by omega)];exact ht
    have hmk':∀M':LI,(∀x:Int,x≠(i:Int)→(x∈M'↔x∈M))→(b=true↔(i:Int)∈M')→∀(a:Nat) (t:LI),a<i+1→T'[a]? =some t→∃b,yJ m t=some b∧(b=true↔(a:Int)∈M'):=fun M' hM1 hM2 a t ha hat=>by
     rw [hTT a (by omega)] at hat;by_cases e:a=i
     ·subst e;rw [yGe hi] at hat;cases hat;exact⟨b,hb,hM2⟩
     ·obtain ⟨b',q1,q2⟩:=hmk a t (by omega) hat;exact⟨b',q1,by rw [q2,hM1 _ (by omega)]⟩
    rw [y3a];dsimp only;rw [iP (ct_lt hi),yb hi,yOb,hb,yOb];cases hbv:b with
    | false=>
     rw [iN (by simp),hj];exact⟨_,rfl,rfl,by dsimp only;omega,g2,g3,hi1,fun x hx=>by have:=hi2 x hx;omega,ht',hmk' M (fun x _=>Iff.rfl) ⟨fun e=>(by rw [hbv] at e;cases e),fun hx=>by have:=hi2 _ hx;omega⟩⟩
    | true=>
     have hMl:=y4p (n:=i) (lo:=0) hi1 hi2 (Int.le_refl _);rw [iP rfl,yg (by simp;omega),yOb,hj];refine⟨_,rfl,rfl,by dsimp only;omega,g2,g3,?_,fun x hx=>?_,ht',hmk' (M++[(i:Int)]) (fun x hx=>?_) ⟨fun _=>yMr _ (yMs.2 rfl),fun _=>hbv⟩⟩
     ·dsimp only;unfold Inc at hi1 ⊢;rw [List.pairwise_append];exact⟨hi1,List.pairwise_singleton _ _,fun a ha b hb=>by rw [yMs.1 hb];exact(hi2 a ha).2⟩
     ·dsimp only at hx;rcases yMa.1 hx with hx|hx
      ·have:=hi2 x hx;omega
      ·rw [yMs.1 hx];omega
     ·rw [yMa,yMs];exact⟨fun h=>h.resolve_right hx,.inl⟩
   ·right;obtain rfl:i=T.length:=by omega
    refine⟨.inl (T,M,E),?_,T,M,E,rfl,kn,hS,hZ,hi1,hi2,ht,fun a t hat=>hmk a t (yGs.1 hat).1 hat⟩;rw [y3a];dsimp only;rw [iN ct_ge]) (fun s ⟨e1,hle,hS,hZ,hi1,hi2,ht,hmk⟩=>by
   obtain⟨k,kn,T,M,E⟩:=s;dsimp only at e1 hle hS hZ hi1 hi2 ht hmk;subst e1;have hTl:=y9J h hS.nd hS.inT;have hT:4000=T.length:=by omega
   refine⟨.inl (T,M,E),?_,T,M,E,rfl,kn,by rw [←hT];exact hS,by rw [←hT];exact hZ,hi1,by rw [←hT];exact hi2,ht,fun a t hat=>hmk a t (by have:=(yGs.1 hat).1;omega) hat⟩;rw [y3a];dsimp only;rw [hT,iN ct_ge]) (yZl _) (0,kput ([]:Kno) (keyK t0) 0,[t0],[],[]) ⟨rfl,by simp,hS0,hZ0,yPn,fun x hx=>(by cases hx),rfl,fun a t ha=>by omega⟩
 obtain⟨T,M,E,rfl,kn,hS,hZ,hi1,hi2,ht,hmk⟩:=h2;have hTl:=y9J h hS.nd hS.inT;have hR:Right (m.2.1,(T.length:Int),M,E) T.length:=by
  refine⟨rfl,by omega,hM.ev.1,hM.ev.2,hi1,hi2,fun x hx=>?_,hS.so,by dsimp only;omega,?_,?_⟩
  ·have:=hS.er x hx;have h3:=hS.es x hx;refine⟨this.1,?_,this.2.2⟩;rcases Int.lt_or_le x.1 (T.length:Int) with h4|h4
   ·exact h4
   ·exact absurd (h3 (by omega)) (by simp)
  ·have:=y4p (n:=T.length) (lo:=0) hi1 hi2 (Int.le_refl _);dsimp only;omega
  ·have:=hS.el;dsimp only;omega
 have hel:(edsOf (m.2.1,(T.length:Int),M,E)).length=E.length:=yLm _;have hee:∀n (hn:n<(edsOf (m.2.1,(T.length:Int),M,E)).length) (hn':n<E.length),(edsOf (m.2.1,(T.length:Int),M,E))[n]=toEd E[n]:=fun n hn hn'=>by simp [edsOf]
 refine⟨m,(m.2.1,(T.length:Int),M,E),T,T.length,hm,hM,?_,hR,hS.pos,hTl,rfl,hS.nd,hS.inT,⟨t0,ht,ht0⟩,rfl,hZ.sn,fun a t e r ha he hst=>?_,⟨?_,fun x hx=>?_,fun k h0 h1=>?_,fun n hn k h0 h1=>?_,fun n hn hf=>?_⟩,hmk⟩
 ·rw [yx,yha h,yOb,iN (by simp),hm,yOb,ht0,yOb,iN (by simp)];dsimp only;rw [ygI h hT0,yOb,h1];rfl
 ·obtain ⟨b,hb,hbe⟩:=yGo he;exact hZ.ed a b t e r (.inl (yGs.1 ha).1) ha (by rw [yGe hb,hbe]) hst
 ·have:=hR.sorted;exact this
 ·have h3:=hR.ein x hx;have h4:=hR.evs x hx;exact⟨h3.1,h3.2.1,h3.2.2.1,h3.2.2.2,h4.1,h4.2⟩
 ·obtain ⟨x,hx,h3⟩:=hZ.cov k h0 h1;exact⟨toEd x,List.mem_map_of_mem hx,h3⟩
 ·have hn':n<E.length:=by omega
  rw [hee n hn hn'] at h1;obtain⟨p,hp,h3,h4⟩:=hZ.ear n hn' k h0 h1;exact⟨p,by omega,h3,by rw [hee p (by omega) hp];exact h4⟩
 ·have hn':n<E.length:=by omega
  rw [hee n hn hn'];refine hZ.fst n hn' fun p hp hpn=>?_;have:=hf p (by omega) hpn;rw [hee p (by omega) hp,hee n hn hn'] at this;exact this
def mg(kp:Bool→Bool→Bool):LI→LI→LI
 | [],[]=> []
 | [],b::vs=>if kp false true=true then b::mg kp [] vs else mg kp [] vs
 | a::us,[]=>if kp true false=true then a::mg kp us [] else mg kp us []
 | a::us,b::vs=>if a<b then(if kp true false=true then a::mg kp us (b::vs) else mg kp us (b::vs)) else if b<a then(if kp false true=true then b::mg kp (a::us) vs else mg kp (a::us) vs) else(if kp true true=true then b::mg kp us vs else mg kp us vs)
termination_by us vs=>us.length+vs.length
theorem ybv{kp:Bool→Bool→Bool}{h:Int}{us' vs':LI}{bu bv:Bool}(hr:Inc r∧∀x,x∈r↔((x∈us'∨x∈vs')∧kp (hasB us' x) (hasB vs' x)=true))
  (hu:∀x,x∈us↔(x=h∧bu=true)∨x∈us') (hv:∀x,x∈vs↔(x=h∧bv=true)∨x∈vs') (gu:∀x∈us',h<x) (gv:∀x∈vs',h<x) (hb:bu=true∨bv=true):
  Inc (if kp bu bv=true then h::r else r)∧∀x,x∈(if kp bu bv=true then h::r else r)↔((x∈us∨x∈vs)∧kp (hasB us x) (hasB vs x)=true):=by
 have e1:hasB us h=bu:=by
  rw [Bool.eq_iff_iff,ya,hu];exact⟨fun e=>e.elim (fun e=>e.2) (fun e=>by have:=gu _ e;omega),fun e=> .inl ⟨rfl,e⟩⟩
 have e2:hasB vs h=bv:=by
  rw [Bool.eq_iff_iff,ya,hv];exact⟨fun e=>e.elim (fun e=>e.2) (fun e=>by have:=gv _ e;omega),fun e=> .inl ⟨rfl,e⟩⟩
 have e3:∀x,x≠h→hasB us x=hasB us' x:=fun x hx=>by
  rw [Bool.eq_iff_iff,ya,ya,hu];exact⟨fun e=>e.elim (fun e=>absurd e.1 hx) id,.inr⟩
 have e4:∀x,x≠h→hasB vs x=hasB vs' x:=fun x hx=>by
  rw [Bool.eq_iff_iff,ya,ya,hv];exact⟨fun e=>e.elim (fun e=>absurd e.1 hx) id,.inr⟩
 have hgt:∀x∈r,h<x:=fun x hx=>((hr.2 x).1 hx).1.elim (gu x) (gv x);have hne:∀x,x≠h→(x∈r↔((x∈us∨x∈vs)∧kp (hasB us x) (hasB vs x)=true)):=fun x hx=>by
  rw [hr.2 x,e3 x hx,e4 x hx,hu,hv];constructor
  ·rintro ⟨h1|h1,h2⟩
   ·exact ⟨.inl (.inr h1),h2⟩
   ·exact ⟨.inr (.inr h1),h2⟩
  ·rintro ⟨(h1|h1)|(h1|h1),h2⟩
   ·exact absurd h1.1 hx
   ·exact ⟨.inl h1,h2⟩
   ·exact absurd h1.1 hx
   ·exact ⟨.inr h1,h2⟩
 have hh:(h∈us∨h∈vs):=hb.elim (fun e=> .inl ((hu h).2 (.inl ⟨rfl,e⟩))) (fun e=> .inr ((hv h).2 (.inl ⟨rfl,e⟩)));cases hk:kp bu bv with
 | true=>
  rw [iP rfl];refine⟨yPc.2 ⟨hgt,hr.1⟩,fun x=>?_⟩;rw [yMo];by_cases hx:x=h
  ·subst hx;exact⟨fun _=>⟨hh,by rw [e1,e2,hk]⟩,fun _=> .inl rfl⟩
  ·rw [←hne x hx];exact⟨fun e=>e.resolve_left hx,.inr⟩
 | false=>
  rw [iN (by simp)];refine⟨hr.1,fun x=>?_⟩;by_cases hx:x=h
  ·subst hx;refine⟨fun e=>absurd (hgt x e) (by omega),fun e=>?_⟩;rw [e1,e2,hk] at e;cases e.2
  ·exact hne x hx
theorem y5t(kp:Bool→Bool→Bool):∀(us vs:LI),Inc us→Inc vs→Inc (mg kp us vs)∧∀x,x∈mg kp us vs↔((x∈us∨x∈vs)∧kp (hasB us x) (hasB vs x)=true)
 | [],[],_,_=>by
  rw [mg];exact⟨yPn,fun x=>⟨fun h=>(by cases h),fun h=>(by rcases h.1 with h|h <;> cases h)⟩⟩
 | [],b::vs,_,hv=>by
  obtain⟨v1,v2⟩:=yPc.1 hv;rw [mg];exact ybv (bu:=false) (bv:=true) (y5t kp [] vs yPn v2) (fun x=>by simp) (fun x=>by simp) (fun x hx=>by cases hx) v1 (.inr rfl)
 | a::us,[],hu,_=>by
  obtain⟨u1,u2⟩:=yPc.1 hu;rw [mg];exact ybv (bu:=true) (bv:=false) (y5t kp us [] u2 yPn) (fun x=>by simp) (fun x=>by simp) u1 (fun x hx=>by cases hx) (.inl rfl)
 | a::us,b::vs,hu,hv=>by
  obtain⟨u1,u2⟩:=yPc.1 hu;obtain⟨v1,v2⟩:=yPc.1 hv;rw [mg];by_cases h1:a<b
  ·rw [iP h1];refine ybv (bu:=true) (bv:=false) (y5t kp us (b::vs) u2 hv) (fun x=>by simp) (fun x=>by simp) u1 (fun x hx=>?_) (.inl rfl);rcases yMo.1 hx with rfl|hx
   ·exact h1
   ·have:=v1 x hx;omega
  ·rw [iN h1];by_cases h2:b<a
   ·rw [iP h2];refine ybv (bu:=false) (bv:=true) (y5t kp (a::us) vs hu v2) (fun x=>by simp) (fun x=>by simp) (fun x hx=>?_) v1 (.inr rfl);rcases yMo.1 hx with rfl|hx
    ·exact h2
    ·have:=u1 x hx;omega
   ·obtain rfl:a=b:=by omega
    rw [iN h2];exact ybv (bu:=true) (bv:=true) (y5t kp us vs u2 v2) (fun x=>by simp) (fun x=>by simp) u1 v1 (.inl rfl)
termination_by us vs=>us.length+vs.length
theorem yhc{kp:Bool→Bool→Bool}{f:Bool→Bool→Option Bool}(hf:∀a b,f a b=some (kp a b)){out:LI}(hl:out.length≤4000000)(hne:0<us.length+vs.length):
  ∃o u v,yh f (out,us,vs)=some (.inl (o,u,v))∧o++mg kp u v=out++mg kp us vs∧o.length≤out.length+1∧u.length+v.length+1≤us.length+vs.length:=by
 have ho:∀a:Int,app out ([a]:LI)=some (out++[a]):=fun a=>yg (by simp;omega);have fin:∀(bu bv:Bool) (h:Int) (u v:LI),∃o,yp f (out,us,vs) bu bv u v h=some (.inl (o,u,v))∧o++mg kp u v=out++(if kp bu bv=true then h::mg kp u v else mg kp u v)∧o.length≤out.length+1:=fun bu bv h u v=>by
  rw [yp,hf,yOb];dsimp only;cases kp bu bv with
  | true=>rw [iP rfl,ho,yOb];exact⟨_,rfl,by simp,by simp⟩
  | false=>rw [iN (by simp)];exact⟨_,rfl,by simp,by omega⟩
 cases us with
 | nil=>
  cases vs with
  | nil=>simp at hne
  | cons b vs=>
   obtain⟨o,h1,h2,h3⟩:=fin false true b [] vs;refine⟨o,[],vs,?_,by rw [h2,mg],h3,by simp⟩;rw [yh];dsimp only;rw [iP (by simp),iN (by simp),yt];dsimp only;rw [iP (by simp),iP (by simp),ym,iN (by simp),yk,iP rfl];dsimp only;rw [y1u,yOb,y5m,yOb];exact h1
 | cons a us=>
  cases vs with
  | nil=>
   obtain⟨o,h1,h2,h3⟩:=fin true false a us [];refine⟨o,us,[],?_,by rw [h2,mg],h3,by simp⟩;rw [yh];dsimp only;rw [iP (by simp),iP (by simp),iP (by simp),yt];dsimp only;rw [iN (by simp),ym,iP rfl];dsimp only;rw [y1u,yOb,y5m,yOb,yk,iN (by simp)];exact h1
  | cons b vs=>
   have e0:yh f (out,a::us,b::vs)=ym f (out,a::us,b::vs) (decide (a≤b)) (decide (b≤a)):=by
    rw [yh];dsimp only;rw [iP (by simp),iP (by simp),iN (by simp;omega),y1u,yOb,y1u,yOb,yt];dsimp only;rw [iP (by simp),iN (by simp;omega),y1u,yOb,y1u,yOb]
   rw [e0,ym];dsimp only;by_cases h1:a<b
   ·obtain ⟨o,g1,g2,g3⟩:=fin true false a us (b::vs);refine⟨o,us,b::vs,?_,by rw [g2,mg,iP h1],g3,by simp;omega⟩;rw [show decide (a≤b)=true by simp;omega,show decide (b≤a)=false by simp;omega,iP rfl,y1u,yOb,y5m,yOb,yk,iN (by simp)];exact g1
   ·by_cases h2:b<a
    ·obtain ⟨o,g1,g2,g3⟩:=fin false true b (a::us) vs;refine⟨o,a::us,vs,?_,by rw [g2,mg,iN h1,iP h2],g3,by simp;omega⟩;rw [show decide (a≤b)=false by simp;omega,show decide (b≤a)=true by simp;omega,iN (by simp),yk,iP rfl];dsimp only;rw [y1u,yOb,y5m,yOb];exact g1
    ·obtain ⟨o,g1,g2,g3⟩:=fin true true b us vs;refine⟨o,us,vs,?_,by rw [g2,mg,iN h1,iN h2],g3,by simp;omega⟩;rw [show decide (a≤b)=true by simp;omega,show decide (b≤a)=true by simp;omega,iP rfl,y1u,yOb,y5m,yOb,yk,iP rfl];dsimp only;rw [y1u,yOb,y5m,yOb];exact g1
theorem ydp{kp:Bool→Bool→Bool}{f:Bool→Bool→Option Bool}(hf:∀a b,f a b=some (kp a b))(hu:us.length≤1000000)(hv:vs.length≤1000000):y2V us vs f=some (mg kp us vs):=by
 obtain⟨o,h1,h2⟩:=ye (f:=yh f) (fun i s=>s.1++mg kp s.2.1 s.2.2=mg kp us vs∧s.1.length≤i∧s.2.1.length+s.2.2.length+i≤us.length+vs.length) (fun o=>o=mg kp us vs) (us.length+vs.length) 0 (by omega) (fun i s hi ⟨g1,g0,g2⟩=>by
   obtain⟨out,u,v⟩:=s;dsimp only at g1 g0 g2;by_cases hne:0<u.length+v.length
   ·obtain ⟨o,u',v',e,g3,g5,g4⟩:=yhc hf (out:=out) (by omega) hne;exact .inl ⟨_,e,by rw [←g1];exact g3,by dsimp only;omega,by dsimp only;omega⟩
   ·have e1:u= []:=yLz (by omega);have e2:v= []:=yLz (by omega);subst e1;subst e2;rw [mg,List.append_nil] at g1;exact .inr ⟨out,rfl,g1⟩) (fun s ⟨g1,g0,g2⟩=>by
   obtain⟨out,u,v⟩:=s;dsimp only at g1 g2;have e1:u= []:=yLz (by omega);have e2:v= []:=yLz (by omega);subst e1;subst e2;rw [mg,List.append_nil] at g1;exact⟨out,rfl,g1⟩) (yZl _) ([],us,vs) ⟨rfl,by simp,by dsimp only;omega⟩
 rw [y2V,h1,h2];rfl
theorem yeQ(hu:us.length≤1000000)(hv:vs.length≤1000000):y5o us vs=some (mg (fun a b=>a||b) us vs):=by
 rw [y5o,ydp (f:=yA) (kp:=fun a b=>a||b) (fun a b=>rfl) hu hv];rfl
def st1(a:AutT)(s e:Int):Option Int:=(a.2.2.2.find? fun x=>x.1==s&&x.2.1==e).map fun x=>x.2.2
theorem y7l{a:AutT}{n:Nat}(hr:Right a n){s t:Int}:st1 a s e=some t↔(s,e,t)∈a.2.2.2:=by
 unfold st1;rw [Option.map_eq_some_iff];constructor
 ·rintro ⟨x,h1,rfl⟩;have h2:=List.find?_some h1;have h3:=List.mem_of_find?_eq_some h1;simp only [yAe,beq_iff_eq] at h2;obtain⟨rfl,rfl⟩:=h2;exact h3
 ·intro h;cases hf:a.2.2.2.find? fun x=>x.1==s&&x.2.1==e with
  | none=>exact absurd (List.find?_eq_none.1 hf _ h) (by simp)
  | some x=>
   refine⟨x,rfl,?_⟩;have h2:=List.find?_some hf;have h3:=List.mem_of_find?_eq_some hf;simp only [yAe,beq_iff_eq] at h2;obtain⟨i,hi,e1⟩:=yGo h;obtain⟨j,hj,e2⟩:=yGo h3;rcases Nat.lt_trichotomy i j with hij|hij|hij
   ·have:=yPg.1 hr.so i j hi hj hij;rw [e1,e2] at this;dsimp only at this;omega
   ·subst hij;rw [e1] at e2;rw [←e2]
   ·have:=yPg.1 hr.so j i hj hi hij;rw [e1,e2] at this;dsimp only at this;omega
theorem y6a{a:AutT}{n:Nat}(hr:Right a n){s t:Int}(h:st1 a s e=some t):0≤s∧s<(n:Int)∧0≤t∧t<(n:Int)∧e∈a.1:=hr.es _ ((y7l hr).1 h)
theorem ygK{es:List (Int×Int×Int)}(so:es.Pairwise fun x y=>x.1<y.1∨(x.1=y.1∧x.2.1<y.2.1)){i:Nat}(hi:i<es.length)(q:Int×Int):
  ((es.take (i+1)).find? fun x=>x.1==q.1&&x.2.1==q.2).map (fun x=>x.2.2)=if q=(es[i].1,es[i].2.1) then some es[i].2.2 else((es.take i).find? fun x=>x.1==q.1&&x.2.1==q.2).map fun x=>x.2.2:=by
 rw [yTs hi,List.find?_append];by_cases h:q=(es[i].1,es[i].2.1)
 ·rw [iP h];have hn:(es.take i).find? (fun x=>x.1==q.1&&x.2.1==q.2)=none:=by
   rw [List.find?_eq_none];intro x hx hx2;simp only [yAe,beq_iff_eq] at hx2;obtain⟨k,hk,rfl⟩:=yGo hx;rw [yLt] at hk;rw [List.getElem_take,h] at hx2;have:=yPg.1 so k i (by omega) hi (by omega);omega
  rw [hn,Option.none_or,List.find?_cons_of_pos (by rw [h];simp)];rfl
 ·rw [iN h,List.find?_cons_of_neg (by
   intro hx;simp only [yAe,beq_iff_eq] at hx;exact h (by rw [hx.1,hx.2])),List.find?_nil,Option.or_none]
theorem yeR{a:AutT}{n:Nat}(hr:Right a n):∃o,iter (y1K a) (0,([]:List ((Int×Int)×Int)))=some o∧∀q:Int×Int,kget o q=st1 a q.1 q.2:=by
 have hl:=hr.l3;refine ye (f:=y1K a) (fun i s=>s.1=(i:Int)∧∀q:Int×Int,kget s.2 q=((a.2.2.2.take i).find? fun x=>x.1==q.1&&x.2.1==q.2).map fun x=>x.2.2) (fun o=>∀q:Int×Int,kget o q=st1 a q.1 q.2) a.2.2.2.length 0 (by omega) (fun i s hi ⟨e1,g1⟩=>?_) (fun s ⟨e1,g1⟩=>?_) (yZl _) _ ⟨rfl,fun q=>rfl⟩
 ·obtain ⟨k,out⟩:=s;dsimp only at e1 g1;subst e1;refine .inl ⟨(((i+1:Nat):Int),kput out (a.2.2.2[i].1,a.2.2.2[i].2.1) a.2.2.2[i].2.2),?_,rfl,fun q=>?_⟩
  ·rw [y1K];dsimp only;rw [iP (ct_lt hi),yb hi,yOb,nxt (by omega)]
  ·dsimp only;rw [y3D,ygK hr.so hi,g1]
 ·obtain ⟨k,out⟩:=s;dsimp only at e1 g1;subst e1;rw [List.take_length] at g1;refine⟨out,?_,g1⟩;rw [y1K];dsimp only;rw [iN ct_ge]
theorem yhd(hP:Alp P.1)(hS:Alp S.1):y5p [P,S]=some (mg (fun a b=>a||b) P.1 S.1):=by
 have l1:=hP.len;have l2:=hS.len;have h0:mg (fun a b=>a||b) [] P.1=P.1:=by
  have h:=y5t (fun a b=>a||b) [] P.1 yPn hP.1;refine yaf (lt:=fun a b:Int=>a<b) (fun a b h1 h2=>by omega) h.1 hP.1 fun x=>?_;rw [h.2];constructor
  ·rintro ⟨h1|h1,_⟩
   ·cases h1
   ·exact h1
  ·intro h1;refine⟨.inr h1,?_⟩;rw [ya.2 h1];simp
 have h:iter (y1I [P,S]) (0,[])=some (mg (fun a b=>a||b) P.1 S.1):=by
  refine y3r (n:=3) (by omega) ?_;rw [yc,y1I];dsimp only;rw [iP (by simp),show idx [P,S] 0=some P from rfl,yOb,yeQ (by simp) (by omega),yOb,h0];dsimp only;rw [yc,y1I];dsimp only;rw [show W (0+1)=1 from rfl,iP (by simp),show idx [P,S] 1=some S from rfl,yOb,yeQ (by omega) (by omega),yOb];dsimp only;rw [yc,y1I];dsimp only;rw [show W (1+1)=2 from rfl,iN (by simp)]
 rw [y5p,h];rfl
theorem yfF(hP:Right P n1)(hS:Right S n2):∃o1 o2,y5q [P,S]=some ([P,S],mg (fun a b=>a||b) P.1 S.1,[o1,o2])∧(∀q:Int×Int,kget o1 q=st1 P q.1 q.2)∧∀q:Int×Int,kget o2 q=st1 S q.1 q.2:=by
 obtain⟨o1,h1,g1⟩:=yeR hP;obtain⟨o2,h2,g2⟩:=yeR hS;refine⟨o1,o2,?_,g1,g2⟩;have h:iter (y2B [P,S]) (0,[])=some [o1,o2]:=by
  refine y3r (n:=3) (by omega) ?_;rw [yc,y2B];dsimp only;rw [iP (by simp),show idx [P,S] 0=some P from rfl,yOb,h1,yOb,yg (by simp),yOb];dsimp only;rw [yc,y2B];dsimp only;rw [show W (0+1)=1 from rfl,iP (by simp),show idx [P,S] 1=some S from rfl,yOb,h2,yOb,yg (by simp),yOb];dsimp only;rw [yc,y2B];dsimp only;rw [show W (1+1)=2 from rfl,iN (by simp)];rfl
 rw [y5q,yhd ⟨hP.ali,hP.alr⟩ ⟨hS.ali,hS.alr⟩,yOb,h];rfl
def pst(P S:AutT)(x y e:Int):Option (Int×Int):=(if hasB P.1 e=true then st1 P x e else some x).bind fun x'=>(if hasB S.1 e=true then st1 S y e else some y).map fun y'=>(x',y')
theorem ykq(hP:Right P n1)(hS:Right S n2){ev:LI}{o1 o2:List ((Int×Int)×Int)}(g1:∀q:Int×Int,kget o1 q=st1 P q.1 q.2)(g2:∀q:Int×Int,kget o2 q=st1 S q.1 q.2)(x y e:Int):
  yY ([P,S],ev,[o1,o2]) [x,y] e=some (match pst P S x y e with
   | some u=>([u.1,u.2],true)
   | none=>([],false)):=by
 have l1:=hP.l1;have l2:=hS.l1;have f0:yn ([P,S],ev,[o1,o2]) [x,y] e (0,[x,y])=some (match (if hasB P.1 e=true then st1 P x e else some x) with
   | some x'=> .inl (1,[x',y])
   | none=> .inr (.inr ())):=by
  rw [yn];dsimp only;rw [iP (by simp),show idx [P,S] 0=some P from rfl,yOb,y2v (by omega) hP.ali,yOb];cases hb:hasB P.1 e with
  | false=>
   rw [iP (by simp),yz,iN (by simp)];rfl
  | true=>
   rw [iN (by simp),show idx [o1,o2] 0=some o1 from rfl,yOb,show idx [x,y] 0=some x from rfl,yOb,g1,iP rfl];dsimp only;cases st1 P x e with
   | none=>rw [iP (by simp)]
   | some v=>
    rw [iN (by simp),yOb,show upd [x,y] 0 ((some v).getD 0)=some [v,y] from rfl,yOb,yz];rfl
 have f1:∀x',yn ([P,S],ev,[o1,o2]) [x,y] e (1,[x',y])=some (match (if hasB S.1 e=true then st1 S y e else some y) with
   | some y'=> .inl (2,[x',y'])
   | none=> .inr (.inr ())):=fun x'=>by
  rw [yn];dsimp only;rw [iP (by simp),show idx [P,S] 1=some S from rfl,yOb,y2v (by omega) hS.ali,yOb];cases hb:hasB S.1 e with
  | false=>
   rw [iP (by simp),yz,iN (by simp)];rfl
  | true=>
   rw [iN (by simp),show idx [o1,o2] 1=some o2 from rfl,yOb,show idx [x,y] 1=some y from rfl,yOb,g2,iP rfl];dsimp only;cases st1 S y e with
   | none=>rw [iP (by simp)]
   | some v=>
    rw [iN (by simp),show idx [x',y] 1=some y from rfl,yOb,show upd [x',y] 1 ((some v).getD 0)=some [x',v] from rfl,yOb,yz];rfl
 have f2:∀u,yn ([P,S],ev,[o1,o2]) [x,y] e (2,u)=some (.inr (.inl u)):=fun u=>by
  rw [yn];dsimp only;rw [iN (by simp)]
 have h:iter (yn ([P,S],ev,[o1,o2]) [x,y] e) (0,[x,y])=some (match pst P S x y e with
   | some u=> .inl [u.1,u.2]
   | none=> .inr ()):=by
  refine y3r (n:=3) (by omega) ?_;rw [yc,f0];unfold pst;cases (if hasB P.1 e=true then st1 P x e else some x) with
  | none=>rfl
  | some x'=>
   dsimp only;rw [yc,f1,yOb];cases (if hasB S.1 e=true then st1 S y e else some y) with
   | none=>rfl
   | some y'=>
    dsimp only;rw [yc,f2];rfl
 rw [yY,y7H (by simp),yOb,h,yOb];cases pst P S x y e <;> rfl
structure Loop (P S p:AutT) (T:List LI) (n:Nat):Prop where
 right:Right p n
 pos:1≤n
 le:n≤4000
 tl:T.length=n
 nd:T.Nodup
 tt:∀t∈T,∃x y,t= [x,y]∧0≤x∧x<P.2.1∧0≤y∧y<S.2.1
 t0:T[0]? =some [0,0]
 ev:∀e,e∈p.1↔e∈P.1∨e∈S.1
 no:∀(a:Nat) (x y e:Int),T[a]? =some [x,y]→e∈p.1→pst P S x y e=none→st1 p (a:Int) e=none
 yes:∀(a:Nat) (x y e x' y':Int),T[a]? =some [x,y]→e∈p.1→pst P S x y e=some (x',y')→∃q:Nat,st1 p (a:Int) e=some (q:Int)∧T[q]? =some [x',y']
 num:Num (edsOf p) n
theorem ykr(hP:Right P n1)(hS:Right S n2){ev:LI}{o1 o2:List ((Int×Int)×Int)}(g1:∀q:Int×Int,kget o1 q=st1 P q.1 q.2)(g2:∀q:Int×Int,kget o2 q=st1 S q.1 q.2)(x y e:Int):
  mst ([P,S],ev,[o1,o2]) [x,y] e=(pst P S x y e).map fun u=> [u.1,u.2]:=by
 unfold mst;rw [ykq hP hS g1 g2];cases pst P S x y e <;> rfl
theorem yks(hP:Right P n1)(hS:Right S n2)(p1:1≤n1)(p2:1≤n2)(b1:n1≤B)(b2:n2≤B)(hB:B≤99)(hBB:B*B≤4000):∃p T n,yx [P,S]=some (p,T,0)∧Loop P S p T n:=by
 have hL:LOkB B [P,S]:=⟨by simp,fun a ha=>by
  rcases yMo.1 ha with rfl|ha
  ·exact ⟨n1,p1,b1,hP⟩
  ·rw [yMs.1 ha];exact⟨n2,p2,b2,hS⟩,hB,by
  show B ^ 2≤4000;rw [Nat.pow_two];exact hBB⟩
 obtain⟨m,p,T,n,h1,h2,h3,h⟩:=yji hL;obtain⟨o1,o2,e1,g1,g2⟩:=yfF hP hS;rw [h1] at e1;obtain rfl:=ySi e1;have htt:∀t∈T,∃x y,t= [x,y]∧0≤x∧x<P.2.1∧0≤y∧y<S.2.1:=fun t ht=>by
  obtain⟨hl,hr⟩:=h.inT t ht
  match t,hl,hr with
  | [x,y],_,hr=>
   have q1:=hr 0 (by simp) (by simp);have q2:=hr 1 (by simp) (by simp);exact⟨x,y,rfl,q1.1,q1.2,q2.1,q2.2⟩
 have hms:=ykr hP hS (ev:=mg (fun a b=>a||b) P.1 S.1) g1 g2;have hev:p.1=mg (fun a b=>a||b) P.1 S.1:=h.ev;refine⟨p,T,n,h3,h.right,h.pos,h.le,h.tl,h.nd,htt,?_,fun e=>?_,fun a x y e ha he hp=>?_,fun a x y e x' y' ha he hp=>?_,h.num⟩
 ·obtain ⟨t,q1,q2⟩:=h.t0;rw [q1];have hin:yy ([P,S],mg (fun a b=>a||b) P.1 S.1,[o1,o2])=some ([0,0],true):=by
   have hi:iter (yl ([P,S],mg (fun a b=>a||b) P.1 S.1,[o1,o2])) 0=some (.inl ()):=by
    refine y3r (n:=3) (by omega) ?_;rw [yc,yl];dsimp only;rw [iP (by simp),show idx [P,S] 0=some P from rfl,yOb,hP.nn,iN (by simp;omega)];dsimp only;rw [yc,yl];dsimp only;rw [show W (0+1)=1 from rfl,iP (by simp),show idx [P,S] 1=some S from rfl,yOb,hS.nn,iN (by simp;omega)];dsimp only;rw [yc,yl];dsimp only;rw [show W (1+1)=2 from rfl,iN (by simp)]
   rw [yy,hi,yOb];dsimp only;rw [y8R (by simp) (by simp),yOb];rfl
  rw [hin] at q2;cases q2;rfl
 ·have hsp:=y5t (fun a b=>a||b) P.1 S.1 hP.ali hS.ali;rw [hev,hsp.2];constructor
  ·exact fun q=>q.1
  ·intro q;refine⟨q,?_⟩;rcases q with q|q
   ·rw [ya.2 q];rfl
   ·rw [ya.2 q];simp
 ·cases hs:st1 p (a:Int) e with
  | none=>rfl
  | some t=>
   obtain⟨a',q,u,r,k1,k2,k3,k4,k5⟩:=h.sn _ ((y7l h.right).1 hs);dsimp only at k1 k2 k5;have:a'=a:=by omega
   subst this;rw [ha] at k3;cases k3;rw [hms,hp] at k5;cases k5
 ·have hm:mst ([P,S],mg (fun a b=>a||b) P.1 S.1,[o1,o2]) [x,y] e=some [x',y']:=by rw [hms,hp];rfl
  obtain⟨q,k1,k2⟩:=h.ed a [x,y] e [x',y'] ha he hm;exact⟨q,(y7l h.right).2 k1,k2⟩
theorem yb2{n:Int}{xs:LI}(h:yv n none xs=0):Inc xs∧∀x∈xs,0≤x∧x<n:=by
 have key:∀(xs:LI) (p:Option Int),yv n p xs=0→Inc xs∧(∀x∈xs,0≤x∧x<n)∧∀q,p=some q→∀x∈xs,q<x:=by
  intro xs
  induction xs with
  | nil=>intro p _;exact⟨yPn,fun x hx=>(by cases hx),fun q _ x hx=>(by cases hx)⟩
  | cons y xs ih=>
   intro p h;rw [yv] at h;split at h
   ·cases h
   ·rename_i h1;split at h
    ·cases h
    ·rename_i h2;obtain⟨g1,g2,g3⟩:=ih _ h;refine⟨yPc.2 ⟨fun z hz=>g3 y rfl z hz,g1⟩,fun x hx=>?_,fun q hq x hx=>?_⟩
     ·rcases yMo.1 hx with rfl|hx
      ·omega
      ·exact g2 x hx
     ·have hqy:q<y:=by
       have:¬y≤q:=fun hc=>h2 ⟨q,hq,hc⟩;omega
      rcases yMo.1 hx with rfl|hx
      ·exact hqy
      ·have:=g3 y rfl x hx;omega
 exact⟨(key xs none h).1,(key xs none h).2.1⟩
theorem yhe{a:Aut}(h:a.err=0):yv 32 none a.al=0∧0≤a.n∧a.n≤4096∧yv a.n none a.ms=0∧edErr a.al a.n none a.es=0:=by
 unfold Aut.err at h;split at h
 ·rename_i h1;rw [h] at h1;exact absurd h1 (by decide)
 ·rename_i h1;split at h
  ·cases h
  ·split at h
   ·cases h
   ·split at h
    ·rename_i h4;rw [h] at h4;exact absurd h4 (by decide)
    ·rename_i h2 h3 h4;exact⟨by simpa using h1,by omega,by omega,by simpa using h4,h⟩
theorem ygL{al:LI}{n:Int}:∀(es:List Ed) (p:Option Ed),edErr al n p es=0→ydM es∧(∀q,p=some q→∀x∈es,edLt q x)∧∀x∈es,x.e∈al
 | [],_,_=>⟨yPn,fun _ _ x hx=>(by cases hx),fun x hx=>(by cases hx)⟩
 | y::es,p,h=>by
  rw [edErr] at h;split at h
  ·cases h
  ·split at h
   ·cases h
   ·rename_i h2;split at h
    ·cases h
    ·rename_i h3;obtain⟨g1,g2,g4⟩:=ygL es _ h;have g3:=g2 y rfl;refine⟨yPc.2 ⟨g3,g1⟩,fun q hq x hx=>?_,fun x hx=>?_⟩
     ·have hqy:edLt q y:=by
       have h4:¬(y.f<q.f∨(y.f=q.f∧y.e≤q.e)):=fun hc=>h3 ⟨q,hq,hc⟩;unfold edLt;omega
      rcases yMo.1 hx with rfl|hx
      ·exact hqy
      ·have h5:=g3 x hx;unfold edLt at hqy h5 ⊢;omega
     ·rcases yMo.1 hx with rfl|hx
      ·exact ya.1 (by simpa using h2)
      ·exact g4 x hx
theorem yeS{a:AutT}(h:(toAut a).err=0)(h1:a.1.length≤1000000)(h2:a.2.2.1.length≤1000000)(h3:a.2.2.2.length≤1000000):Right a a.2.1.toNat:=by
 obtain⟨g1,g2,g3,g4,g5⟩:=yhe h;have hok:=Aut.ok_of h;obtain⟨e1,_,e3⟩:=ygL _ _ g5;obtain⟨al1,al2⟩:=yb2 g1;obtain⟨ms1,ms2⟩:=yb2 g4;have hn:(toAut a).n=a.2.1:=rfl;rw [hn] at g2 g3;have hnn:((a.2.1.toNat:Nat):Int)=a.2.1:=Int.toNat_of_nonneg g2;refine⟨hnn.symm,by omega,al1,al2,ms1,fun x hx=>by rw [hnn];exact ms2 x hx,fun x hx=>?_,?_,h1,h2,h3⟩
 ·have:=hok.es (toEd x) (List.mem_map_of_mem hx);have h4:=e3 (toEd x) (List.mem_map_of_mem hx);rw [hnn];exact⟨this.1,this.2.1,this.2.2.1,this.2.2.2,h4⟩
 ·have e1:(a.2.2.2.map toEd).Pairwise edLt:=e1;rw [List.pairwise_map] at e1;exact e1
theorem yg4{a:AutT}(h1:a.1.length≤1000000)(h2:a.2.2.1.length≤1000000)(h3:a.2.2.2.length≤1000000):y1J a=some (toAut a).err:=by
 have:=ybV (a:=toAut a) (by simp [toAut];omega) (by simp [toAut];omega) (by simp [toAut];omega);rwa [yae] at this
end
end Go.Proofs.YtfdeiphkmjdifaaGreatDoor
