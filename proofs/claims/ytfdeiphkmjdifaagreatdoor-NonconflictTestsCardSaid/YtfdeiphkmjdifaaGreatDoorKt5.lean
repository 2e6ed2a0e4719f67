/- Parts of the proof, without what nothing here names. -/
import Derived.Test.YtfdeiphkmjdifaaGreatDoorProg
import Derived.Deep.DeepCutAuto
import Derived.Deep.LoopGhost
import Derived.Test.YtfdeiphkmjdifaaGreatDoorKt4
set_option maxRecDepth 100000
set_option maxRecDepth 100000
set_option maxHeartbeats 8000000
namespace Go.Proofs.YtfdeiphkmjdifaaGreatDoor
open Go.Proofs.Tryz Go Go.RowKit
noncomputable section
variable{p0:AutT}{t:Nat}{x:Ed}{A:Nat}{fs gs:List Ed}{p1:LI}
def y2g(d:Int×(List (ByteArray×Int))×List LI×EdgL)(a:List (ByteArray×Int))(b:List LI)(c:List (Int×Int×Int)):Option ((Int×(List (ByteArray×Int))×List LI×EdgL)⊕(((List (ByteArray×Int))×List LI×EdgL)⊕Unit)):=
 some (.inl (W (d.1+1),a,b,c))
def y2h(e:Int×(List (ByteArray×Int))×List LI×LI×EdgL)(a:Int×(List (ByteArray×Int))×List LI×EdgL)(f:Int)(b:List LI)(d:Int)(c:List (ByteArray×Int)):Option ((Int×(List (ByteArray×Int))×List LI×EdgL)⊕(((List (ByteArray×Int))×List LI×EdgL)⊕Unit)):=
 (app a.2.2.2 ([(e.1,f,d)]:List (Int×Int×Int))).bind fun g=>
 y2g a c b g
def y2i(g:((List AutT)×LI×(List (List KeyT))))(c:Int×(List (ByteArray×Int))×List LI×LI×EdgL)(a:Int×(List (ByteArray×Int))×List LI×EdgL):Option ((Int×(List (ByteArray×Int))×List LI×EdgL)⊕(((List (ByteArray×Int))×List LI×EdgL)⊕Unit)):=
 if decide (a.1<(g.2.1.length:Int)) then
  (idx g.2.1 a.1).bind fun d=>
  (idx a.2.2.1 c.1).bind fun h=>
  (y4C g h d).bind fun b=>
  if(!b.2) then
   y2g a a.2.1 a.2.2.1 a.2.2.2
  else
   (y4d b.1).bind fun e=>
   if(!((kget a.2.1 e).isSome)) then
    if((a.2.2.1.length:Int)==4096) then
     some (.inr (.inr (())))
    else
     (y4d b.1).bind fun f=>
     (app a.2.2.1 ([b.1]:List LI)).bind fun i=>
     y2h c a d i (a.2.2.1.length:Int) (kput a.2.1 f (a.2.2.1.length:Int))
   else
    y2h c a d a.2.2.1 ((kget a.2.1 e).getD 0) a.2.1
 else
  some (.inr (.inl a.2))
def y2j(e:((List AutT)×LI×(List (List KeyT))))(a:Int×(List (ByteArray×Int))×List LI×LI×EdgL)(c:LI):Option ((Int×(List (ByteArray×Int))×List LI×LI×EdgL)⊕((List LI×LI×EdgL)⊕Unit)):=
 (iter (y2i e a) (0,a.2.1,a.2.2.1,a.2.2.2.2)).bind fun d=>
 match d with
 | .inl b=>
  some (.inl (W (a.1+1),b.1,b.2.1,c,b.2.2))
 | .inr (f)=>
  some (.inr (.inr (())))
def y3M(c:((List AutT)×LI×(List (List KeyT))))(a:Int×(List (ByteArray×Int))×List LI×LI×EdgL):Option ((Int×(List (ByteArray×Int))×List LI×LI×EdgL)⊕((List LI×LI×EdgL)⊕Unit)):=
 if decide (a.1<(a.2.2.1.length:Int)) then
  (idx a.2.2.1 a.1).bind fun d=>
  (y3L c d).bind fun b=>
  if b then
   (app a.2.2.2.1 ([a.1]:LI)).bind fun e=>
   y2j c a e
  else
   y2j c a a.2.2.2.1
 else
  some (.inr (.inl a.2.2))
def y1j(p0:List AutT):Option (AutT×List LI×Int):=
 (y4L p0).bind fun e=>
 if(e != 0) then
  some ((([]:LI),0,([]:LI),([]:List (Int×Int×Int))),([]:List LI),e)
 else
  (y6L p0).bind fun b=>
  (y3D b).bind fun c=>
  if(!c.2) then
   some ((b.2.1,0,([]:LI),([]:List (Int×Int×Int))),([]:List LI),0)
  else
   (y4d c.1).bind fun f=>
   (iter (y3M b) (0,(kput ([]:List (ByteArray×Int)) f 0),([c.1]:List LI),([]:LI),([]:List (Int×Int×Int)))).bind fun d=>
   match d with
   | .inl a=>
    some ((b.2.1,(a.1.length:Int),a.2),a.1,0)
   | .inr (g)=>
    some ((([]:LI),0,([]:LI),([]:List (Int×Int×Int))),([]:List LI),3)
theorem y8R{p0:List AutT}{r:AutT×List LI×Int}(hm:y1j p0=some r):
    F0 79 [.f rE60 p0] [] (.tp [.a [lH 0,lI r.1.2.1,lH 1,lH 2],.h 3,.i r.2.2]) [rwI r.1.1,rwI r.1.2.2.1,ROW qT 112 r.1.2.2.2,ROW (rL qI) 26 r.2.1]:=by
  refine Fw.mk2 func79 ntmps79 R (fun C=>?_) R;refine .sr (.al 0 zz60 R (.sa R (.an R (.seq (.sv R (bS hm fun r1 b6 hm=> .c0 (y6T b6) cf48 R (.an R (.sv R (.bi R (.ns ?_))))))))));refine .cc hm R (fun hm=>?_) fun hm=>?_
  ·refine .sr (.bu [lN,lI 0,lN,lN] pl60 R (.mv R (.st ag60.sz R (.sa R (.an R (.ret (.seqR (.nlb qI 3 0 0 R R (.nlb qI 3 0 2 R R (.nlb qT 112 0 3 R R (.nlg (rL qI) 26 3 0 R R ?_)))))))))));cases hm;exact .rr [1,2,3,4] results79 (.cell R R ag60 R (.tmp R (.tmp R .nil))) R I3 ⟨⟨_,R,I4⟩,⟨_,R,I4⟩,⟨_,R,I4⟩,⟨_,R,I4⟩,trivial⟩
  ·refine .sn (.sv R (bS hm fun e b7 hm=> .cm (r':= .g [lF rE60 e.1,lH 1,lH 2]) [1,2] [(0,rwI e.2.1),(1,ROW (rM kvP qI) 128 e.2.2)] (some 3) (ybK b7) cf151 R ⟨⟨_,R,I4⟩,⟨_,R,I4⟩,trivial⟩ R (.al 3 zz212 R (.st ag212.sz R (.nr (.fa yfB R (.lb nag26 R (.fa y5U R (.st nag26.sz R (.nr (.lg [lF rE60 e.1,lH 1,lH 2] ag212 R (.B R) R (bS hm fun r3 b8 hm=> .op (O.caY (r':= .tp [.h 4,.b r3.2]) [4] [(0,rwI r3.1)] (some 5) (y7S b8) cf152 R R Z R R ⟨⟨R,.rf,.hr R,.hr R,trivial⟩,trivial⟩ R ⟨.row flr3,trivial⟩ (fun _ _ _ _ h=>h) ⟨⟨_,R,I4⟩,trivial⟩ I3 R) R (.mv R (.ex R (.ex R (.sa R (.an R (.seq (.sv R (.no R (.ns ?_)))))))))))))))))))));refine .cc hm R (fun hm=>?_) fun hm=>?_
   ·refine .sr (.lg [lH 1,lI 0,lN,lN] ag60 R (.B R) R (.st ag60.sz R (.sa R (.an R (.ret (.seqR (.nlb qI 3 0 2 R R (.nlb qT 112 0 3 R R (.nlg (rL qI) 26 3 0 R R ?_)))))))));cases hm;exact .rr [1,5,6,7] results79 (.cell R R ag60 R (.tmp R (.tmp R .nil))) R I3 ⟨⟨_,R,I4⟩,⟨_,R,I4⟩,⟨_,R,I4⟩,⟨_,R,I4⟩,trivial⟩
   ·refine .sn (.sv R (.fz 4 [36,7] [] R R fR R R (.op (O.bsO (r:=(rL qI)) (zs:=([r3.1]:List LI)) 5 R bs74 R R Z R R R (.c .l .n) R R R) R (.an R (.sr (.op (O.mk2 (kv:=kvS) (r:=qI) 6 R Z R) R (.mv R (bS hm fun r4 b9 hm=> .c0 (y7s b9) cf153 R (.op (O.ins (k:=r4) (v:=0) md216 (fun _ _=>eqS) Z R R (.o R) R .k) R (.mv R (.an R (.seq (.sr (.an R (.block (bS hm fun a3 a7 hm=>?_))))))))))))))));refine .cutU (z:= .exit 0) (fun x=> .inl x=a3) (fun (x:List LI×LI×EdgL)=>⟨[(3,.h 0),(2,.q 1 0)],[(0,ROW (rL qI) 26 x.1),(1,.bx 60 [lH 2,lI 0,lH 3,lH 4]),(2,rwI e.2.1),(3,rwI x.2.1),(4,ROW qT 112 x.2.2)],5⟩) ?_ fun b4=>?_
    · rintro x rfl;dsimp only at hm;refine .blkE (.seqN (.sv R (.lh sl74 R (.fa y4o R (.st nag3.sz R (.nr (.lg [lH 2,lI x.1.length,lH 3,lH 4] ag60 R (.B R) R (.mv R (.st ag60.sz R (.sa R (.an R (.ret ?_))))))))))));cases hm;exact .rr [2,3,4,0] results79 (.cell R R ag60 R (.tmp R (.tmp R .nil))) R I3 ⟨⟨_,R,I4⟩,⟨_,R,I4⟩,⟨_,R,I4⟩,⟨_,R,I4⟩,trivial⟩
    refine .cutU (z:= .ret) (fun T=> .inr (T)=a3) (fun (T:Unit)=>⟨[(4,.i 3),(3,.o (lN)),(2,.q 0 0)],[(0,.bx 60 [lN,lI 0,lN,lN])],1⟩) ?_ fun b5=>?_
    · rintro T rfl;dsimp only at hm;refine .blkR (.seqR (.nlb qI 3 0 0 R R (.nlb qI 3 0 2 R R (.nlb qT 112 0 3 R R (.nlg (rL qI) 26 3 0 R R ?_)))));cases hm;exact .rr [1,2,3,4] results79 (.cell R R ag60 R (.tmp R (.tmp R .nil))) R I3 ⟨⟨_,R,I4⟩,⟨_,R,I4⟩,⟨_,R,I4⟩,⟨_,R,I4⟩,trivial⟩
    refine .nlb qI 3 0 2 R R (.nlb qT 112 0 3 R R (.iter (fun (d:Int×(List (ByteArray×Int))×List LI×LI×EdgL)=>⟨[(10,.i d.1),(9,.h 0),(3,.h 1),(6,.q 2 0),(2,.q 5 0)],[(0,MAP kvS qI 216 d.2.1),(1,ROW (rL qI) 26 d.2.2.1),(2,.bx 212 [lF rE60 e.1,lH 3,lH 4]),(3,rwI e.2.1),(4,ROW (rM kvP qI) 128 e.2.2),(5,.bx 60 [lH 3,lI 0,lH 6,lH 7]),(6,rwI d.2.2.2.1),(7,ROW qT 112 d.2.2.2.2)],8⟩) a7 [(0,6),(1,5),(2,3),(3,1),(4,2),(5,0),(6,7),(7,8)] R ?_));intro d a2 hm a9 Q;refine .seq (.sv R (.mv R (.lh sl74 R (.bi R (.ns ?_)))));refine .cc hm R (fun hm=>?_) fun hm=> .xx ((b4 _ (Q _ (oj hm))).sub [(0,1),(1,5),(2,3),(3,6),(4,7)] R);refine .sn (.seq (.block ?_));refine .join1 (fun (m:LI)=>y2j e d m=some a2) (fun m=>⟨[(10,.i d.1),(9,.h 0),(3,.h 1),(6,.q 2 0),(2,.q 5 0)],[(0,MAP kvS qI 216 d.2.1),(1,ROW (rL qI) 26 d.2.2.1),(2,.bx 212 [lF rE60 e.1,lH 3,lH 4]),(3,rwI e.2.1),(4,ROW (rM kvP qI) 128 e.2.2),(5,.bx 60 [lH 3,lI 0,lH 6,lH 7]),(6,rwI m),(7,ROW qT 112 d.2.2.2.2)],8⟩) ?_ ?_
    · intro m hm;refine .sr (.fa yfB R (.lb nag26 R (.lh sl26 R (.mv R (.ns (.block (bS hm fun a4 a8 hm=>?_)))))));refine .cutU (z:= .exit 2) (fun t=> .inl t=a4) (fun (t:(List (ByteArray×Int))×List LI×EdgL)=>⟨[(10,.i d.1),(9,.h 0),(3,.h 1),(6,.q 2 0),(2,.q 5 0)],[(0,MAP kvS qI 216 t.1),(1,ROW (rL qI) 26 t.2.1),(2,.bx 212 [lF rE60 e.1,lH 3,lH 4]),(3,rwI e.2.1),(4,ROW (rM kvP qI) 128 e.2.2),(5,.bx 60 [lH 3,lI 0,lH 6,lH 7]),(6,rwI m),(7,ROW qT 112 t.2.2)],8⟩) ?_ fun a5=>?_
      · rintro t rfl;dsimp only at hm;exact .blkE (.blkN (.seqN (.reg (.mv R (.bi R (.sa R (.nil ((a9 _ (oj hm)).s0 R))))))))
      refine .cutU (z:= .ret) (fun H=> .inr (H)=a4) (fun (H:Unit)=>⟨[(4,.i 3),(3,.o (lN)),(2,.q 0 0)],[(0,.bx 60 [lN,lI 0,lN,lN])],1⟩) ?_ fun a6=>?_
      · rintro H rfl;dsimp only at hm;exact .blkR (.blkR (.seqR (.seqR ((b5 _ (Q _ (oj hm))).s0 R))))
      refine .iter (fun (j:Int×(List (ByteArray×Int))×List LI×EdgL)=>⟨[(63,.i j.1),(62,.i e.2.1.length),(61,.h 0),(10,.i d.1),(9,.h 1),(3,.h 2),(6,.q 3 0),(2,.q 5 0)],[(0,rwI e.2.1),(1,MAP kvS qI 216 j.2.1),(2,ROW (rL qI) 26 j.2.2.1),(3,.bx 212 [lF rE60 e.1,lH 0,lH 4]),(4,ROW (rM kvP qI) 128 e.2.2),(5,.bx 60 [lH 0,lI 0,lH 6,lH 7]),(6,rwI m),(7,ROW qT 112 j.2.2.2)],8⟩) a8 [(0,3),(1,0),(2,1),(3,2)] R ?_;intro j N hm b0 S;refine .sr (.bi R (.ns (.seq ?_)));refine .cc hm R (fun hm=>?_) fun hm=> .xx ((a5 _ (S _ (oj hm))).sub [(0,1),(1,2),(2,3),(3,0)] R);refine .sn ?_;refine .join3 (fun (y:List (ByteArray×Int)) (D:List LI) (E:List (Int×Int×Int))=>y2g j y D E=some N) (fun y D E=>⟨[(63,.i j.1),(62,.i e.2.1.length),(61,.h 0),(10,.i d.1),(9,.h 1),(3,.h 2),(6,.q 3 0),(2,.q 5 0)],[(0,rwI e.2.1),(1,MAP kvS qI 216 y),(2,ROW (rL qI) 26 D),(3,.bx 212 [lF rE60 e.1,lH 0,lH 4]),(4,ROW (rM kvP qI) 128 e.2.2),(5,.bx 60 [lH 0,lI 0,lH 6,lH 7]),(6,rwI m),(7,ROW qT 112 E)],8⟩) ?_ ?_
      · intro y D E hm;exact .reg (.bi R (.mv R (.nil ((b0 _ (oj hm)).s0 R))))
      · intro I;refine .block (.sr (bS hm fun u K hm=> .op (O.ir sl26 Z R R R K R) R (.op (O.ld nag3 Z R (.R R K lv3) R R) R (.an R (.seq ?_)))));refine .sub (τ:=⟨[(12,.i u),(63,.i j.1),(62,.i e.2.1.length),(61,.h 0),(10,.i d.1),(9,.h 1),(3,.h 2),(6,.q 3 0),(2,.q 5 0)],[(0,rwI e.2.1),(1,MAP kvS qI 216 j.2.1),(2,ROW (rL qI) 26 j.2.2.1),(3,.bx 212 [lF rE60 e.1,lH 0,lH 4]),(4,ROW (rM kvP qI) 128 e.2.2),(5,.bx 60 [lH 0,lI 0,lH 6,lH 7]),(6,rwI m),(7,ROW qT 112 j.2.2.2)],8⟩) ?_ [] R;refine bS hm fun c1 L hm=>bS hm fun w U hm=>?_;refine .drw [(8,[]),(8,[]),(8,[]),(8,[oF,oT,oT]),(8,fA 1 (tT 3)),(8,[]),(8,tT 6),(9,tT 7),(9,tT 8),(9,tT 8),(9,tT 9),(9,tT 11)] [_,_,_,_,_,_,_,_,_,_,_,_] ⟨[(14,.b w.2),(13,.h 8),(12,.i u),(63,.i j.1),(62,.i e.2.1.length),(61,.h 0),(10,.i d.1),(9,.h 1),(3,.h 2),(6,.q 3 0),(2,.q 5 0)],[(8,rwI w.1),(0,rwI e.2.1),(1,MAP kvS qI 216 j.2.1),(2,ROW (rL qI) 26 j.2.2.1),(3,.bx 212 [lF rE60 e.1,lH 0,lH 4]),(4,ROW (rM kvP qI) 128 e.2.2),(5,.bx 60 [lH 0,lI 0,lH 6,lH 7]),(6,rwI m),(7,ROW qT 112 j.2.2.2)],9⟩ ⟨O.lg (l':=[lF rE60 e.1,lH 0,lH 4]) ag212 Z R (.B R) R R R,zM R,zM R,O.ir sl74 Z R R R L R,O.ld nag26 Z R (.R R L lv26) R R,zM R,O.caY (r':= .tp [.h 8,.b w.2]) [8] [(0,rwI w.1)] (some 9) (y8I U) cf155 R R Z R R ⟨⟨R,.rf,.hr R,.hr R,trivial⟩,⟨R,LnL.rf⟩,⟨R,LnL.rf⟩,trivial⟩ R ⟨.row flr3,trivial⟩ (fun _ _ _ _ h=>h) ⟨⟨_,R,I4⟩,trivial⟩ I3 R,zM R,O.ex Z R R R,O.ex Z R R R,O.as Z R R,O.as Z R R,trivial⟩ (by kernel_rfl) R ?_;refine .seqN (.seq (.sv R (.no R (.ns ?_))));refine .cc hm R (fun hm=> .exit (.seqX (.blkE ((I _ _ _ hm).s0 R)))) fun hm=>?_;refine .sn (.sv R (.mv R (bS hm fun b1 V hm=> .op (O.caZ (y7s V) cf153 R R Z R ⟨⟨R,.hr R,trivial⟩,trivial⟩ (fun _ _ _ _ _ h=>h) R) R (.op (O.mi2 (k:=b1) md216 Z (.ow R R) (.o R) R) R (.mv R (.ex R (.ex R (.sa R (.an R ?_)))))))));refine .join3 (fun (F:List LI) (s:Int) (G:List (ByteArray×Int))=>y2h d j u F s G=some N) (fun F s G=>⟨[(3,.h 0),(15,.i s),(12,.i u),(63,.i j.1),(62,.i e.2.1.length),(61,.h 1),(10,.i d.1),(9,.h 2),(6,.q 3 0),(2,.q 5 0)],[(0,ROW (rL qI) 26 F),(1,rwI e.2.1),(2,MAP kvS qI 216 G),(3,.bx 212 [lF rE60 e.1,lH 1,lH 4]),(4,ROW (rM kvP qI) 128 e.2.2),(5,.bx 60 [lH 1,lI 0,lH 6,lH 7]),(6,rwI m),(7,ROW qT 112 j.2.2.2)],8⟩) ?_ ?_
        · intro F s G hm;exact .reg (.fa y5A R (.lb nag27 R (.mv R (.mv R (.mv R (.bu [lI d.1,lI u,lI s] pl112 R (.bf (r:=qT) ([(d.1,u,s)]:List (Int×Int×Int)) bs27 R (.c (.p .k (.p .k .k)) .n) R (bS hm fun c2 Y hm=> .ap 8 underlying27 el112 R R (.fr R) Y (.fa y5A R (.st nag27.sz R (.nil (.blkN ((I _ _ _ hm).sub [(0,1),(1,2),(2,0),(7,8)] R)))))))))))))
        · intro J;refine .sv R (.no R (.ns ?_));refine .cc hm R (fun hm=>?_) fun hm=> .skip ((J _ _ _ hm).sub [(0,2),(1,0),(2,1)] R);refine .seq (.sv R (.lh sl74 R (.bi R (.ns ?_))));exact .cc hm R (fun hm=> .sr (.bu [lN,lI 0,lN,lN] pl60 R (.st ag60.sz R (.sa R (.an R (.ret (.seqR (.seqR (.blkR (.seqR (.seqR ((a6 _ (S _ (oj hm))).sub [(0,5)] R)))))))))))) fun hm=> .sn (.sv R (.lh sl74 R (.an R (.sv R (.mv R (bS hm fun b2 W hm=> .op (O.caZ (y7s W) cf153 R R Z R ⟨⟨R,.hr R,trivial⟩,trivial⟩ (fun _ _ _ _ _ h=>h) R) R (.mv R (.op (O.mu (k:=b2) (v:=(j.2.2.1.length:Int)) md216 (fun _ _=>eqS) Z R R (.o R) R .k) R (.ns (.reg (.mv R (.mv R (.fz 8 [99] [] R R fR R R (.op (O.bsF (r:=(rL qI)) (zs:=([w.1]:List LI)) bs74 R R Z R R R (.c .l .n) R R R) R (bS hm fun c3 a0 hm=> .ap 9 underlying74 el26 R R (.fr R) a0 (.sa R (.nil ((J _ _ _ hm).sub [(0,9),(1,0),(2,1)] R))))))))))))))))))
    · intro P;refine .seq ?_;refine .sub (τ:=⟨[(10,.i d.1),(9,.h 0),(3,.h 1),(6,.q 2 0),(2,.q 5 0)],[(0,MAP kvS qI 216 d.2.1),(1,ROW (rL qI) 26 d.2.2.1),(2,.bx 212 [lF rE60 e.1,lH 3,lH 4]),(3,rwI e.2.1),(4,ROW (rM kvP qI) 128 e.2.2),(5,.bx 60 [lH 3,lI 0,lH 6,lH 7]),(6,rwI d.2.2.2.1),(7,ROW qT 112 d.2.2.2.2)],8⟩) ?_ [] R;refine bS hm fun c4 M hm=>bS hm fun b3 X hm=>?_;refine .drw [(8,[]),(8,[]),(8,[]),(8,[oF,oT,oT]),(8,fA 1 (tT 3)),(8,tT 5)] [_,_,_,_,_,_] ⟨[(53,.b b3),(10,.i d.1),(9,.h 0),(3,.h 1),(6,.q 2 0),(2,.q 5 0)],[(0,MAP kvS qI 216 d.2.1),(1,ROW (rL qI) 26 d.2.2.1),(2,.bx 212 [lF rE60 e.1,lH 3,lH 4]),(3,rwI e.2.1),(4,ROW (rM kvP qI) 128 e.2.2),(5,.bx 60 [lH 3,lI 0,lH 6,lH 7]),(6,rwI d.2.2.2.1),(7,ROW qT 112 d.2.2.2.2)],8⟩ ⟨O.lg (l':=[lF rE60 e.1,lH 3,lH 4]) ag212 Z R (.B R) R R R,zM R,zM R,O.ir sl74 Z R R R M R,O.ld nag26 Z R (.R R M lv26) R R,O.caZ (y8f X) cf154 R R Z R ⟨⟨R,.rf,.hr R,.hr R,trivial⟩,⟨R,LnL.rf⟩,trivial⟩ (fun _ _ _ _ _ h=>h) R,trivial⟩ (by kernel_rfl) R ?_;exact .seqN (.cc hm R (fun hm=> .reg (.fa y6v R (.lb nag26 R (.mv R (.bf (r:=qI) ([d.1]:LI) bs26 R (.c .k .n) R (bS hm fun c5 a1 hm=> .ap 8 underlying26 el3 R R (.fr R) a1 (.fa y6v R (.st nag26.sz R (.nil ((P _ hm).sub [(6,8)] R)))))))))) fun hm=> .skip ((P _ hm).s0 R))
def offs(es:List Ed)(s:Nat):Nat:=es.countP fun x=>decide (x.t<(s:Int))
def curL(es:List Ed)(n s:Nat):LI:=(List.range (n+1)).map fun i=>if i≤s then(offs es i:Int) else((es.countP fun x=>decide (x.t+1=(i:Int)):Nat):Int)
theorem y6f(es:List Ed)(n s:Nat):(curL es n s).length=n+1:=by simp [curL]
theorem y5j{es:List Ed}{n s i:Nat}(hi:i<n+1):(curL es n s)[i]'(by rw [y6f];exact hi)=if i≤s then(offs es i:Int) else((es.countP fun x=>decide (x.t+1=(i:Int)):Nat):Int):=by simp [curL]
theorem yij(n:Nat):curL [] n 0=List.replicate (n+1) 0:=by
 apply List.ext_getElem
 ·simp [curL]
 ·intro i h1 h2;simp [curL,offs]
theorem yds(es:List Ed)(s:Nat):offs es (s+1)=offs es s+es.countP fun x=>decide (x.t+1=((s+1:Nat):Int)):=by
 induction es with
 | nil=>rfl
 | cons x xs ih=>
  simp only [offs,List.countP_cons] at ih ⊢;rw [ih];by_cases h1:x.t<(s:Int)
  ·have h2:x.t<((s+1:Nat):Int):=by omega
   have h3:¬x.t+1=((s+1:Nat):Int):=by omega
   simp only [h1,h2,h3,decide_true,decide_false];simp;omega
  ·by_cases h3:x.t+1=((s+1:Nat):Int)
   ·have h2:x.t<((s+1:Nat):Int):=by omega
    simp only [h1,h2,h3,decide_true,decide_false];simp;omega
   ·have h2:¬x.t<((s+1:Nat):Int):=by omega
    simp only [h1,h2,h3,decide_false];simp
theorem yaQ{es:List Ed}{s:Nat}(h:s≤t):offs es s≤offs es t:=List.countP_mono_left fun x _ h1=>by
 have:=of_decide_eq_true h1;exact decide_eq_true (by omega)
theorem y9H(es:List Ed)(s:Nat):offs es s≤es.length:=List.countP_le_length
theorem yha{es:List Ed}{n:Nat}(hx:x.t=(t:Int))(ht:t<n)(h0:∀y∈es,0≤y.t):curL (es++[x]) n 0=(curL es n 0).set (t+1) ((curL es n 0)[t+1]'(by rw [y6f];omega)+1):=by
 apply List.ext_getElem
 ·simp [curL]
 ·intro i h1 h2;have hi:i<n+1:=by rw [y6f] at h1;exact h1
  rw [List.getElem_set,y5j hi];simp only [y5j (n:=n) (i:=t+1) (by omega),y5j (es:=es) hi];by_cases e:t+1=i
  ·subst e;rw [iP rfl,iN (by omega),iN (by omega),List.countP_append];simp [hx]
  ·rw [iN e];by_cases e0:i≤0
   ·rw [iP e0,iP e0,offs,offs,List.countP_append];simp only [List.countP_cons,List.countP_nil];have:¬x.t<(i:Int):=by omega
    simp [this]
   ·rw [iN e0,iN e0,List.countP_append];have:¬x.t+1=(i:Int):=by omega
    simp [this]
theorem yik{es:List Ed}{n s:Nat}(hs:s<n):curL es n (s+1)=(curL es n s).set (s+1) ((curL es n s)[s+1]'(by rw [y6f];omega)+(curL es n s)[s]'(by rw [y6f];omega)):=by
 apply List.ext_getElem
 ·simp [curL]
 ·intro i h1 h2;have hi:i<n+1:=by rw [y6f] at h1;exact h1
  rw [List.getElem_set,y5j hi];simp only [y5j (n:=n) (i:=s+1) (by omega),y5j (n:=n) (i:=s) (by omega),y5j (es:=es) (s:=s) hi];by_cases e:s+1=i
  ·subst e;rw [iP rfl,iP (yNr _),iN (by omega),iP (yNr _),yds];omega
  ·rw [iN e];by_cases e0:i≤s
   ·rw [iP e0,iP (by omega)]
   ·rw [iN e0,iN (by omega)]
theorem ydV{P:Program}{w:World}{B k:Nat}{tag:Nat→Nat}(ty tt e:TypeId)(i:TypeInfo)(ht:P.underlying tt=some (.slice e))(hi:P.info? e=some i)(hsize:i.size=1){cs:Array Value}(ho:Own w B tag k A cs e)
  (o n cap:Nat) (ad:Addr) (c:Nat) (x:Value) (hx:w.cell? ad=some x) (h1:x.oneCell'=true) (hroom:n+1≤cap) (hfit:o+n+1≤cs.size):
  ∃w',(Builtin.append_ #[tt,tt] ty #[.slice (some ⟨A,o,none⟩) n cap,.slice (some ad) 1 c]).run P w= .ok (.slice (some ⟨A,o,none⟩) (n+1) cap) w'∧Own w' B tag k A (cs.setIfInBounds (o+n) x) e∧Turn B tag tag k w w':=by
 have hst:=run_storeCells_at P A (o+n) e [x] 0 cs w ho.heap (by simpa using hfit) (by simpa using h1);have hf:=run_firstCells_some (P:=P) w i.size 1 ad 1 c [x] (by simp [hsize]) (fun j u hj=>by
  match j,hj with
  | 0,hj=>simp at hj;subst hj;simpa [Addr.add] using hx)
 simp only [Nat.add_zero] at hst;have he:(cs.toList.take (o+n)++[x]++cs.toList.drop (o+n+[x].length)).toArray=cs.setIfInBounds (o+n) x:=by
  apply Array.toList_inj.1;rw [Array.toList_setIfInBounds,List.set_eq_take_append_cons_drop,iP (by rw [Array.length_toList];omega)];simp
 rw [he] at hst;refine⟨w.setRow A (cs.setIfInBounds (o+n) x),?_,⟨setRow_heap w A cs _ e _ ho.heap,ho.htag,ho.base⟩,⟨rfl,rfl,rfl,by simp,fun _ _=>rfl,fun b' _ hne=>setRow_other w A b' _ ?_,fun b' o hb' hc=>(setRow_other w A b' _ ?_).trans hb'⟩⟩
 ·rw [hsize] at hf;simp [Builtin.append_,run_underlying ht,sizeOf,typeInfo,hi,Builtin.lenOf,hroom,hf,hsize,Addr.add_lit,hst]
 ·rintro rfl;rcases hne with h2|h2
  ·exact absurd ho.base (Nat.not_le.2 h2)
  ·exact h2 ho.htag
 ·rintro rfl;rw [ho.heap] at hb';cases hb';cases hc
theorem ycZ{P:Program}{ops:Array Oper}{o:Oper}{a:Act}{K:Act→World→Prop}{Q:Exit→Act→World→Prop}{E:Prop}
  {w:World} {B k A:Nat} {tag:Nat→Nat} (hgd:o.guard=none) (s x:Operand) (tt:TypeId)
  (ho:o.op= .call { callee:= .builtin .append,args:= #[s,x],argTypes:= #[tt,tt] })
  (e:TypeId) (i:TypeInfo) (ht:P.underlying tt=some (.slice e)) (hi:P.info? e=some i) (hsize:i.size=1) {cs:Array Value} (hown:Own w B tag k A cs e)
  (off n cap:Nat) (ad:Addr) (c:Nat) (u:Value) (hs:a.eval s= .slice (some ⟨A,off,none⟩) n cap) (hx:a.eval x= .slice (some ad) 1 c) (hu:w.cell? ad=some u) (h1:u.oneCell'=true) (hroom:n+1≤cap) (hfit:off+n+1≤cs.size)
  (h:∀w',Own w' B tag k A (cs.setIfInBounds (off+n) u) e→Turn B tag tag k w w'→K (a.put o.dst (.slice (some ⟨A,off,none⟩) (n+1) cap)) w'):
  if Region.wanted o (yielded ops a.tmps)=true then Oper.wp P o a w K Q else E:=by
 have hw:Region.wanted o (yielded ops a.tmps)=true:=by simp [Region.wanted,hgd]
 rw [iP hw];obtain⟨w',hrun,h2,h3⟩:=ydV (P:=P) (w:=w) o.type tt e i ht hi hsize hown off n cap ad c u hu h1 hroom hfit;unfold Oper.wp;simp [execOp,ho,resolve,invoke,builtin,hs,hx,hrun,Result.andThen];exact h w' h2 h3
structure NInv (w:World) (G:Array Value) (n:Nat) (wr:World) (tag:Nat→Nat) (C:Nat) (L:LI):Prop where
 below:Below w.heap.size w wr
 g:Own wr w.heap.size tag 0 w.heap.size G 60
 cnt:Row wr w.heap.size tag 1 3 1 (.slice (some ⟨C,0,none⟩) (n+1) (n+1)) (n+1) (ints L)
section
variable{w:World}{G:Array Value}{n:Nat}{wr wr':World}{tag tag':Nat→Nat}{C:Nat}{L:LI}
theorem NInv.turn{k:Nat}(h:NInv w G n wr tag C L)(ht:Turn w.heap.size tag tag' k wr wr')(h1:1<k):NInv w G n wr' tag' C L:=
 ⟨y2A h.below ht h.below.size,h.g.turn ht (by omega),h.cnt.turn ht (by omega)⟩
theorem NInv.new(h:NInv w G n wr tag C L)(o:Obj)(kk:Nat):NInv w G n (wr.alloc o) (tagUp tag wr.heap.size kk) C L:=by
 have hb:=y1F wr o;have ht:Turn w.heap.size tag (tagUp tag wr.heap.size kk) 9 wr (wr.alloc o):={ Turn.below (B:=w.heap.size) (tag:=tag) (k:=9) hb with tags:=fun b hb=>y5f hb };exact h.turn ht (by decide)
theorem NInv.call(h:NInv w G n wr tag C L)(hb:Below wr.heap.size wr wr'):NInv w G n wr' tag C L:=
 ⟨yR h.below hb h.below.size,h.g.below hb,h.cnt.below hb⟩
theorem NInv.put(h:NInv w G n wr tag C L)(j:Nat)(x:Int):NInv w G n (wr.setCell ⟨C,j,none⟩ (.int .i64 x)) tag C (L.set j x):=by
 have h1:=h.cnt.set j (.int .i64 x);rw [yNz] at h1;refine⟨y2A h.below h1.2 h.below.size,h.g.turn h1.2 (by decide),?_⟩;have:=h1.1;rwa [show (ints L).set j (.int .i64 x)=ints (L.set j x) from by simp [ints,List.map_set]] at this
theorem NInv.at(h:NInv w G n wr tag C L)(j:Nat)(hj:j<L.length):wr.cell? ⟨C,j,none⟩=some (.int .i64 L[j]):=by
 have hl:L.length=n+1:=by have:=h.cnt.1;simpa using this
 have:=h.cnt.cellAt j (by omega);rw [yNz,List.getElem?_map,yGe hj] at this;exact this
end
def segV(es:List Ed)(A:Nat)(fs:List Ed)(s:Nat):Value:= .slice (some ⟨A,if offs es (s+1)=offs es s then 0 else offs es s,none⟩) (inL fs s).length (offs es (s+1)-offs es s)
theorem yb3(es:List Ed)(s:Nat):(inL es s).length=offs es (s+1)-offs es s:=by
 rw [yds,Nat.add_sub_cancel_left,inL,yLm,←List.countP_eq_length_filter];congr 1;funext x;congr 1;apply propext;omega
theorem yfI(es fs:List Ed)(s:Nat):inL (es++fs) s=inL es s++inL fs s:=by simp [inL]
def ivsA(es:List Ed)(A n k:Nat):List Value:=(List.range n).map fun s=>if s<k then segV es A [] s else .slice none 0 0
theorem yhb{es:List Ed}{n k:Nat}(hk:k<n):ivsA es A n (k+1)=(ivsA es A n k).set k (segV es A [] k):=by
 apply List.ext_getElem
 ·simp [ivsA]
 ·intro i h1 h2;rw [List.getElem_set];simp only [ivsA,List.getElem_map,List.getElem_range];by_cases e:k=i
  ·subst e;rw [iP (by omega),iP rfl]
  ·rw [iN e];by_cases e2:i<k
   ·rw [iP (by omega),iP e2]
   ·rw [iN (by omega),iN e2]
def ivsB(es:List Ed)(A n:Nat)(fs:List Ed):List Value:=(List.range n).map (segV es A fs)
theorem yil(es:List Ed)(A n:Nat):ivsA es A n n=ivsB es A n []:=by
 apply List.map_congr_left;intro s hs;rw [iP (List.mem_range.1 hs)]
theorem yhc{es:List Ed}{n:Nat}(hx:x.t=(t:Int))(ht:t<n):ivsB es A n (fs++[x])=(ivsB es A n fs).set t (.slice (some ⟨A,if offs es (t+1)=offs es t then 0 else offs es t,none⟩) ((inL fs t).length+1) (offs es (t+1)-offs es t)):=by
 apply List.ext_getElem
 ·simp [ivsB]
 ·intro i h1 h2;rw [List.getElem_set];simp only [ivsB,List.getElem_map,List.getElem_range];by_cases e:t=i
  ·subst e;rw [iP rfl,segV,ya3 fs x t hx,yLa];rfl
  ·rw [iN e,segV,segV,ydl fs x i (by omega)]
def Seg(es:List Ed)(n:Nat)(fs:List Ed)(cur:Array Value):Prop:=∀s,s<n→∀j (h:j<(inL fs s).length),cur[offs es s+j]? =some (.int .i64 (inL fs s)[j])
theorem Seg.push{es:List Ed}{n:Nat}{cur:Array Value}(h:Seg es n fs cur)(he:es=fs++x::gs)(hx:x.t=(t:Int))(ht:t<n)(hc:es.length≤cur.size):
  Seg es n (fs++[x]) (cur.setIfInBounds (offs es t+(inL fs t).length) (.int .i64 x.f)):=by
 have hle:∀s,(inL (fs++[x]) s).length≤offs es (s+1)-offs es s:=by
  intro s;rw [←yb3,he,show fs++x::gs=(fs++[x])++gs by simp,yfI (fs++[x]),yLa];omega
 have hlt:(inL fs t).length<offs es (t+1)-offs es t:=by
  have:=hle t;rw [ya3 fs x t hx,yLa] at this;simp at this;omega
 have hsz:offs es t+(inL fs t).length<cur.size:=by
  have:=y9H es (t+1);omega
 intro s hs j hj;by_cases e:s=t
 ·subst e;have h2:=ya3 fs x s hx;simp only [h2] at hj ⊢;by_cases e2:j=(inL fs s).length
  ·subst e2;rw [Array.getElem?_setIfInBounds_self_of_lt hsz];simp
  ·have hj':j<(inL fs s).length:=by rw [yLa] at hj;simp at hj;omega
   rw [Array.getElem?_setIfInBounds_ne (by omega),h s hs j hj',yGl hj']
 ·have h2:=ydl fs x s (by omega);have hj2:=hle s;simp only [h2] at hj hj2 ⊢;rw [Array.getElem?_setIfInBounds_ne ?_,h s hs j hj];rcases Nat.lt_or_gt_of_ne e with g|g
  ·have:=yaQ (es:=es) (show s+1≤t by omega);omega
  ·have:=yaQ (es:=es) (show t+1≤s by omega);omega
structure FInv (w:World) (G:Array Value) (n:Nat) (es:List Ed) (A O:Nat) (wr:World) (tag:Nat→Nat) (ivs:List Value) (fs:List Ed):Prop where
 inv:NInv w G n wr tag (w.heap.size+1) (curL es n n)
 out:Row wr w.heap.size tag 3 26 1 (.slice (some ⟨O,0,none⟩) n n) n ivs
 all:∃cur,Own wr w.heap.size tag 2 A cur 3∧es.length≤cur.size∧Seg es n fs cur
section
variable{w:World}{G:Array Value}{n:Nat}{es fs:List Ed}{A O:Nat}{wr wr':World}{tag tag':Nat→Nat}{ivs:List Value}
theorem FInv.turn{k:Nat}(h:FInv w G n es A O wr tag ivs fs)(ht:Turn w.heap.size tag tag' k wr wr')(h1:3<k):FInv w G n es A O wr' tag' ivs fs:=by
 obtain⟨cur,g1,g2,g3⟩:=h.all;exact⟨h.inv.turn ht (by omega),h.out.turn ht (by omega),cur,g1.turn ht (by omega),g2,g3⟩
theorem FInv.call(h:FInv w G n es A O wr tag ivs fs)(hb:Below wr.heap.size wr wr'):FInv w G n es A O wr' tag ivs fs:=by
 obtain⟨cur,g1,g2,g3⟩:=h.all;exact⟨h.inv.call hb,h.out.below hb,cur,g1.below hb,g2,g3⟩
theorem FInv.new(h:FInv w G n es A O wr tag ivs fs)(o:Obj)(kk:Nat):FInv w G n es A O (wr.alloc o) (tagUp tag wr.heap.size kk) ivs fs:=by
 have hb:=y1F wr o;have ht:Turn w.heap.size tag (tagUp tag wr.heap.size kk) 9 wr (wr.alloc o):={ Turn.below (B:=w.heap.size) (tag:=tag) (k:=9) hb with tags:=fun b hb=>y5f hb };exact h.turn ht (by decide)
theorem FInv.put(h:FInv w G n es A O wr tag ivs fs)(j:Nat)(v:Value):FInv w G n es A O (wr.setCell ⟨O,j,none⟩ v) tag (ivs.set j v) fs:=by
 obtain⟨cur,g1,g2,g3⟩:=h.all;have h1:=h.out.set j v;rw [yNz] at h1;exact⟨h.inv.turn h1.2 (by decide),h1.1,cur,g1.turn h1.2 (by decide),g2,g3⟩
theorem FInv.slot(h:FInv w G n es A O wr tag ivs fs)(j:Nat)(hj:j<n){v:Value}(hv:ivs[j]? =some v):wr.cell? ⟨O,j,none⟩=some v:=by
 have:=h.out.cellAt j (by omega);rwa [yNz,hv] at this
end
theorem FInv.push{w:World}{G:Array Value}{n:Nat}{es:List Ed}{O:Nat}{wr wr':World}{tag:Nat→Nat}{cur:Array Value}(h:FInv w G n es A O wr tag (ivsB es A n fs) fs)(he:es=fs++x::gs)(hx:x.t=(t:Int))(ht:t<n)
  (hs:es.length≤cur.size) (hg:Seg es n fs cur) (ho:Own wr' w.heap.size tag 2 A (cur.setIfInBounds (offs es t+(inL fs t).length) (.int .i64 x.f)) 3) (hT:Turn w.heap.size tag tag 2 wr wr') (hne:¬offs es (t+1)=offs es t):
  FInv w G n es A O (wr'.setCell ⟨O,t,none⟩ (.slice (some ⟨A,offs es t,none⟩) ((inL fs t).length+1) (offs es (t+1)-offs es t))) tag (ivsB es A n (fs++[x])) (fs++[x]):=by
 have h1:FInv w G n es A O wr' tag (ivsB es A n fs) (fs++[x]):=⟨h.inv.turn hT (by decide),h.out.turn hT (by decide),_,ho,by simpa using hs,hg.push he hx ht hs⟩;have h2:=h1.put t (.slice (some ⟨A,offs es t,none⟩) ((inL fs t).length+1) (offs es (t+1)-offs es t));rw [yhc hx ht,iN hne];exact h2
theorem yjD{es:List Ed}(he:es=fs++x::gs)(hx:x.t=(t:Int)):(inL fs t).length+1≤offs es (t+1)-offs es t:=by
 rw [←yb3,he,show fs++x::gs=(fs++[x])++gs by simp,yfI (fs++[x]),yLa,ya3 fs x t hx,yLa];simp
def yeq(B n:Nat)(es:List Ed)(u:Value)(w':World):Prop:=
 ∃O ivs,u= .slice (some ⟨O,0,none⟩) n n∧B≤O∧RdS w' 1 (some ⟨O,0,none⟩) n n ivs∧∀s,s<n→∃a c,ivs[s]? =some (.slice a (inL es s).length c)∧RdS w' 1 a (inL es s).length c (ints (inL es s))∧∀ad,a=some ad→B≤ad.block
theorem FInv.post{w:World}{G:Array Value}{n:Nat}{es:List Ed}{O:Nat}{wr:World}{tag:Nat→Nat}(h:FInv w G n es A O wr tag (ivsB es A n es) es)(hl:es.length≤1000000):
  yeq w.heap.size n es (.slice (some ⟨O,0,none⟩) n n) wr:=by
 have hO:w.heap.size≤O:=by
  rcases h.out.2 with ⟨g,_⟩|⟨b,off,cap,cur,g1,g2,_⟩
  ·cases g
  ·cases g1;exact g2.base
 obtain⟨a,c,e1,e2⟩:=h.out.rd;cases e1;obtain⟨cur,g1,g2,g3⟩:=h.all;refine⟨O,_,rfl,hO,e2,fun s hs=>⟨_,_,by rw [ivsB,List.getElem?_map,List.getElem?_range hs,Option.map_some,segV],⟨by simp,Nat.le_of_eq (yb3 es s),by have:=y9H es (s+1);unfold maxLen;omega,fun e=>(by cases e),fun ad e=>by cases e;rfl,fun ad e j hj=>?_⟩,fun ad e=>by cases e;exact g1.base⟩⟩;cases e;have hj':j<(inL es s).length:=by simpa using hj
 have hne:¬offs es (s+1)=offs es s:=by have:=yb3 es s;omega
 rw [iN hne];have:=g1.cell (offs es s+j);rw [g3 s hs j hj'] at this;rw [this,List.getElem_map]
theorem Tryz.ninfo_int :(prog.info? 3).map (fun i=>(i.zero,i.size,i.bytes))=some (some (.int .i64 0),1,8):=by kernel_rfl
theorem Tryz.ninfo_ints :(prog.info? 26).map (fun i=>(i.zero,i.size,i.bytes))=some (some (.slice none 0 0),1,24):=by kernel_rfl
set_option maxHeartbeats 4000000 in
theorem yim(aa am ae:Option Addr)(la lm ca cm ce:Nat)(n ne:Nat)(es:List Ed)(w:World)(hne:ne=es.length)(hre:RdS w 3 ae es.length ce (y7h es))(hl:es.length≤1000000)(hn:n≤1000000)
    (hit:∀x∈es,0≤x.t∧x.t<n):
    Calls prog 158 #[.agg #[.slice aa la ca,.int .i64 n,.slice am lm cm,.slice ae ne ce]] w (Ret w (yeq w.heap.size n es)):=by
  subst hne;obtain⟨i0,hi,hz0,hz1,hz2⟩:=info_parts Tryz.ninfo_ints;obtain⟨i1,hi1,hy0,hy1,hy2⟩:=info_parts Tryz.ninfo_int;have Hit:=Lib.hid hit;clear hit
  go_enter func158,ntmps158
  have hI0:∀w3:World,w3.ownsRow (w.heap.size+1) 3 1 (.slice (some ⟨w.heap.size+1,0,none⟩) (n+1) (n+1)) (n+1) (madeCells (Value.int .i64 0).cells ((n+1)*1)).toList→(w.alloc (.cells #[.slice aa la ca,.int .i64 n,.slice am lm cm,.slice ae es.length ce] 60)).grownBy w3 none→
      NInv w #[.slice aa la ca,.int .i64 n,.slice am lm cm,.slice ae es.length ce] n w3 (fun b=>if b=w.heap.size then 0 else 1) (w.heap.size+1) (curL [] n 0):=by
    intro w3 hown3 hgrow3;have hb3:Below (w.alloc (.cells #[.slice aa la ca,.int .i64 n,.slice am lm cm,.slice ae es.length ce] 60)).heap.size _ w3:=Below.grown (Below.refl _ _) hgrow3 (yNr _) (fun k e=>(by cases e));refine⟨((Below.refl _ w).alloc (yNr _) _).trans (hb3.mono (by simp)),(Own.new w w.heap.size (fun b=>if b=w.heap.size then 0 else 1) 0 _ _ (yNr _) (iP rfl)).below hb3,Row.of_own (B':=w.heap.size+1) ?_ (by omega) (fun b hb _=>iN (by omega))⟩;rw [yij];simpa [Value.cells,toList_madeCells_one] using hown3
  go_wp2_with (at_make;refine wpList_make_full _ rfl _ _ 26 rfl (w.heap.size+1) 3 i1 (.int .i64 0) 1 underlying26 hi1 hy0 hy1 .i64 .i64 _ _ (n+1) rfl rfl (by first | rfl|omega) (by first | rfl|omega) (by rw [hy2];omega) (by unfold maxLen;omega) (by simp) ?_;intro w3 hown3 hgrow3;have hI:=hI0 w3 (by simpa using hown3) hgrow3;have e3:=hI.g.cell 3;have e1:=hI.g.cell 1;clear hI0 hown3 hgrow3)
  go_loopw [19] (fun j wr=>∃(k:Nat) (tag:Nat→Nat),k≤es.length∧j= .int .i64 k∧NInv w #[.slice aa la ca,.int .i64 n,.slice am lm cm,.slice ae es.length ce] n wr tag (w.heap.size+1) (curL (es.take k) n 0)) (fun j _=>es.length-(intOf j).toNat)
  case atStart=>exact⟨0,_,yZl _,rfl,hI⟩
  case round=>
    clear hI e3 e1;obtain⟨k,tag,hk,rfl,hI⟩:=hrel;by_cases hlt:k<es.length
    · obtain⟨b,off,rfl,c0,c1,c2⟩:=hre.at_edge k hlt;obtain⟨hx2,hx3⟩:=Hit.out es[k] (yGm hlt);replace c0:=keep0 hI.below c0;replace c1:=keep0 hI.below c1;replace c2:=keep0 hI.below c2;have hbl:=World.block_lt_of_cell? wr _ c0;obtain⟨t,ht⟩:=Int.eq_ofNat_of_zero_le hx2;have htn:t<n:=by omega
      have hts:=yha (es:=es.take k) (n:=n) ht htn (fun y hy=>(Hit.out y (List.mem_of_mem_take hy)).1);rw [←y5y es k hlt] at hts;have hcl:=y6f (es.take k) n 0;have Hts:=Lib.hid hts;clear hts;rw [ht] at c2;clear ht hx2 hx3;have hI2:=hI.new (.cells #[.int .i64 es[k].f,.int .i64 es[k].e,.int .i64 t] 112) 5;have hO:=hI2.g;have hzl:=hI.g.lt;have d0:=hI2.at (t+1) (by omega);have d1:=hI2.cnt.frozenAt (t+1);have hpt:=hI2.put (t+1) ((curL (es.take k) n 0)[t+1]'(by omega)+1);obtain⟨y,hy⟩:∃y,(curL (es.take k) n 0)[t+1]'(by omega)=y:=⟨_,rfl⟩;have hyb:0≤y∧y≤1000000:=by
        rw [←hy,y5j (by omega),iN (by omega)];have:=List.countP_le_length (p:=fun x:Ed=>decide (x.t+1=((t+1:Nat):Int))) (l:=es.take k);have:=List.length_take_le k es;omega
      have Hy:=Lib.hid hy;rw [hy] at d0 hpt;clear hy;have Hpt:=Lib.hid hpt;clear hpt hI hI2 hO
      go_wp2_with fail
      go_roundw
      case rel=>exact⟨k+1,_,by omega,by go_num,by rw [Hts.out,Hy.out];exact Hpt.out⟩
      case measure=>simp [intOf];omega
    · obtain rfl:k=es.length:=by omega
      rw [List.take_length] at hI;have e1:=hI.g.cell 1;have hzl:=hI.g.lt
      go_wp2_with fail
      clear e1
      go_loopw [34] (fun j wr=>∃(k:Nat),k≤n∧j= .int .i64 k∧NInv w #[.slice aa la ca,.int .i64 n,.slice am lm cm,.slice ae es.length ce] n wr tag (w.heap.size+1) (curL es n k)) (fun j _=>n-(intOf j).toNat)
      case atStart=>exact⟨0,yZl _,rfl,hI⟩
      case round=>
        clear hI hzl;obtain⟨k,hk,rfl,hI⟩:=hrel;have hcl:=y6f es n k;by_cases hkn:k<n
        · have d0:=hI.at k (by omega);have d1:=hI.at (k+1) (by omega);have d2:=hI.cnt.frozenAt (k+1);have hadd:=yik (es:=es) hkn;have hpt:=hI.put (k+1) ((curL es n k)[k+1]'(by omega)+(curL es n k)[k]'(by omega));rw [←hadd] at hpt;have hy0:0≤(curL es n k)[k]'(by omega)∧(curL es n k)[k]'(by omega)≤1000000:=by
            rw [y5j (by omega),iP (yNr _)];have:=y9H es k;omega
          have hy1:0≤(curL es n k)[k+1]'(by omega)∧(curL es n k)[k+1]'(by omega)≤1000000:=by
            rw [y5j (by omega),iN (by omega)];have:=List.countP_le_length (p:=fun x:Ed=>decide (x.t+1=((k+1:Nat):Int))) (l:=es);omega
          generalize (curL es n k)[k]'(by omega)=y0 at *;generalize (curL es n k)[k+1]'(by omega)=y1 at *;have Hpt:=Lib.hid hpt;clear hpt hI hadd
          go_wp2_with fail
          go_region
          all_goals go_wp2_with fail
          all_goals go_roundw
          case rel=>exact⟨k+1,by omega,by go_num,Hpt.out.call (y5G _)⟩
          case measure=>simp [intOf];omega
        · obtain rfl:n=k:=by omega
          have e3:=hI.g.cell 3;have e1:=hI.g.cell 1;have hzl:=hI.g.lt
          go_wp2_with (at_make;first
            | (refine wpList_make_full _ rfl _ _ 26 rfl wr.heap.size 3 i1 (.int .i64 0) 1 underlying26 hi1 hy0 hy1 .i64 .i64 _ _ es.length rfl rfl (by first | rfl | omega) (by first | rfl | omega) (by rw [hy2];omega) (by unfold maxLen;omega) (yNr _) ?_
               intro w3 hown3 hgrow3;have hb3:Below wr.heap.size wr w3:=Below.grown (Below.refl _ _) hgrow3 (yNr _) (fun k e=>(by cases e));replace e1:=keep0 hb3 e1;replace e3:=keep0 hb3 e3;have hgt:=hb3.size)
            | (refine wpList_make_full _ rfl _ _ 74 rfl w3.heap.size 26 i0 (.slice none 0 0) 1 underlying74 hi hz0 hz1 .i64 .i64 _ _ n rfl rfl (by first | rfl | omega) (by first | rfl | omega) (by rw [hz2];omega) (by unfold maxLen;omega) (yNr _) ?_
               intro w5 hown5 hgrow5))
          obtain⟨tag2,hI2,hA⟩:∃tag2,NInv w #[.slice aa la ca,.int .i64 n,.slice am lm cm,.slice ae es.length ce] n w3 tag2 (w.heap.size+1) (curL es n n)∧∃cur,Own w3 w.heap.size tag2 2 wr.heap.size cur 3∧es.length≤cur.size:=by
            have ht:Turn w.heap.size tag (fun b=>if b<wr.heap.size then tag b else 2) 9 wr w3:={ Turn.below (B:=w.heap.size) (tag:=tag) (k:=9) hb3 with tags:=fun b hb=>iP hb };refine⟨_,hI.turn ht (by decide),?_⟩;have hR:Row w3 w.heap.size (fun b=>if b<wr.heap.size then tag b else 2) 2 3 1 (.slice (some ⟨wr.heap.size,0,none⟩) es.length es.length) es.length _:=Row.of_own (B':=wr.heap.size) hown3 hI.below.size (fun b hb _=>iN (by omega));rcases hR.2 with ⟨g,_⟩|⟨b,off,cap,cur,g1,g2,g3,g4,g5,_⟩
            · cases g
            · cases g1;exact⟨cur,g2,by omega⟩
          obtain⟨tag3,hI3⟩:∃tag3,FInv w #[.slice aa la ca,.int .i64 n,.slice am lm cm,.slice ae es.length ce] n es wr.heap.size w3.heap.size w5 tag3 (ivsA es wr.heap.size n 0) []:=by
            have hb5:Below w3.heap.size w3 w5:=Below.grown (Below.refl _ _) hgrow5 (yNr _) (fun k e=>(by cases e));have ht:Turn w.heap.size tag2 (fun b=>if b<w3.heap.size then tag2 b else 3) 9 w3 w5:={ Turn.below (B:=w.heap.size) (tag:=tag2) (k:=9) hb5 with tags:=fun b hb=>iP hb };obtain⟨cur,g1,g2⟩:=hA;refine⟨_,hI2.turn ht (by decide),?_,cur,g1.turn ht (by decide),g2,fun s hs j hj=>by simp [inL] at hj⟩;refine Row.of_own (B':=w3.heap.size) ?_ hI2.below.size (fun b hb _=>iN (by omega));have hv:ivsA es wr.heap.size n 0=List.replicate n (.slice none 0 0):=by
              apply List.ext_getElem
              · simp [ivsA]
              · intro i h1 h2;simp [ivsA]
            rw [hv];simpa [Value.cells,toList_madeCells_one] using hown5
          clear hown3 hgrow3 hown5 hgrow5 e1 e3 hI hI2 hA hb3 hlt hkn hcl;generalize wr.heap.size=A at *;generalize w3.heap.size=O at *
          go_loopw [58] (fun j wr=>∃(k:Nat),k≤n∧j= .int .i64 k∧FInv w #[.slice aa la ca,.int .i64 n,.slice am lm cm,.slice ae es.length ce] n es A O wr tag3 (ivsA es A n k) []) (fun j _=>n-(intOf j).toNat)
          case atStart=>exact⟨0,yZl _,rfl,hI3⟩
          case round=>
            clear hI3;obtain⟨k,hk,rfl,hF⟩:=hrel;by_cases hkn:k<n
            · have hcl:=y6f es n n;have d0:=hF.inv.at k (by omega);have d1:=hF.inv.at (k+1) (by omega);rw [y5j (by omega),iP (by omega)] at d0 d1;have d2:=hF.out.frozenAt k;have d3:=hF.slot k hkn (v:= .slice none 0 0) (by simp [ivsA,hkn]);have hlo:=yaQ (es:=es) (show k≤k+1 by omega);have hhi:=y9H es (k+1);have hpt:=hF.put k (segV es A [] k);rw [←yhb hkn] at hpt;simp only [segV] at hpt;generalize offs es k=lo at *;generalize offs es (k+1)=hi' at *;have Hpt:=Lib.hid hpt;clear hpt hF;by_cases he:hi'=lo
              · subst he
                go_wp2_with fail
                go_region
                all_goals go_wp2_with fail
                all_goals go_roundw
                case rel=>exact⟨k+1,by omega,by go_num,by simpa [inL] using Hpt.out.call (y5G _)⟩
                case measure=>simp [intOf];omega
              · rw [iN he] at Hpt
                go_wp2_with fail
                go_region
                all_goals go_wp2_with fail
                all_goals go_roundw
                case rel=>exact⟨k+1,by omega,by go_num,by simpa [inL,he] using Hpt.out.call (y5G _)⟩
                case measure=>simp [intOf];omega
            · obtain rfl:n=k:=by omega
              rw [yil] at hF;have e3:=hF.inv.g.cell 3;have hzl:=hF.inv.g.lt
              go_wp2_with fail
              clear e3
              go_loopw [83] (fun j wr=>∃(k:Nat) (tag:Nat→Nat),k≤es.length∧j= .int .i64 k∧FInv w #[.slice aa la ca,.int .i64 n,.slice am lm cm,.slice ae es.length ce] n es A O wr tag (ivsB es A n (es.take k)) (es.take k)) (fun j _=>es.length-(intOf j).toNat)
              case atStart=>exact⟨0,_,yZl _,rfl,hF⟩
              case round=>
                clear hF hzl;obtain⟨k,tag,hk,rfl,hF⟩:=hrel;by_cases hlt:k<es.length
                · obtain⟨b,off,rfl,c0,c1,c2⟩:=hre.at_edge k hlt;obtain⟨hx2,hx3⟩:=Hit.out es[k] (yGm hlt);replace c0:=keep0 hF.inv.below c0;replace c1:=keep0 hF.inv.below c1;replace c2:=keep0 hF.inv.below c2;have hbl:=World.block_lt_of_cell? wr _ c0;obtain⟨t,ht⟩:=Int.eq_ofNat_of_zero_le hx2;have htn:t<n:=by omega
                  have he:es=es.take k++es[k]::es.drop (k+1):=by rw [←yDc hlt,List.take_append_drop]
                  have hroom:=yjD he ht;have Ht:=Lib.hid ht;have He:=Lib.hid he;have hts:=y5y es k hlt;have Hts:=Lib.hid hts;clear hts he;rw [ht] at c2;clear ht hx2 hx3;have hF2:=hF.new (.cells #[.int .i64 es[k].f,.int .i64 es[k].e,.int .i64 t] 112) 5;have hOx:=Own.new wr w.heap.size (tagUp tag wr.heap.size 5) 5 #[.int .i64 es[k].f,.int .i64 es[k].e,.int .i64 t] 112 hF.inv.below.size (y4R _ _ _);have hb2:Below (wr.alloc (.cells #[.int .i64 es[k].f,.int .i64 es[k].e,.int .i64 t] 112)).heap.size _ ((wr.alloc (.cells #[.int .i64 es[k].f,.int .i64 es[k].e,.int .i64 t] 112)).alloc (.cells #[.int .i64 es[k].f] 3)).drew:=(y1F _ _).drew;have hF3:=hF2.call hb2;have hO3:=hOx.below hb2;obtain⟨cur,g1,g2,g3⟩:=hF3.all;have hne:¬offs es (t+1)=offs es t:=by omega
                  have hle:=y9H es (t+1);have hiv:(ivsB es A n (es.take k))[t]? =some (.slice (some ⟨A,offs es t,none⟩) (inL (es.take k) t).length (offs es (t+1)-offs es t)):=by rw [ivsB,List.getElem?_map,List.getElem?_range htn,Option.map_some,segV,iN hne]
                  have d0:=hF.slot t htn hiv;have hrl:=hF.out.addr (by omega);obtain⟨_,_,_,e9,hrl,hrb,_⟩:=hrl;cases e9;have hrl':w.heap.size<wr.heap.size:=hF.inv.g.lt;have hu:((wr.alloc (.cells #[.int .i64 es[k].f,.int .i64 es[k].e,.int .i64 t] 112)).alloc (.cells #[.int .i64 es[k].f] 3)).drew.cell? ⟨wr.heap.size+1,0,none⟩=some (.int .i64 es[k].f):=by
                    have hnc:=y8A (w:=wr.alloc (.cells #[.int .i64 es[k].f,.int .i64 es[k].e,.int .i64 t] 112)) (s:=wr.heap.size+1) [Value.int .i64 es[k].f] 3 (by simp) 0 _ rfl;simp only [Addr.add] at hnc;exact hnc
                  have hpush:=fun w6 h6 h7=>hF3.push (wr':=w6) He.out Ht.out htn g2 g3 h6 h7 hne;generalize hlo:offs es t=lo at *;generalize hhi:offs es (t+1)-lo=cp at *;generalize hm:(inL (es.take k) t).length=m at *;have Hpush:=Lib.hid hpush;clear hpush
                  go_wp2_with fail
                  go_region_law (refine ycZ rfl _ _ 26 rfl 3 i1 underlying26 hi1 hy1 g1 lo m cp ⟨_,0,none⟩ 1 (.int .i64 es[k].f) rfl rfl (by first | exact hu|simpa using hu) (by simp [Value.oneCell']) hroom (by omega) ?_;intro w6 ho6 ht6;have z2:w6.cell? ⟨wr.heap.size,2,none⟩=some (.int .i64 t):=(hO3.turn ht6 (by omega)).cell 2;have z3:=(hF3.out.turn ht6 (by omega)).cellAt t (by omega);have z4:=(hF3.out.turn ht6 (by omega)).frozenAt t;rw [yNz,hiv] at z3)
                  all_goals
                    have Hfin:=Lib.hid (Hpush.out w6 ho6 ht6);clear hF hF2 hF3 hOx hO3 d0 ho6 ht6 z2 z3 z4 Hpush g1 g3 hiv
                    go_wp2_with fail
                    go_roundw
                    case rel=>exact⟨k+1,_,by omega,by go_num,by rw [Hts.out];exact Hfin.out⟩
                    case measure=>simp [intOf];omega
                · obtain rfl:k=es.length:=by omega
                  rw [List.take_length] at hF
                  go_wp2_with fail
                  go_ret
                  exact⟨_,rfl,hF.post hl,hF.inv.below⟩
theorem yer{α:Type}{r:Rep α}(h1:r.sz=1){s:Sig}:∀{cs:List Value} {xs:List α},cs.length=xs.length→(∀(i:Nat) (h:i<xs.length),∃v,cs[i]? =some v∧r.rd s [v] xs[i])→Cells r s cs xs
 | [],[],_,_=>rfl
 | c::cs,x::xs,hl,h=>by
  obtain⟨v,h2,h3⟩:=h 0 (by simp);cases h2;exact⟨[c],cs,rfl,h3,yer h1 (by simpa using hl) fun i hi=>by
   obtain⟨v,h4,h5⟩:=h (i+1) (by simpa using hi);exact⟨v,by simpa using h4,by simpa using h5⟩⟩
 | [],x::xs,hl,_=>by simp at hl
 | c::cs,[],hl,_=>by simp at hl
def y4M(p0:AutT):Option (List LI):=
 if p0.2.2.2.length≤1000000∧0≤p0.2.1∧p0.2.1≤1000000∧(p0.2.2.2.all fun x=>decide (0≤x.2.2∧x.2.2<p0.2.1))=true then
  some ((List.range p0.2.1.toNat).map (inL (p0.2.2.2.map toEd)))
 else none
theorem ybg{s:Sig}{a1:Option Addr}{c1:Nat}{a2:Option Addr}{c2:Nat}{a3:Option Addr}{c3:Nat}{r:List LI}(_h1:RdL (rK .i64) s a1 c1 p0.1)(_h2:RdL (rK .i64) s a2 c2 p0.2.2.1)(h3:RdL rEd s a3 c3 p0.2.2.2)(hm:y4M p0=some r):
  Calls prog 158 #[.agg #[.slice a1 p0.1.length c1,.int .i64 p0.2.1,.slice a2 p0.2.2.1.length c2,.slice a3 p0.2.2.2.length c3]] s.w (RetS No s fun v s'=>∃(a4:Option Addr) (c4:Nat),v= .slice a4 r.length c4∧RdL (rL (rK .i64)) s' a4 c4 r):=by
 unfold y4M at hm;split at hm
 ·rename_i hc;cases hm;obtain⟨g1,g2,g3,g4⟩:=hc;obtain⟨x1,n,x2,es⟩:=p0;dsimp only at *;obtain⟨n,rfl⟩:∃k:Nat,n=k:=⟨n.toNat,by omega⟩;obtain⟨ae,ce,e1,hre⟩:=h3.rdE;rw [yLm] at e1;cases e1;have hcall:=yim a1 a2 a3 x1.length x2.length c1 c2 c3 n es.length (es.map toEd) s.w (by simp) hre (by simpa using g1) (by omega) (fun x hx=>by
   obtain⟨y,hy,rfl⟩:=yMp.1 hx;simpa [toEd] using yAt.1 g4 y hy)
  refine hcall.mono fun en w' hh=>?_;obtain⟨u,rfl,⟨O,ivs,rfl,hO,h6,h7⟩,hb⟩:=hh;rw [yTn];refine⟨_,s.nw w',rfl,rfl,Sig.nw_mv hb,some ⟨O,0,none⟩,n,by simp,ivs,by rw [yLm,List.length_range];exact h6,fun ad e _=>by cases e;exact iN (Nat.not_lt.2 hO),?_⟩;refine yer rfl (by have:=h6.hlen;simp;omega) fun i hi=>?_;have hi':i<n:=by simpa using hi
  obtain⟨a,c,h8,h9,h10⟩:=h7 i hi';refine⟨_,h8,a,c,?_,ints (inL (es.map toEd) i),?_,fun ad e _=>iN (by have:=h10 ad e;omega),?_⟩
  ·simp
  ·rw [List.getElem_map,List.getElem_range];exact h9
  ·simpa using ya6 _
 ·cases hm
theorem ybh{r:List LI}(hm:y4M p0=some r):Fw prog 158 ⟨0,[]⟩ [.a [lF qI p0.1,lI p0.2.1,lF qI p0.2.2.1,lF qT p0.2.2.2]] [] (.f (rL qI) r) []:=
 ⟨fun ts β s vs ht _ _ _ h _=>by
  obtain⟨v0,us0,⟨cs,⟨x1,t1,⟨a1,c1,e1,g1⟩,⟨x2,t2,⟨e2,_⟩,⟨x3,t3,⟨a3,c3,e3,g3⟩,⟨x4,t4,⟨a4,c4,e4,g4⟩,e5,e6⟩,e7⟩,e8⟩,e9⟩,e10⟩,f1,f2⟩:=h;subst e5 e6 e7 e8 e9 e10 e1 e2 e3 e4 f1 f2;exact Calls.mono (ybg g1 g3 g4 hm) fun en w' ⟨v,s',q1,q2,m,a,c,hv,hr⟩=>⟨v,s',q1,q2,m.no,β,fun _ _=>rfl,⟨a,c,hv,hr⟩,fun i o ho=>by simp at ho⟩⟩
def y3N(a:Int×LI×LI)(b:LI)(c:LI):Option ((Int×LI×LI)⊕(LI×LI)):=
 some (.inl (W (a.1+1),b,c))
def y3O(d:Int×LI×LI)(c:LI)(a:Int×LI×LI):Option ((Int×LI×LI)⊕(LI×LI)):=
 if decide (a.1<(c.length:Int)) then
  (idx c a.1).bind fun b=>
  (idx a.2.2 b).bind fun e=>
  if decide (e<0) then
   (idx a.2.1 d.1).bind fun f=>
   (idx a.2.2 f).bind fun g=>
   (idx a.2.2 b).bind fun j=>
   (upd a.2.2 b (W (g+1))).bind fun h=>
   (app a.2.1 ([b]:LI)).bind fun i=>
   y3N a i h
  else
   y3N a a.2.1 a.2.2
 else
  some (.inr a.2)
def y2D(e:List LI)(a:Int×LI×LI):Option ((Int×LI×LI)⊕LI):=
 if decide (a.1<(a.2.1.length:Int)) then
  (idx a.2.1 a.1).bind fun c=>
  (idx e c).bind fun d=>
  (iter (y3O a d) (0,a.2)).bind fun b=>
  some (.inl (W (a.1+1),b))
 else
  some (.inr a.2.2)
def y3P(b:LI)(a:Int×LI):Option ((Int×LI)⊕LI):=
 if decide (a.1<(b.length:Int)) then
  (idx b a.1).bind fun c=>
  (idx a.2 c).bind fun e=>
  (upd a.2 c 0).bind fun d=>
  some (.inl (W (a.1+1),d))
 else
  some (.inr a.2)
def y3Q(c:LI)(a:Int×LI):Option ((Int×LI)⊕LI):=
 if decide (a.1<(c.length:Int)) then
  (idx a.2 a.1).bind fun d=>
  (upd a.2 a.1 (-1)).bind fun b=>
  some (.inl (W (a.1+1),b))
 else
  some (.inr a.2)
def y4V(p0:AutT)(p1:LI):Option LI:=
 (y4M p0).bind fun f=>
 (mkL p0.2.1 (0:Int)).bind fun d=>
 (iter (y3Q d) (0,d)).bind fun e=>
 (yn p1).bind fun a=>
 (iter (y3P a) (0,e)).bind fun b=>
 (iter (y2D f) (0,a,b)).bind fun c=>
 some c
theorem yay{r:LI}(hm:y4V p0 p1=some r):
  F0 82 [.a (lx60 p0),.f qI p1] [] (.h 0) [rwI r]:=by
 refine Fw.mk2 func82 ntmps82 R (fun C=>?_) R;refine .sr (.bo 0 R (.an R (.sr (.lg (lx60 p0) ag60 R (.B R) R (bS hm fun e a7 hm=> .c0 (ybh a7) cf158 R (.an R (.sr (.fa y4o R (.lb nag3 R (bS hm fun x2 a8 hm=> .op (O.mk (z:=(0:Int)) 1 underlying26 zr3 R R Z R R a8 R) R (.an R (.seq (.sv R (.lh sl26 R (.mv R (.ns (.block (bS hm fun o9 a6 hm=>?_))))))))))))))))));refine .cut1 (z:= .exit 0) o9 (fun (o9:LI)=>⟨[(6,.h 0),(5,.f (rL qI) e),(1,.f qI p1)],[(0,rwI o9)],1⟩) ?_ fun a2=>?_
 ·skip
  refine .blkE (.seqN (.sv R (bS hm fun o M hm=> .cm (r':= .h 1) [1] [(0,rwI o)] (some 2) (yC M) cf58 R ⟨⟨_,R,I4⟩,trivial⟩ R (.an R (.seq (.sv R (.lh sl26 R (.mv R (.ns (.block (bS hm fun E J hm=>?_)))))))))));refine .cut1 (z:= .exit 2) E (fun (E:LI)=>⟨[(8,.h 0),(6,.h 1),(5,.f (rL qI) e)],[(0,rwI o),(1,rwI E)],2⟩) ?_ fun a3=>?_
  ·skip
   refine .blkE (.seqN (.seq (.sr (.an R (.block (bS hm fun F K hm=>?_))))));refine .cut1 (z:= .exit 4) F (fun (F:LI)=>⟨[(6,.h 0)],[(0,rwI F)],1⟩) ?_ fun a4=>?_
   ·skip
    refine .blkE (.seqN (.sv R (.an R (.ret ?_))));cases hm;exact .rr [0] results82 (.tmp R .nil) R I3 ⟨⟨_,R,I4⟩,trivial⟩
   refine .iter (fun (b:Int×LI×LI)=>⟨[(11,.i b.1),(8,.h 0),(6,.h 1),(5,.f (rL qI) e)],[(0,rwI b.2.1),(1,rwI b.2.2)],2⟩) K [] R ?_;intro b b4 hm a0 V;refine .seq (.sv R (.mv R (.lh sl26 R (.bi R (.ns ?_)))));refine .cc hm R (fun hm=>?_) fun hm=> .xx ((a4 _ (V _ (oj hm))).sub [(0,1)] R);refine .sn (.seq (.block (.sv R (.mv R (.mv R (bS hm fun b7 s hm=> .op (O.ir sl26 Z R R R s R) R (.op (O.ld nag3 Z R (.R R s lv3) R R) R (bS hm fun p N hm=> .ix sl74 N R (.le nag26 lv26 R (.ln sl26 R (.mv R (.ns (.block (bS hm fun m L hm=>?_))))))))))))));refine .cut1 (z:= .exit 6) m (fun (m:LI×LI)=>⟨[(11,.i b.1),(8,.h 0),(6,.h 1),(5,.f (rL qI) e)],[(0,rwI m.1),(1,rwI m.2)],2⟩) ?_ fun a5=>?_
   ·skip
    exact .blkE (.blkN (.seqN (.reg (.mv R (.bi R (.sa R (.nil ((a0 _ (oj hm)).s0 R))))))))
   refine .iter (fun (d:Int×LI×LI)=>⟨[(54,.i d.1),(53,.i p.length),(52,.f qI p),(11,.i b.1),(8,.h 0),(6,.h 1),(5,.f (rL qI) e)],[(0,rwI d.2.1),(1,rwI d.2.2)],2⟩) L [] R ?_;intro d I hm a1 X;refine .sr (.bi R (.ns (.seq ?_)));refine .cc hm R (fun hm=>?_) fun hm=> .xx ((a5 _ (X _ (oj hm))).s0 R);refine .sn ?_;refine .join2 (fun (j:LI) (l:LI)=>y3N d j l=some I) (fun j l=>⟨[(8,.h 0),(54,.i d.1),(53,.i p.length),(52,.f qI p),(11,.i b.1),(6,.h 1),(5,.f (rL qI) e)],[(0,rwI j),(1,rwI l)],2⟩) ?_ ?_
   ·intro j l hm;exact .reg (.bi R (.mv R (.nil ((a1 _ (oj hm)).s0 R))))
   ·intro q;refine .block (.sr (bS hm fun b1 P hm=> .ix sl26 P R (.le nag3 lv3 R (.an R (.sv R (.mv R (bS hm fun b8 t hm=> .op (O.ir sl26 Z R R R t R) R (.op (O.ld nag3 Z R (.R R t lv3) R R) R (.bi R (.ns ?_))))))))));exact .cc hm R (fun hm=> .sv R (.mv R (.mv R (.mv R (.mv R (bS hm fun b9 u hm=> .op (O.ir sl26 Z R R R u R) R (.op (O.ld nag3 Z R (.R R u lv3) R R) R (bS hm fun b2 v hm=> .op (O.ir sl26 Z R R R v R) R (.op (O.ld nag3 Z R (.R R v lv3) R R) R (.bi R (bS hm fun c1 w hm=> .op (O.ir sl26 Z R R R w R) R (bS hm fun c2 Q hm=> .op (O.su (z:=W (b2+1)) nag3.sz Z R R w Q R R R lv3 R .k) R (.ns (.reg (.mv R (.mv R (.bf (r:=qI) ([b1]:LI) bs26 R (.c .k .n) R (bS hm fun c3 S hm=> .ap 2 underlying26 el3 R R (.fr R) S (.sa R (.nil (.blkN ((q _ _ hm).sub [(0,2)] R)))))))))))))))))))))) fun hm=> .skip (.blkN ((q _ _ hm).s0 R))
  refine .iter (fun (g:Int×LI)=>⟨[(32,.i g.1),(31,.i o.length),(30,.h 0),(8,.h 0),(6,.h 1),(5,.f (rL qI) e)],[(0,rwI o),(1,rwI g.2)],2⟩) J [(0,1),(1,0)] R ?_;intro g b3 hm Y U;refine .sr (.bi R (.ns (.seq ?_)));exact .cc hm R (fun hm=> .sn (.seq (.block (.sr (bS hm fun c4 x hm=> .op (O.ir sl26 Z R R R x R) R (.op (O.ld nag3 Z R (.R R x lv3) R R) R (.an R (.reg (.mv R (.mv R (bS hm fun c5 y hm=> .op (O.ir sl26 Z R R R y R) R (bS hm fun c6 T hm=> .op (O.su (z:=0) nag3.sz Z R R y T R R R lv3 R .k) R (.nil (.blkN (.seqN (.reg (.bi R (.mv R (.nil ((Y _ (oj hm)).s0 R)))))))))))))))))))) fun hm=> .xx ((a3 _ (U _ (oj hm))).s0 R)
 refine .iter (fun (G:Int×LI)=>⟨[(21,.i G.1),(20,.i x2.length),(6,.h 0),(5,.f (rL qI) e),(1,.f qI p1)],[(0,rwI G.2)],1⟩) a6 [(0,1)] R ?_;intro G b5 hm b0 a9;refine .sr (.bi R (.ns (.seq ?_)));exact .cc hm R (fun hm=> .sn (.seq (.block (.sv R (.an R (.reg (.mv R (.mv R (bS hm fun c7 D hm=> .op (O.ir sl26 Z R R R D R) R (bS hm fun b6 H hm=> .op (O.su (z:=(-1)) nag3.sz Z R R D H R R R lv3 R .k) R (.nil (.blkN (.seqN (.reg (.bi R (.mv R (.nil ((b0 _ (oj hm)).s0 R)))))))))))))))))) fun hm=> .xx ((a2 _ (a9 _ (oj hm))).s0 R)
def y3v(b:Int×LI)(a:LI):Option ((Int×LI)⊕LI):=
 some (.inl (W (b.1+1),a))
def y4N(p0:LI)(a:Int×LI):Option ((Int×LI)⊕LI):=
 if decide (a.1<(p0.length:Int)) then
  (idx p0 a.1).bind fun b=>
  if decide (b<0) then
   (app a.2 ([a.1]:LI)).bind fun c=>
   y3v a c
  else
   y3v a a.2
 else
  some (.inr a.2)
def y5C(p0:LI):Option LI:=
 (iter (y4N p0) (0,([]:LI))).bind fun a=>
 some a
theorem yac{p0:LI}{r:LI}(hm:y5C p0=some r):
  F0 81 [.f qI p0] [] (.h 0) [rwI r]:=by
 refine Fw.mk2 func81 ntmps81 R (fun C=>?_) R;refine .sr (.an R (.sr (.an R (.seq (.sv R (.ln sl26 R (.mv R (.ns (.block (bS hm fun j o hm=>?_))))))))));refine .cut1 (z:= .exit 0) j (fun (j:LI)=>⟨[(3,.h 0)],[(0,rwI j)],1⟩) ?_ fun m=>?_
 ·skip
  refine .blkE (.seqN (.sv R (.an R (.ret ?_))));cases hm;exact .rr [0] results81 (.tmp R .nil) R I3 ⟨⟨_,R,I4⟩,trivial⟩
 refine .nlg qI 3 3 0 R R (.iter (fun (a:Int×LI)=>⟨[(8,.i a.1),(7,.i p0.length),(6,.f qI p0),(3,.h 0)],[(0,rwI a.2)],1⟩) o [] R ?_);intro a l hm q p;refine .sr (.bi R (.ns (.seq ?_)));refine .cc hm R (fun hm=>?_) fun hm=> .xx ((m _ (p _ (oj hm))).s0 R);refine .sn ?_;refine .join1 (fun (b:LI)=>y3v a b=some l) (fun b=>⟨[(3,.h 0),(8,.i a.1),(7,.i p0.length),(6,.f qI p0)],[(0,rwI b)],1⟩) ?_ ?_
 ·intro b hm;exact .reg (.bi R (.mv R (.nil ((q _ (oj hm)).s0 R))))
 ·intro d;refine .block (.sv R (bS hm fun s e hm=> .ix sl26 e R (.le nag3 lv3 R (.sa R (.an R (.sv R (.bi R (.ns ?_))))))));exact .cc hm R (fun hm=> .reg (.mv R (.mv R (.bf (r:=qI) ([a.1]:LI) bs26 R (.c .k .n) R (bS hm fun t g hm=> .ap 1 underlying26 el3 R R (.fr R) g (.sa R (.nil (.blkN ((d _ hm).sub [(0,1)] R))))))))) fun hm=> .skip (.blkN ((d _ hm).s0 R))
def y5R(c:LI)(a:Int×LI):Option ((Int×LI)⊕LI):=
 if decide (a.1<(c.length:Int)) then
  (idx a.2 a.1).bind fun d=>
  (upd a.2 a.1 a.1).bind fun b=>
  some (.inl (W (a.1+1),b))
 else
  some (.inr a.2)
def y5X(p0:AutT):Option LI:=
 (mkL p0.2.1 (0:Int)).bind fun a=>
 (iter (y5R a) (0,a)).bind fun b=>
 some b
theorem ybL{r:LI}(hm:y5X p0=some r):
  F0 157 [.a (lx60 p0)] [] (.h 0) [rwI r]:=by
 refine Fw.mk2 func157 ntmps157 R (fun C=>?_) R;refine .sr (.bo 0 R (.an R (.sr (.fa y4o R (.lb nag3 R (bS hm fun o j hm=> .op (O.mk (z:=(0:Int)) 1 underlying26 zr3 R R Z R R j R) R (.an R (.seq (.sv R (.lh sl26 R (.mv R (.ns (.block (bS hm fun e g hm=>?_))))))))))))));refine .cut1 (z:= .exit 0) e (fun (e:LI)=>⟨[(3,.h 0)],[(0,rwI e)],1⟩) ?_ fun f=>?_
 ·skip
  refine .blkE (.seqN (.sv R (.an R (.ret ?_))));cases hm;exact .rr [0] results157 (.tmp R .nil) R I3 ⟨⟨_,R,I4⟩,trivial⟩
 refine .iter (fun (b:Int×LI)=>⟨[(10,.i b.1),(9,.i o.length),(3,.h 0)],[(0,rwI b.2)],1⟩) g [(0,1)] R ?_;intro b n hm m l;refine .sr (.bi R (.ns (.seq ?_)));exact .cc hm R (fun hm=> .sn (.seq (.block (.sv R (.an R (.reg (.mv R (.mv R (.mv R (bS hm fun p c hm=> .op (O.ir sl26 Z R R R c R) R (bS hm fun q d hm=> .op (O.su (z:=b.1) nag3.sz Z R R c d R R R lv3 R .k) R (.nil (.blkN (.seqN (.reg (.bi R (.mv R (.nil ((m _ (oj hm)).s0 R))))))))))))))))))) fun hm=> .xx ((f _ (l _ (oj hm))).s0 R)
def y5D(p0:AutT)(p1:Int)(p2:LI):Option (LI×Bool):=
 if decide (p1≥p0.2.1) then
  some (([]:LI),false)
 else
  (y5X p0).bind fun b=>
  (y4H p0 p1 p2 b).bind fun a=>
  some (a.1,a.2.1)
theorem ybi{p1:Int}{p2:LI}{r:LI×Bool}(hm:y5D p0 p1 p2=some r):
    F0 80 [.a (lx60 p0),.i p1,.f qI p2] [] (.tp [.f qI r.1,.b r.2]) []:=by
  refine Fw.mk2 func80 ntmps80 R (fun C=>?_) R;refine .sr (.bo 0 R (.sa R (.an R (.seq (.sv R (.fa y4o R (.lb nag3 R (.bi R (.ns ?_)))))))));refine .cc hm R (fun hm=>?_) fun hm=>?_
  ·refine .sr (.sa R (.an R (.ret (.seqR (.cnt 6 R (.c (.nf (r:=qI)) .n) R ?_)))));cases hm;exact .r0 results80 (.tmp R (.tmp R .nil)) R R
  ·refine .sn (.seq ?_);refine .sub (τ:=⟨[(3,.q 0 0),(1,.i p1),(2,.f qI p2)],[(0,.bx 60 (lx60 p0))],1⟩) ?_ [] R;refine bS hm fun h d hm=>bS hm fun g e hm=>?_;refine .drw [(1,[]),(1,[]),(1,[]),(1,[]),(1,[oF,oF,oF,oT]),(1,tT 5),(1,tT 6),(1,tT 7),(1,tT 7),(1,tT 7),(1,tT 8),(1,tA 9 (fA 1 (tT 1))),(1,tT 12)] [_,_,_,_,_,_,_,_,_,_,_,_,_] ⟨[(9,.b g.2.1),(8,.f qI g.1)],[],1⟩ ⟨O.lg (l':=(lx60 p0)) ag60 Z R (.B R) R R R,zM R,zM R,O.lg (l':=(lx60 p0)) ag60 Z R (.B R) R R R,O.ca0 (r:= .f qI h) (Fw.fz (ybL d)) cf157 R R Z R R R,O.ca0 (ycT e) cf156 R R Z R R R,zM R,O.ex Z R R R,O.ex Z R R R,O.ex Z R R R,O.as Z R R,O.as Z R R,O.as Z R R,trivial⟩ (by kernel_rfl) R ?_;refine .seqN (.sv R (.mv R (.sa R (.an R (.ret ?_)))));cases hm;exact .r0 results80 (.tmp R (.tmp R .nil)) R R
def y1D(p0:List AutT):Option (LI×Bool×Int):=
 (y1j p0).bind fun a=>
 if(a.2.2 != 0) then
  some (([]:LI),false,a.2.2)
 else
  (y4V a.1 a.1.2.2.1).bind fun c=>
  (y5C c).bind fun d=>
  (y5D a.1 0 d).bind fun b=>
  some (b.1,(!b.2),0)
theorem y6D{p0:List AutT}{r:LI×Bool×Int}(hm:y1D p0=some r):
    F0 20 [.f rE60 p0] [] (.tp [.f qI r.1,.b r.2.1,.i r.2.2]) []:=by
  refine Fw.mk2 func20 ntmps20 R (fun C=>?_) R;refine .sr (.sa R (.sa R (.an R (.sv R (bS hm fun d e hm=> .cm (r':= .tp [.a [lH 0,lI d.1.2.1,lH 1,lH 2],.h 3,.i d.2.2]) [0,1,2,3] [(0,rwI d.1.1),(1,rwI d.1.2.2.1),(2,ROW qT 112 d.1.2.2.2),(3,ROW (rL qI) 26 d.2.1)] (some 4) (y8R e) cf79 R ⟨⟨_,R,I4⟩,⟨_,R,I4⟩,⟨_,R,I4⟩,⟨_,R,I4⟩,trivial⟩ R (.mv R (.ex R (.ex R (.ex R (.al 4 zz60 R (.st ag60.sz R (.sa R (.an R (.seq (.sv R (.bi R (.ns ?_)))))))))))))))));refine .cc hm R (fun hm=>?_) fun hm=>?_
  ·refine .sv R (.sa R (.sa R (.an R (.ret (.seqR (.cnt 2 R (.c (.nf (r:=qI)) .n) R ?_))))));cases hm;exact .r0 results20 (.tmp R (.tmp R (.tmp R .nil))) R R
  ·refine .sn (.seq (.fz 0 [11,8,10] [4] R R fR R R (.fz 1 [11,8,10] [4] R R fR R R (.fz 2 [11,8,10] [4] R R fR R R ?_))));refine .sub (τ:=⟨[(5,.q 4 0)],[(4,.bx 60 (lx60 d.1))],5⟩) ?_ [] R;refine bS hm fun o g hm=>bS hm fun p j hm=>bS hm fun m k hm=>?_;refine .drw [(5,[]),(5,[]),(5,[]),(5,[oF,oF,oT]),(5,fA 1 (tT 3)),(5,fA 1 (tT 4)),(5,tT 6),(5,tT 7),(5,tT 8),(5,tT 8),(5,tT 9),(5,tT 11)] [_,_,_,_,_,_,_,_,_,_,_,_] ⟨[(7,.b m.2),(2,.f qI m.1)],[],5⟩ ⟨O.lg (l':=(lx60 d.1)) ag60 Z R (.B R) R R R,O.lg (l':=(lx60 d.1)) ag60 Z R (.B R) R R R,O.faP y6v Z R R,zB nag26 R,O.ca0 (r:= .f qI o) (Fw.fz (yay g)) cf82 R R Z R R R,O.ca0 (r:= .f qI p) (Fw.fz (yac j)) cf81 R R Z R R R,O.ca0 (ybi k) cf80 R R Z R R R,zM R,O.ex Z R R R,O.ex Z R R R,O.as Z R R,O.as Z R R,trivial⟩ (by kernel_rfl) R ?_;refine .seqN (.sv R (.mv R (.no R (.sa R (.sa R (.an R (.ret ?_)))))));cases hm;exact .r0 results20 (.tmp R (.tmp R (.tmp R .nil))) R R
def y3w(p0:List AutT):Option (LI×Bool×Int):=
 (y1D p0).bind fun a=>
 if(a.2.2 != 0) then
  some (([]:LI),false,a.2.2)
 else
  some (a.1,(!a.2.1),0)
theorem y6Q{p0:List AutT}{r:LI×Bool×Int}(hm:y3w p0=some r):
    F0 19 [.f rE60 p0] [] (.tp [.f qI r.1,.b r.2.1,.i r.2.2]) []:=by
  refine Fw.mk2 func19 ntmps19 R (fun C=>?_) R;refine .sr (.sa R (.sa R (.an R (.sv R (bS hm fun d a hm=> .c0 (y6D a) cf20 R (.mv R (.ex R (.ex R (.ex R (.sa R (.sa R (.an R (.seq (.sv R (.bi R (.ns ?_))))))))))))))));refine .cc hm R (fun hm=>?_) fun hm=>?_
  ·refine .sv R (.sa R (.sa R (.an R (.ret (.seqR (.cnt 2 R (.c (.nf (r:=qI)) .n) R ?_))))));cases hm;exact .r0 results19 (.tmp R (.tmp R (.tmp R .nil))) R R
  ·refine .sn (.sv R (.mv R (.no R (.sa R (.sa R (.an R (.ret ?_)))))));cases hm;exact .r0 results19 (.tmp R (.tmp R (.tmp R .nil))) R R
def y4q(p0:List (Int×Int×Int)):Option EdgL:=
 (app ([]:List (Int×Int×Int)) p0).bind fun a=>
 some a
theorem y9I{p0:List (Int×Int×Int)}{r:EdgL}(hm:y4q p0=some r):
  F0 147 [.f qT p0] [] (.h 0) [ROW qT 112 r]:=by
 unfold y4q at hm;refine Fw.mk2 func147 ntmps147 R (fun C=>?_) R;refine .sr (.an R (.seq (.sv R (.op (O.nil? underlying27 Z R R R) R (.ns ?_)))));refine .cN R (fun hz=>?_) ?_
 ·subst hz;replace hm:some ([]:List (Int×Int×Int))=some r:=by simpa [app,slc,slc3] using hm
  refine .sr (.an R (.ret (.seqR (.nlg qT 112 2 0 R R ?_))));cases hm;exact .rr [0] results147 (.tmp R .nil) R I3 ⟨⟨_,R,I4⟩,trivial⟩
 ·skip
  refine .sn (.sr (.op (O.b0O (r:=qT) 0 R bs27 R Z R) R (.mv R (bS hm fun b a hm=> .ap 1 underlying27 el112 R R (.fr R) a (.an R (.ret ?_))))));cases hm;exact .rr [1] results147 (.tmp R .nil) R I3 ⟨⟨_,R,I4⟩,trivial⟩
def y1y(p0:AutT)(b:LI)(c:LI)(d:EdgL)(a:LI):Option ((LI×Int×LI×LI×EdgL)×Int):=
 some ((b,p0.2.1,a,c,d),0)
def y1s(p0:AutT):Option ((LI×Int×LI×LI×EdgL)×Int):=
 (y4c p0).bind fun a=>
 if(a != 0) then
  some ((([]:LI),0,([]:LI),([]:LI),([]:List (Int×Int×Int))),a)
 else
  (yn p0.1).bind fun b=>
  (yn p0.2.2.1).bind fun c=>
  (y4q p0.2.2.2).bind fun d=>
  if decide (p0.2.1>0) then
   y1y p0 b c d ([0]:LI)
  else
   y1y p0 b c d ([]:LI)
theorem y6n{r:(LI×Int×LI×LI×EdgL)×Int}(hm:y1s p0=some r):
    F0 74 [.a (lx60 p0)] [] (.tp [.a [lH 0,lI r.1.2.1,lF qI r.1.2.2.1,lH 1,lH 2],.i r.2]) [rwI r.1.1,rwI r.1.2.2.2.1,ROW qT 112 r.1.2.2.2.2]:=by
  refine Fw.mk2 func74 ntmps74 R (fun C=>?_) R;refine .sr (.bo 0 R (.al 1 zz29 R (.an R (.seq (.sr (.lg (lx60 p0) ag60 R (.B R) R (bS hm fun s j hm=> .c0 (y7w j) cf114 R (.an R (.sv R (.bi R (.ns ?_)))))))))));refine .cc hm R (fun hm=>?_) fun hm=>?_
  ·refine .sr (.bu [lN,lI 0,lN,lN,lN] pl29 R (.mv R (.st ag29.sz R (.an R (.ret (.seqR (.nlb qI 3 1 0 R R (.nlb qI 3 1 3 R R (.nlb qT 112 1 4 R R (.cno 1 R (.c .rf (.c .rf (.c (.nf (r:=qI)) .rf))) R ?_))))))))));cases hm;exact .rr [2,3,4] results74 (.cell R R ag29 R (.tmp R .nil)) R I3 ⟨⟨_,R,I4⟩,⟨_,R,I4⟩,⟨_,R,I4⟩,trivial⟩
  ·refine .sn (.seq ?_);refine .sub (τ:=⟨[(2,.q 1 0),(1,.q 0 0)],[(1,.bx 29 [lN,lI 0,lN,lN,lN]),(0,.bx 60 (lx60 p0))],2⟩) ?_ [] R;refine bS hm fun d m hm=>bS hm fun e o hm=>bS hm fun f p hm=>?_;refine .drz 6 [(12,5)] [(2,[],[],[]),(2,[oT],[],[]),(2,[oT,oT],[],[]),(2,[],[],[]),(2,[oF,oF,oF,oT],[],[]),(2,[],[],[]),(2,[oF,oF,oF,oF,oF,oT],[],[]),(3,tA 3 (fA 2 (tT 2)),[],[]),(2,[],[],[]),(2,[oF,oF,oF,oF,oF,oF,oF,oF,oT],[],[]),(4,tA 3 (fA 2 (tT 5)),[],[]),(5,tT 11,[],[]),(2,[],[],[]),(6,tT 13,[],[])] [_,_,_,_,_,_,_,_,_,_,_,_,_,_] ⟨[(5,.q 5 0),(2,.q 1 0),(1,.q 0 0)],[(5,.bx 29 [lH 2,lI p0.2.1,lN,lH 3,lH 4]),(2,rwI d),(3,rwI e),(4,ROW qT 112 f),(1,.bx 29 [lN,lI 0,lN,lN,lN]),(0,.bx 60 (lx60 p0))],6⟩ ⟨O.faP y5U Z R R,zB nag26 R,O.ca (r':= .h 2) [2] [(0,rwI d)] (some 3) (yC m) cf58 R R Z R R R R ⟨⟨_,R,I4⟩,trivial⟩ I3 R,O.faP y4o Z R R,zB nag3 R,O.faP y6v Z R R,zB nag26 R,O.ca (r':= .h 3) [3] [(0,rwI e)] (some 4) (yC o) cf58 R R Z R R R R ⟨⟨_,R,I4⟩,trivial⟩ I3 R,O.faP y5A Z R R,zB nag27 R,O.ca (r':= .h 4) [4] [(0,ROW qT 112 f)] (some 5) (y9I p) cf147 R R Z R R R R ⟨⟨_,R,I4⟩,trivial⟩ I3 R,O.bu (l:=[lH 2,lI p0.2.1,lN,lH 3,lH 4]) pl29 R Z R R R,O.al 5 R zz29 R Z R,O.st ag29.sz Z R R R R R,trivial⟩ (by kernel_rfl) R ?_;refine .seqN ?_;refine .join1 (fun (b:LI)=>y1y p0 d e f b=some r) (fun b=>⟨[(5,.q 0 0),(2,.q 4 0)],[(0,.bx 29 [lH 1,lI p0.2.1,lF qI b,lH 2,lH 3]),(1,rwI d),(2,rwI e),(3,ROW qT 112 f),(4,.bx 29 [lN,lI 0,lN,lN,lN])],5⟩) ?_ ?_
   · intro b hm;refine .sr (.lg [lH 1,lI p0.2.1,lF qI b,lH 2,lH 3] ag29 R (.B R) R (.st ag29.sz R (.an R (.ret ?_))));cases hm;exact .rr [1,2,3] results74 (.cell R R ag29 R (.tmp R .nil)) R I3 ⟨⟨_,R,I4⟩,⟨_,R,I4⟩,⟨_,R,I4⟩,trivial⟩
   · intro g;refine .sr (.fa y4o R (.lb nag3 R (.bi R (.ns ?_))));exact .cc hm R (fun hm=> .reg (.bf (r:=qI) ([0]:LI) bs26 R (.c .k .n) R (.fa y6t R (.st nag26.sz R (.nil ((g _ hm).sub [(0,5),(1,2),(2,3),(3,4),(4,1)] R)))))) fun hm=> .skip (.cno 5 R (.c .rf (.c .rf (.c (.nf (r:=qI)) .rf))) R ((g _ hm).sub [(0,5),(1,2),(2,3),(3,4),(4,1)] R))
def y3g(a:List KeyT)(b:List (Int×Int))(c:Int):Option (Int×(List KeyT)×(List (Int×Int))):=
 some (c,a,b)
def y2N(a:List KeyT)(b:List (Int×Int))(p0:Int×Int):Option (Int×(List KeyT)×(List (Int×Int))):=
 if(!((kget a p0).isSome)) then
  (app b ([p0]:List (Int×Int))).bind fun c=>
  y3g (kput a p0 (b.length:Int)) c (b.length:Int)
 else
  y3g a b ((kget a p0).getD 0)
theorem y6o{g:List KeyT}{b:List (Int×Int)}{p0:Int×Int}{r:Int×(List KeyT)×(List (Int×Int))}(hm:y2N g b p0=some r):
  Fw prog 67 ⟨4,[0,1,2,3]⟩ [.a [lI p0.1,lI p0.2],.o (lP 0 0),.o (lP 2 0)] [.bx 128 [lH 1],MAP kvP qI 128 g,.bx 34 [lH 3],ROW rE70 70 b] (.i r.1) [.bx 128 [lH 4],.u,.bx 34 [lH 5],.u,MAP kvP qI 128 r.2.1,ROW rE70 70 r.2.2]:=by
 refine Fw.mk2 func67 ntmps67 R (fun C=>?_) R;refine .mvb 1 0 0 R R R R (.mvb 3 2 0 R R R R (.sr (.bo 6 R (.an R (.sr (.lb ych R (.lg [lI p0.1,lI p0.2] ag70 R (.B R) R (.op (O.mi2 (k:=p0) md128 Z (.ow R R) (.a R R) R) R (.mv R (.ex R (.ex R (.sa R (.an R ?_)))))))))))));refine .join3 (fun (d:List KeyT) (e:List (Int×Int)) (f:Int)=>y3g d e f=some r) (fun d e f=>⟨[(5,.i f)],[(0,.bx 128 [lH 4]),(4,MAP kvP qI 128 d),(2,.bx 34 [lH 5]),(5,ROW rE70 70 e)],6⟩) ?_ ?_
 ·intro d e f hm;refine .sv R (.an R (.ret (.ou 1 R (.ou 3 R ?_))));cases hm;exact .rr [0,1,2,3,4,5] results67 (.tmp R .nil) R I3 ⟨⟨_,R,I4⟩,⟨_,R,fun _ _ _ _ _=>trivial⟩,⟨_,R,I4⟩,⟨_,R,fun _ _ _ _ _=>trivial⟩,⟨_,R,I4⟩,⟨_,R,I4⟩,trivial⟩
 ·intro h;refine .sv R (.no R (.ns ?_));refine .cc hm R (fun hm=>?_) fun hm=> .skip ((h _ _ _ hm).s0 R);refine .sr (.lb nag34 R (.lh sl34 R (.an R ?_)));refine .sub (τ:=⟨[(5,.i b.length),(3,.q 6 0),(1,.q 0 0),(2,.q 2 0)],[(0,.bx 128 [lH 4]),(4,MAP kvP qI 128 g),(2,.bx 34 [lH 5]),(5,ROW rE70 70 b),(6,.bx 70 [lI p0.1,lI p0.2])],7⟩) ?_ [] R;refine bS hm fun m j hm=>?_;refine .drd 8 [(7,[],[5]),(7,[],[5]),(7,[],[5]),(7,[],[]),(7,[],[]),(7,[oF,oF,oF,oF,oT],[]),(7,fA 3 (tT 3),[]),(8,tT 7,[]),(8,tT 8,[])] [_,_,_,_,_,_,_,_,_] ⟨[(5,.i b.length)],[(0,.bx 128 [lH 4]),(4,MAP kvP qI 128 (kput g p0 (b.length:Int))),(2,.bx 34 [lH 7]),(7,ROW rE70 70 m)],8⟩ ⟨zB ych R,O.lg (l':=[lI p0.1,lI p0.2]) ag70 Z R (.B R) R R R,zM R,zB nag34 R,O.lg (l':=[lI p0.1,lI p0.2]) ag70 Z R (.B R) R R R,O.bsF (r:=rE70) (zs:=([p0]:List (Int×Int))) bs34 R R Z R R R (.c (.p .k .k) .n) R R R,O.ap 7 underlying34 el70 R R Z R R (.fr R) j R,O.mu (k:=p0) (v:=(b.length:Int)) md128 (fun _ _=>eqP) Z R R (.a R R) R .k,O.st nag34.sz Z R R R R R,trivial⟩ (by kernel_rfl) R ?_;exact(h _ _ _ hm).sub [(5,7)] R
def y4D(p1:LI)(b:Int)(a:Int×(List (Int×Int))):Option ((Int×(List (Int×Int)))⊕(List (Int×Int))):=
 if decide (a.1<(p1.length:Int)) then
  (idx p1 a.1).bind fun c=>
  (app a.2 ([(b,c)]:List (Int×Int))).bind fun d=>
  some (.inl (W (a.1+1),d))
 else
  some (.inr a.2)
def y4E(p0:LI)(p1:LI)(a:Int×(List (Int×Int))):Option ((Int×(List (Int×Int)))⊕(List (Int×Int))):=
 if decide (a.1<(p0.length:Int)) then
  (idx p0 a.1).bind fun c=>
  (iter (y4D p1 c) (0,a.2)).bind fun b=>
  some (.inl (W (a.1+1),b))
 else
  some (.inr a.2)
def yP(p0:LI)(p1:LI):Option (List (Int×Int)):=
 (iter (y4E p0 p1) (0,([]:List (Int×Int)))).bind fun a=>
 some a
theorem y1Z{p0:LI}{r:(List (Int×Int))}(hm:yP p0 p1=some r):
  F0 68 [.f qI p0,.f qI p1] [] (.h 0) [ROW rE70 70 r]:=by
 refine Fw.mk2 func68 ntmps68 R (fun C=>?_) R;refine .sr (.an R (.sr (.an R (.seq (.sv R (.ln sl26 R (.mv R (.ns (.block (bS hm fun d l hm=>?_))))))))));refine .cut1 (z:= .exit 0) d (fun (d:(List (Int×Int)))=>⟨[(5,.h 0)],[(0,ROW rE70 70 d)],1⟩) ?_ fun x=>?_
 ·skip
  refine .blkE (.seqN (.sv R (.an R (.ret ?_))));cases hm;exact .rr [0] results68 (.tmp R .nil) R I3 ⟨⟨_,R,I4⟩,trivial⟩
 refine .nlg rE70 70 5 0 R R (.iter (fun (a:Int×(List (Int×Int)))=>⟨[(12,.i a.1),(11,.i p0.length),(10,.f qI p0),(5,.h 0),(1,.f qI p1)],[(0,ROW rE70 70 a.2)],1⟩) l [] R ?_);intro a B hm v t;refine .sr (.bi R (.ns (.seq ?_)));refine .cc hm R (fun hm=>?_) fun hm=> .xx ((x _ (t _ (oj hm))).s0 R);refine .sn (.seq (.block (.sr (bS hm fun g o hm=> .ix sl26 o R (.le nag3 lv3 R (.an R (.sv R (.ln sl26 R (.mv R (.ns (.block (bS hm fun e m hm=>?_))))))))))));refine .cut1 (z:= .exit 2) e (fun (e:(List (Int×Int)))=>⟨[(12,.i a.1),(11,.i p0.length),(10,.f qI p0),(5,.h 0),(1,.f qI p1)],[(0,ROW rE70 70 e)],1⟩) ?_ fun y=>?_
 ·skip
  exact .blkE (.blkN (.seqN (.reg (.bi R (.mv R (.nil ((v _ (oj hm)).s0 R)))))))
 refine .iter (fun (b:Int×(List (Int×Int)))=>⟨[(18,.i b.1),(17,.i p1.length),(16,.f qI p1),(7,.i g),(12,.i a.1),(11,.i p0.length),(10,.f qI p0),(5,.h 0),(1,.f qI p1)],[(0,ROW rE70 70 b.2)],1⟩) m [] R ?_;intro b D hm w u;refine .sr (.bi R (.ns (.seq ?_)));exact .cc hm R (fun hm=> .sn (.seq (.block (.sr (bS hm fun j q hm=> .ix sl26 q R (.le nag3 lv3 R (.an R (.reg (.mv R (.mv R (.mv R (.bu [lI g,lI j] pl70 R (.bf (r:=rE70) ([(g,j)]:List (Int×Int)) bs34 R (.c (.p .k .k) .n) R (bS hm fun E s hm=> .ap 1 underlying34 el70 R R (.fr R) s (.sa R (.nil (.blkN (.seqN (.reg (.bi R (.mv R (.nil ((w _ (oj hm)).sub [(0,1)] R))))))))))))))))))))))) fun hm=> .xx ((y _ (u _ (oj hm))).s0 R)
def y5u(p0:Int×Int×Int)(p1:Int×Int×Int):Option Int:=
 (yx p0.1 p1.1).bind fun a=>
 (yx p0.2.1 p1.2.1).bind fun b=>
 (yx p0.2.2 p1.2.2).bind fun c=>
 (y5V ([a,b,c]:LI)).bind fun d=>
 some d
theorem y8l{p0:Int×Int×Int}{p1:Int×Int×Int}{r:Int}(hm:y5u p0 p1=some r):
  F0 228 [.a [lI p0.1,lI p0.2.1,lI p0.2.2],.a [lI p1.1,lI p1.2.1,lI p1.2.2]] [] (.i r) []:=by
 refine Fw.mk2 func228 ntmps228 R (fun C=>?_) R;refine .sr (.bo 0 R (.bo 1 R (.an R (.seq ?_))));refine .sub (τ:=⟨[(3,.q 1 0),(2,.q 0 0)],[(1,.bx 112 [lI p1.1,lI p1.2.1,lI p1.2.2]),(0,.bx 112 [lI p0.1,lI p0.2.1,lI p0.2.2])],2⟩) ?_ [] R;refine bS hm fun g b hm=>bS hm fun h d hm=>bS hm fun j e hm=>bS hm fun l f hm=>?_;refine .drw [(2,[]),(2,[oT]),(2,[]),(2,[oF,oF,oT]),(2,tT 4),(2,[]),(2,[oF,oF,oF,oF,oF,oT]),(2,[]),(2,[oF,oF,oF,oF,oF,oF,oF,oT]),(2,tT 9),(2,[]),(2,[oF,oF,oF,oF,oF,oF,oF,oF,oF,oF,oT]),(2,[]),(2,[oF,oF,oF,oF,oF,oF,oF,oF,oF,oF,oF,oF,oT]),(2,tT 14),(2,tT 15),(2,tT 16),(2,tT 17)] [_,_,_,_,_,_,_,_,_,_,_,_,_,_,_,_,_,_] ⟨[(4,.i l)],[],2⟩ ⟨O.faP yS Z R R,zB nag3 R,O.faP yS Z R R,zB nag3 R,O.ca0 (yJ b) cf65 R R Z R R R,O.faP y1V Z R R,zB nag3 R,O.faP y1V Z R R,zB nag3 R,O.ca0 (yJ d) cf65 R R Z R R R,O.faP y1W Z R R,zB nag3 R,O.faP y1W Z R R,zB nag3 R,O.ca0 (yJ e) cf65 R R Z R R R,O.bsF (r:=qI) (zs:=([g,h,j]:LI)) bs26 R R Z R R R (.c .k (.c .k (.c .k .n))) R R R,O.ca0 (y7z f) cf64 R R Z R R R,O.as Z R R,trivial⟩ (by kernel_rfl) R ?_;refine .seqN (.ret ?_);cases hm;exact .r0 results228 (.tmp R .nil) R R
def y3R(p0:LI×Int×LI×LI×EdgL)(p1:Int)(p2:Int)(a:LI×Int):Option ((LI×Int)⊕LI):=
 (if decide (a.2<(p0.2.2.2.2.length:Int)) then
  (idx p0.2.2.2.2 a.2).bind fun g=>
  some (g.1==p1)
 else
  some false).bind fun b=>
 (if b then
  (idx p0.2.2.2.2 a.2).bind fun f=>
  some (f.2.1==p2)
 else
  some false).bind fun c=>
 if c then
  (idx p0.2.2.2.2 a.2).bind fun d=>
  (app a.1 ([d.2.2]:LI)).bind fun e=>
  some (.inl (e,W (a.2+1)))
 else
  some (.inr a.1)
def y3x(p0:LI×Int×LI×LI×EdgL)(p1:Int)(p2:Int):Option LI:=
 (yk p0.2.2.2.2 (p1,p2,(-1)) y5u).bind fun b=>
 (iter (y3R p0 p1 p2) (([]:LI),b.1)).bind fun a=>
 some a
theorem y6R{p0:LI×Int×LI×LI×EdgL}{p1:Int}{p2:Int}{r:LI}(hm:y3x p0 p1 p2=some r):
  F0 142 [.a (lx29 p0),.i p1,.i p2] [] (.h 0) [rwI r]:=by
 refine Fw.mk2 func142 ntmps142 R (fun C=>?_) R;refine .sr (.bo 0 R (.an R (.sr (.fa y2f R (.lb nag27 R (.mv R (.mv R (.bu [lI p1,lI p2,lI (-1)] pl112 R (bS hm fun K E hm=> .op (O.ca0c (y1p E) cf227 R R Z R ⟨⟨R,.rf⟩,⟨R,.rf⟩,⟨R,(.c (.fn cf228 (fun x r h=>y8l h) (fun _=>R)) .n)⟩,trivial⟩ R R) R (.mv R (.ex R (.ex R (.sa R (.an R (.sr (.an R (.seq (.block (bS hm fun f o hm=>?_)))))))))))))))))));refine .cut1 (z:= .exit 0) f (fun (f:LI)=>⟨[(9,.h 0)],[(0,rwI f)],1⟩) ?_ fun y=>?_
 ·skip
  refine .blkE (.seqN (.sv R (.an R (.ret ?_))));cases hm;exact .rr [0] results142 (.tmp R .nil) R I3 ⟨⟨_,R,I4⟩,trivial⟩
 refine .nlg qI 3 9 0 R R (.iter (fun (e:LI×Int)=>⟨[(9,.h 0),(7,.i e.2),(3,.q 1 0),(1,.i p1),(2,.i p2)],[(0,rwI e.1),(1,.bx 29 (lx29 p0))],2⟩) o [(0,1),(1,0)] R ?_);intro e I hm w v;refine .seq (.sv R (.fa y2f R (.lb nag27 R (.ln sl27 R (.bi R (.mv R (bS hm fun B eb19 hm=>?_)))))));refine .cut 9 (fun (g:Bool)=>B=g) (fun g=>⟨[(33,.b g),(9,.h 0),(7,.i e.2),(3,.q 1 0),(1,.i p1),(2,.i p2)],[(0,rwI e.1),(1,.bx 29 (lx29 p0))],2⟩) ?_ ?_
 ·rintro _ rfl;refine .mv R (bS hm fun D eb22 hm=>?_);refine .cut 9 (fun (j:Bool)=>D=j) (fun j=>⟨[(43,.b j),(9,.h 0),(7,.i e.2),(3,.q 1 0),(1,.i p1),(2,.i p2)],[(0,rwI e.1),(1,.bx 29 (lx29 p0))],2⟩) ?_ ?_
  ·rintro _ rfl;exact .ns (.cc hm R (fun hm=> .sn (.seq (.block (.reg (.mv R (.fa y2f R (.lb nag27 R (.mv R (bS hm fun F p hm=> .ix sl27 p R (.fe y1W R (.le nag3 lv112 R (.bf (r:=qI) ([F.2.2]:LI) bs26 R (.c .k .n) R (bS hm fun J s hm=> .ap 2 underlying26 el3 R R (.fr R) s (.sa R (.nil (.blkN (.seqN (.reg (.mv R (.bi R (.sa R (.nil ((w _ (oj hm)).sub [(0,2)] R))))))))))))))))))))))) fun hm=> .xx ((y _ (v _ (oj hm))).s0 R))
  ·intro m;rcases ifS eb22 with ⟨hc,hm⟩|⟨hc,hm⟩
   ·refine .know (d:=34) R hc ?_;exact .fag y2f R (.lbg nag27 R (.mg R (bS hm fun G t hm=> .op (O.ix sl27 (Gu.mk R R) R R t R) R (.op (O.faE y1V (Gu.mk R R) R R) R (.leg nag3 lv112 R (.mg R (.bg R (.pT R ((m (G.2.1==p2) (oj hm)).s0 R)))))))))
   ·refine .know (d:=34) R hc ?_;exact .s2 R R (.s2 R R (.s2 R R (.s2 R R (.pF R ((m false (oj hm)).s0 R)))))
 ·intro l;rcases ifS eb19 with ⟨hc,hm⟩|⟨hc,hm⟩
  ·refine .know (d:=24) R hc ?_;exact .fag y2f R (.lbg nag27 R (.mg R (bS hm fun H u hm=> .op (O.ix sl27 (Gu.mk R R) R R u R) R (.op (O.faE yS (Gu.mk R R) R R) R (.leg nag3 lv112 R (.mg R (.bg R (.pT R ((l (H.1==p1) (oj hm)).s0 R)))))))))
  ·refine .know (d:=24) R hc ?_;exact .s2 R R (.s2 R R (.s2 R R (.s2 R R (.pF R ((l false (oj hm)).s0 R)))))
def y4j(p0:LI)(p1:LI)(a:Int):Option (Int⊕(Unit⊕Int)):=
 if decide (a<(p0.length:Int)) then
  (idx p0 a).bind fun c=>
  if decide (a≥(p1.length:Int)) then
   some (.inr (.inr (1)))
  else
   (idx p1 a).bind fun d=>
   (yx c d).bind fun b=>
   if(b != 0) then
    some (.inr (.inr (b)))
   else
    some (.inl (W (a+1)))
 else
  some (.inr (.inl ()))
def y3S(p0:LI)(p1:LI):Option Int:=
 (iter (y4j p0 p1) 0).bind fun b=>
 match b with
 | .inl c=>
  if decide ((p0.length:Int)<(p1.length:Int)) then
   some (-1)
  else
   some 0
 | .inr (a)=>
  some a
theorem y9r{p0:LI}{r:Int}(hm:y3S p0 p1=some r):
    F0 36 [.f qI p0,.f qI p1] [] (.i r) []:=by
  refine Fw.mk2 func36 ntmps36 R (fun C=>?_) R;refine .sr (.an R (.seq (.sv R (.ln sl26 R (.mv R (.ns (.block (bS hm fun m k hm=>?_))))))));refine .cutU (z:= .exit 0) (fun j=> .inl j=m) (fun (j:Unit)=>⟨[(0,.f qI p0),(1,.f qI p1)],[],0⟩) ?_ fun K9=>?_
  · rintro j rfl;dsimp only at hm;refine .blkE (.seqN (.seq (.sv R (.ln sl26 R (.mv R (.ln sl26 R (.bi R (.ns ?_))))))));refine .cc hm R (fun hm=>?_) fun hm=>?_
    ·refine .sr (.an R (.ret (.seqR ?_)));cases hm;exact .r0 results36 (.tmp R .nil) R R
    ·refine .sn (.sr (.an R (.ret ?_)));cases hm;exact .r0 results36 (.tmp R .nil) R R
  refine .cutU (z:= .ret) (fun a=> .inr (a)=m) (fun (a:Int)=>⟨[(4,.i a)],[],0⟩) ?_ fun c=>?_
  · rintro a rfl;dsimp only at hm;refine .blkR (.seqR ?_);cases hm;exact .r0 results36 (.tmp R .nil) R R
  refine .iter (fun (d:Int)=>⟨[(11,.i d),(10,.i p0.length),(9,.f qI p0),(0,.f qI p0),(1,.f qI p1)],[],0⟩) k [] R ?_;intro d n hm l b;refine .sr (.bi R (.ns (.seq ?_)));refine .cc hm R (fun hm=>?_) fun hm=> .xx ((K9 _ (b _ (oj hm))).s0 R);refine .sn (.seq (.block (.sv R (bS hm fun p g hm=> .ix sl26 g R (.le nag3 lv3 R (.sa R (.an R (.seq (.sv R (.mv R (.ln sl26 R (.bi R (.ns ?_)))))))))))));refine .cc hm R (fun hm=> .sr (.an R (.ret (.seqR (.blkR (.seqR (.seqR ((c _ (b _ (oj hm))).s0 R)))))))) fun hm=>?_;refine .sn (.sv R (.mv R (bS hm fun q h hm=> .ix sl26 h R (.le nag3 lv3 R (.an R (.sv R (.mv R (bS hm fun o e hm=> .c0 (yJ e) cf65 R (.an R (.sv R (.bi R (.ns ?_))))))))))));exact .cc hm R (fun hm=> .sv R (.an R (.ret (.blkR (.seqR (.seqR ((c _ (b _ (oj hm))).s0 R))))))) fun hm=> .skip (.blkN (.seqN (.reg (.bi R (.mv R (.nil ((l _ (oj hm)).s0 R)))))))
def yj(p0:Int×Int)(p1:Int×Int):Option Int:=
 (y3S ([p0.1,p0.2]:LI) ([p1.1,p1.2]:LI)).bind fun a=>
 some a
theorem y8S{p0:Int×Int}{p1:Int×Int}{r:Int}(hm:yj p0 p1=some r):
  F0 143 [.a [lI p0.1,lI p0.2],.a [lI p1.1,lI p1.2]] [] (.i r) []:=by
 refine Fw.mk2 func143 ntmps143 R (fun C=>?_) R;refine .sr (.bo 0 R (.bo 1 R (.an R (.seq (.fz 0 [2] [] R R fB R R (.fz 1 [3] [] R R fB R R ?_))))));refine .sub (τ:=⟨[(3,.o (lQ 70 [lI p1.1,lI p1.2] 0)),(2,.o (lQ 70 [lI p0.1,lI p0.2] 0))],[],2⟩) ?_ [] R;refine bS hm fun d b hm=>?_;refine .draw [[],[],[0,1],[0,1,2]] [_,_,_,_] ⟨[(4,.i d)],[],2⟩ ⟨O.slA (r:=qI) (xs:=[p0.1,p0.2]) (i:=0) (j:=2) ar70 Z R (.c .k (.c .k .n)) R R rfl rfl R R R,O.slA (r:=qI) (xs:=[p1.1,p1.2]) (i:=0) (j:=2) ar70 Z R (.c .k (.c .k .n)) R R rfl rfl R R R,O.ca0 (y9r b) cf36 R R Z R R R,O.as Z R R,trivial⟩ (by kernel_rfl) R ?_;refine .seqN (.ret ?_);cases hm;exact .r0 results143 (.tmp R .nil) R R
def y1C(a:(List (Int×Int))×Int×Int)(b:List (Int×Int))(c:Int):Option (((List (Int×Int))×Int×Int)⊕((List (Int×Int))×Int)):=
 some (.inl (b,W (a.2.1+1),c))
def y3I(b:Int)(a:(List (Int×Int))×Int×Int):Option (((List (Int×Int))×Int×Int)⊕((List (Int×Int))×Int)):=
 if decide (a.2.1<((a.1.length-b.toNat:Nat):Int)) then
  (idxV a.1 b.toNat a.2.1).bind fun c=>
  (idxV a.1 b.toNat (W (a.2.1-1))).bind fun d=>
  if(!(c==d)) then
   (idxV a.1 b.toNat a.2.1).bind fun e=>
   (idx a.1 a.2.2).bind fun g=>
   (upd a.1 a.2.2 e).bind fun f=>
   y1C a f (W (a.2.2+1))
  else
   y1C a a.1 a.2.2
 else
  some (.inr (a.1,a.2.2))
def y3J(p0:List (Int×Int))(a:Int):Option (Int⊕(Unit⊕(List (Int×Int)))):=
 if decide (a<(p0.length:Int)) then
  (idx p0 a).bind fun c=>
  (idx p0 (W (a-1))).bind fun d=>
  if(c==d) then
   (slc p0 a (p0.length:Int)).bind fun _=>
   (iter (y3I a) (p0,1,a)).bind fun b=>
   (slc b.1 b.2 (b.1.length:Int)).bind fun _=>
   (slc (b.1.take b.2.toNat++List.replicate (b.1.length-b.2.toNat) ((0:Int),(0:Int))) 0 b.2).bind fun e=>
   some (.inr (.inr (e)))
  else
   some (.inl (W (a+1)))
 else
  some (.inr (.inl ()))
def yM(p0:List (Int×Int)):Option (List (Int×Int)):=
 if decide ((p0.length:Int)<2) then
  some p0
 else
  (iter (y3J p0) 1).bind fun a=>
  match a with
  | .inl c=>
   some p0
  | .inr (b)=>
   some b
theorem y7v{p0:List (Int×Int)}{r:(List (Int×Int))}(hm:yM p0=some r):
    Fw prog 96 ⟨1,[0]⟩ [.h 0] [ROW rE70 70 p0] (.f rE70 r) [.u]:=by
  refine Fw.mk2 func96 ntmps96 R (fun C=>?_) R;refine .sr (.an R (.seq (.sv R (.lh sl34 R (.bi R (.ns ?_))))));refine .cc hm R (fun hm=>?_) fun hm=>?_
  ·refine .sv R (.an R (.ret (.seqR (.fz 0 [2] [] R R fR R R (.ou 0 R ?_)))));cases hm;exact .rr [0] results96 (.tmp R .nil) R I3 ⟨⟨_,R,fun _ _ _ _ _=>trivial⟩,trivial⟩
  ·refine .sn (.seq (.sr (.an R (.block (bS hm fun J K hm=>?_)))));refine .cutU (z:= .exit 0) (fun G=> .inl G=J) (fun (G:Unit)=>⟨[(0,.h 0)],[(0,ROW rE70 70 p0)],1⟩) ?_ fun T=>?_
   · rintro G rfl;dsimp only at hm;refine .blkE (.seqN (.sv R (.an R (.ret (.fz 0 [2] [] R R fR R R (.ou 0 R ?_))))));cases hm;exact .rr [0] results96 (.tmp R .nil) R I3 ⟨⟨_,R,fun _ _ _ _ _=>trivial⟩,trivial⟩
   refine .cutU (z:= .ret) (fun s=> .inr (s)=J) (fun (s:(List (Int×Int)))=>⟨[(2,.h 1)],[(1,ROW rE70 70 s)],2⟩) ?_ fun U=>?_
   · rintro s rfl;dsimp only at hm;refine .blkR (.seqR (.fz 1 [2] [] R R fR R R (.ou 0 R ?_)));cases hm;exact .rr [0] results96 (.tmp R .nil) R I3 ⟨⟨_,R,fun _ _ _ _ _=>trivial⟩,trivial⟩
   refine .iter (fun (c:Int)=>⟨[(3,.i c),(0,.h 0)],[(0,ROW rE70 70 p0)],1⟩) K [] R ?_;intro c Y hm Q F;refine .seq (.sv R (.mv R (.lh sl34 R (.bi R (.ns ?_)))));refine .cc hm R (fun hm=>?_) fun hm=> .xx ((T _ (F _ (oj hm))).s0 R);refine .sn (.seq (.block (.seq ?_)));refine .sub (τ:=⟨[(3,.i c),(0,.h 0)],[(0,ROW rE70 70 p0)],1⟩) ?_ [] R;refine bS hm fun d v hm=>bS hm fun e x hm=>?_;refine .drw [(1,[]),(1,[]),(1,[oT,oT]),(1,tT 3),(1,[]),(1,[]),(1,[oF,oF,oF,oF,oF,oT]),(1,fA 4 (tT 3)),(1,fA 4 (tT 4)),(1,tT 9)] [_,_,_,_,_,_,_,_,_,_] ⟨[(25,.b (d==e)),(3,.i c),(0,.h 0)],[(0,ROW rE70 70 p0)],1⟩ ⟨zM R,zM R,O.ir sl34 Z R R R v R,O.lg (l':=[lI d.1,lI d.2]) ag70 Z R (.R R v lv70) R R R,zM R,zM R,O.bi Z R R R R,O.ir sl34 Z R R R x R,O.lg (l':=[lI e.1,lI e.2]) ag70 Z R (.R R x lv70) R R R,O.eqs (us:=[.int .i64 d.1,.int .i64 d.2]) (vs:=[.int .i64 e.1,.int .i64 e.2]) (b:=(d==e)) (Eqs.pr underlying70 (by kernel_rfl) underlying3 (by kernel_rfl) (fun w=>nag3.agg w) d e) (by kernel_rfl) Z R R R R,trivial⟩ (by kernel_rfl) R ?_;refine .seqN ?_;refine .cc hm R (fun hm=>?_) fun hm=> .skip (.blkN (.seqN (.reg (.mv R (.bi R (.sa R (.nil ((Q _ (oj hm)).s0 R))))))));refine .sv R (.mv R (bS hm fun _ W hm=> .op (O.slv sl34 Z R R R W R) R (.an R (.seq (.sr (.an R (.block (bS hm fun q L hm=>?_))))))));refine .cut1 (z:= .exit 2) q (fun (q:(List (Int×Int))×Int)=>⟨[(3,.i q.2),(0,.h 0)],[(0,ROW rE70 70 q.1)],1⟩) ?_ fun V=>?_
   · skip
     exact .blkE (.seqN (.sv R (.mv R (bS hm fun _ X hm=> .op (O.slv sl34 Z R R R X R) R (.op (O.clV (r:=rE70) (z0:=((0:Int),(0:Int))) sl34 zc70 Z R R) R (.nr (.mv R (.mv R (bS hm fun a0 M hm=> .op (O.sho 1 sl34 R Z R R R M R) R (.an R (.ret (.blkR (.seqR (.seqR ((U _ (F _ (oj hm))).s0 R)))))))))))))))
   refine .iter (fun (a:(List (Int×Int))×Int×Int)=>⟨[(5,.i a.2.1),(4,.o (lVw 0 2 c.toNat)),(3,.i a.2.2),(0,.h 0)],[(0,ROW rE70 70 a.1)],1⟩) L [] R ?_;intro a I hm S P;refine .seq (.sv R (.mv R (.op (O.lenV (r:=rE70) sl34 Z R R R) R (.bi R (.ns ?_)))));refine .cc hm R (fun hm=>?_) fun hm=> .xx ((V _ (P _ (oj hm))).s0 R);refine .sn ?_;refine .join2 (fun (m:List (Int×Int)) (n:Int)=>y1C a m n=some I) (fun m n=>⟨[(3,.i n),(5,.i a.2.1),(4,.o (lVw 0 2 c.toNat)),(0,.h 0)],[(0,ROW rE70 70 m)],1⟩) ?_ ?_
   · intro m n hm;exact .reg (.mv R (.bi R (.sa R (.nil ((S _ (oj hm)).s0 R)))))
   · intro t;refine .block (.seq ?_);refine .sub (τ:=⟨[(5,.i a.2.1),(4,.o (lVw 0 2 c.toNat)),(3,.i a.2.2),(0,.h 0)],[(0,ROW rE70 70 a.1)],1⟩) ?_ [] R;refine bS hm fun g y hm=>bS hm fun j B hm=>?_;refine .drw [(1,[]),(1,[]),(1,[oT,oT]),(1,tT 3),(1,[]),(1,[]),(1,[oF,oF,oF,oF,oF,oT]),(1,fA 4 (tT 3)),(1,fA 4 (tT 4)),(1,tT 9)] [_,_,_,_,_,_,_,_,_,_] ⟨[(44,.b (!(g==j))),(5,.i a.2.1),(4,.o (lVw 0 2 c.toNat)),(3,.i a.2.2),(0,.h 0)],[(0,ROW rE70 70 a.1)],1⟩ ⟨zM R,zM R,O.irV (r:=rE70) sl34 Z R R R y R,O.lg (l':=[lI g.1,lI g.2]) ag70 Z R (.R R (y5d y).2 lv70) R R R,zM R,zM R,O.bi Z R R R R,O.irV (r:=rE70) sl34 Z R R R B R,O.lg (l':=[lI j.1,lI j.2]) ag70 Z R (.R R (y5d B).2 lv70) R R R,O.nes (us:=[.int .i64 g.1,.int .i64 g.2]) (vs:=[.int .i64 j.1,.int .i64 j.2]) (b:=(g==j)) (Eqs.pr underlying70 (by kernel_rfl) underlying3 (by kernel_rfl) (fun w=>nag3.agg w) g j) (by kernel_rfl) Z R R R R,trivial⟩ (by kernel_rfl) R ?_;exact .seqN (.cc hm R (fun hm=> .sv R (.mv R (.mv R (.mv R (bS hm fun H D hm=> .op (O.irV (r:=rE70) sl34 Z R R R D R) R (.op (O.lg (l':=[lI H.1,lI H.2]) ag70 Z R (.R R (y5d D).2 lv70) R R R) R (bS hm fun a1 E hm=> .op (O.ir sl34 Z R R R E R) R (bS hm fun a2 N hm=> .op (O.su (z:=H) ag70.sz Z R R E N R R R lv70 R (.p .k .k)) R (.ns (.reg (.mv R (.bi R (.sa R (.nil (.blkN ((t _ _ hm).s0 R)))))))))))))))) fun hm=> .skip (.blkN ((t _ _ hm).s0 R)))
def y3b(a:List (Int×Int)):Option (List (Int×Int)):=
 (yG yj a).bind fun b=>
 (yM b).bind fun c=>
 some c
def y5p(p0:LI×Int×LI×LI×EdgL)(p1:LI×Int×LI×LI×EdgL)(p2:Int×Int)(p3:Int):Option (List (Int×Int)):=
 (y3x p0 p2.1 p3).bind fun a=>
 (y3x p1 p2.2 p3).bind fun b=>
 (yp p0.1 p3).bind fun g=>
 (yp p1.1 p3).bind fun i=>
 if(p3==(-1)) then
  (yP a ([p2.2]:LI)).bind fun j=>
  (yP ([p2.1]:LI) b).bind fun c=>
  (app j c).bind fun h=>
  y3b h
 else
  if(g&&i) then
   (yP a b).bind fun d=>
   y3b d
  else
   if g then
    (yP a ([p2.2]:LI)).bind fun e=>
    y3b e
   else
    (yP ([p2.1]:LI) b).bind fun f=>
    y3b f
theorem y9J{p0:LI×Int×LI×LI×EdgL}{p1:LI×Int×LI×LI×EdgL}{p2:Int×Int}{p3:Int}{r:(List (Int×Int))}(hm:y5p p0 p1 p2 p3=some r):
    F0 70 [.a (lx29 p0),.a (lx29 p1),.a [lI p2.1,lI p2.2],.i p3] [] (.f rE70 r) []:=by
  refine Fw.mk2 func70 ntmps70 R (fun C=>?_) R;refine .sr (.bo 0 R (.bo 1 R (.bo 2 R (.an R (.seq ?_)))));refine .sub (τ:=⟨[(6,.q 2 0),(5,.q 1 0),(4,.q 0 0),(3,.i p3)],[(2,.bx 70 [lI p2.1,lI p2.2]),(1,.bx 29 (lx29 p1)),(0,.bx 29 (lx29 p0))],3⟩) ?_ [] R;refine bS hm fun g F hm=>bS hm fun m G hm=>?_;refine .drw [(3,[]),(3,[]),(3,[oF,oT]),(3,[]),(3,tT 4),(3,[]),(3,[]),(3,[oF,oF,oF,oF,oF,oF,oT]),(3,[]),(4,tT 9),(5,tT 10),(5,tT 11)] [_,_,_,_,_,_,_,_,_,_,_,_] ⟨[(10,.h 4),(9,.h 3),(6,.q 2 0),(5,.q 1 0),(4,.q 0 0),(3,.i p3)],[(4,rwI m),(3,rwI g),(2,.bx 70 [lI p2.1,lI p2.2]),(1,.bx 29 (lx29 p1)),(0,.bx 29 (lx29 p0))],5⟩ ⟨O.lg (l':=(lx29 p0)) ag29 Z R (.B R) R R R,O.ia ia70 Z R R R R,zB nag3 R,zM R,O.ca (r':= .h 3) [3] [(0,rwI g)] (some 4) (y6R F) cf142 R R Z R R R R ⟨⟨_,R,I4⟩,trivial⟩ I3 R,O.lg (l':=(lx29 p1)) ag29 Z R (.B R) R R R,O.ia ia70 Z R R R R,zB nag3 R,zM R,O.ca (r':= .h 4) [4] [(0,rwI m)] (some 5) (y6R G) cf142 R R Z R R R R ⟨⟨_,R,I4⟩,trivial⟩ I3 R,O.as Z R R,O.as Z R R,trivial⟩ (by kernel_rfl) R ?_;refine .seqN (.seq ?_);refine .sub (τ:=⟨[(10,.h 4),(9,.h 3),(6,.q 2 0),(5,.q 1 0),(4,.q 0 0),(3,.i p3)],[(4,rwI m),(3,rwI g),(2,.bx 70 [lI p2.1,lI p2.2]),(1,.bx 29 (lx29 p1)),(0,.bx 29 (lx29 p0))],5⟩) ?_ [] R;refine bS hm fun t H hm=>bS hm fun E I hm=>?_;refine .drw [(5,[]),(5,[oT]),(5,[]),(5,tT 3),(5,[]),(5,[oF,oF,oF,oF,oT]),(5,[]),(5,tT 7),(5,tT 8),(5,tT 9)] [_,_,_,_,_,_,_,_,_,_] ⟨[(12,.b E),(11,.b t),(10,.h 4),(9,.h 3),(6,.q 2 0),(3,.i p3)],[(4,rwI m),(3,rwI g),(2,.bx 70 [lI p2.1,lI p2.2])],5⟩ ⟨O.faP y5z Z R R,zB nag26 R,zM R,O.ca0 (yI H) cf69 R R Z R R R,O.faP y5z Z R R,zB nag26 R,zM R,O.ca0 (yI I) cf69 R R Z R R R,O.as Z R R,O.as Z R R,trivial⟩ (by kernel_rfl) R ?_;refine .seqN (.sr (.an R ?_));refine .join1 (fun (s:List (Int×Int))=>y3b s=some r) (fun s=>⟨[(13,.h 0)],[(0,ROW rE70 70 s)],1⟩) ?_ ?_
  · intro s hm;refine .sv R (bS hm fun T J hm=> .cm (r':= .tp []) [0] [(0,ROW rE70 70 T)] none (y8G cf143 (fun _ _ _=>y8S) J) cf94 R ⟨⟨_,R,I4⟩,trivial⟩ R (.nr (.mv R (bS hm fun U K hm=> .cm (r':= .f rE70 U) [0] [(0,.u)] none (y7v K) cf96 R ⟨⟨_,R,fun _ _ _ _ _=>trivial⟩,trivial⟩ R (.an R (.ret ?_))))));cases hm;exact .r0 results70 (.tmp R .nil) R R
  · intro e;refine .block (.sv R (.bi R (.an R ?_)));refine .cc hm R (fun hm=>?_) fun hm=>?_
    ·refine .fz 2 [6] [] R R fB R R ?_;refine .sub (τ:=⟨[(10,.h 4),(9,.h 3),(6,.o (lQ 70 [lI p2.1,lI p2.2] 0))],[(4,rwI m),(3,rwI g)],5⟩) ?_ [] R;refine bS hm fun V L hm=>bS hm fun M w hm=>bS hm fun S D hm=>?_;refine .drz 8 [(2,5)] [(5,[],[],[]),(5,[],[],[]),(5,[oT,oT],[],[]),(5,[],[],[]),(5,[],[],[]),(6,tT 5,[],[]),(7,tT 6,[],[]),(8,tT 7,[],[(2,5)])] [_,_,_,_,_,_,_,_] ⟨[(13,.h 7)],[(7,ROW rE70 70 S)],8⟩ ⟨zM R,O.slA (r:=qI) (xs:=[p2.1,p2.2]) (i:=1) (j:=2) ar70 Z R (.c .k (.c .k .n)) R R ⟨_,rfl⟩ rfl R R R,O.caY (r':= .h 5) [5] [(0,ROW rE70 70 V)] (some 6) (y1Z L) cf68 R R Z R R ⟨⟨R,.hr R,trivial⟩,⟨R,LnL.rf⟩,trivial⟩ R ⟨.row flr70,trivial⟩ (fun _ _ _ _ h=>h) ⟨⟨_,R,I4⟩,trivial⟩ I3 R,O.slA (r:=qI) (xs:=[p2.1,p2.2]) (i:=0) (j:=1) ar70 Z R (.c .k (.c .k .n)) R R rfl ⟨_,rfl⟩ R R R,zM R,O.caY (r':= .h 6) [6] [(0,ROW rE70 70 M)] (some 7) (y1Z w) cf68 R R Z R R ⟨⟨R,LnL.rf⟩,⟨R,.hr R,trivial⟩,trivial⟩ R ⟨.row flr70,trivial⟩ (fun _ _ _ _ h=>h) ⟨⟨_,R,I4⟩,trivial⟩ I3 R,O.ap 7 underlying34 el70 R R Z R R (.ow R R) D R,O.as Z R R,trivial⟩ (by kernel_rfl) R ?_;exact .blkN ((e _ hm).sub [(0,7)] R)
    ·refine .sv R (.mv R ?_);refine .cut 2 (fun (p:Bool)=>(t&&E)=p) (fun p=>⟨[(49,.b p),(11,.b t),(10,.h 4),(9,.h 3),(6,.q 2 0)],[(4,rwI m),(3,rwI g),(2,.bx 70 [lI p2.1,lI p2.2])],5⟩) ?_ ?_
     · rintro _ rfl;refine .an R (.cc hm R (fun hm=> .reg (.mv R (.mv R (bS hm fun N x hm=> .op (O.caY (r':= .h 5) [5] [(0,ROW rE70 70 N)] (some 6) (y1Z x) cf68 R R Z R R ⟨⟨R,.hr R,trivial⟩,⟨R,.hr R,trivial⟩,trivial⟩ R ⟨.row flr70,trivial⟩ (fun _ _ _ _ h=>h) ⟨⟨_,R,I4⟩,trivial⟩ I3 R) R (.sa R (.nil (.blkN ((e _ hm).sub [(0,5)] R)))))))) fun hm=>?_);refine .sv R (.an R ?_);exact .cc hm R (fun hm=> .reg (.mv R (.fz 2 [6] [] R R fB R R (.op (O.slA (r:=qI) (xs:=[p2.1,p2.2]) (i:=1) (j:=2) ar70 Z R (.c .k (.c .k .n)) R R ⟨_,rfl⟩ rfl R R R) R (bS hm fun P y hm=> .op (O.caY (r':= .h 5) [5] [(0,ROW rE70 70 P)] (some 6) (y1Z y) cf68 R R Z R R ⟨⟨R,.hr R,trivial⟩,⟨R,LnL.rf⟩,trivial⟩ R ⟨.row flr70,trivial⟩ (fun _ _ _ _ h=>h) ⟨⟨_,R,I4⟩,trivial⟩ I3 R) R (.sa R (.nil (.blkN ((e _ hm).sub [(0,5)] R))))))))) fun hm=> .reg (.fz 2 [6] [] R R fB R R (.op (O.slA (r:=qI) (xs:=[p2.1,p2.2]) (i:=0) (j:=1) ar70 Z R (.c .k (.c .k .n)) R R rfl ⟨_,rfl⟩ R R R) R (.mv R (bS hm fun Q z hm=> .op (O.caY (r':= .h 5) [5] [(0,ROW rE70 70 Q)] (some 6) (y1Z z) cf68 R R Z R R ⟨⟨R,LnL.rf⟩,⟨R,.hr R,trivial⟩,trivial⟩ R ⟨.row flr70,trivial⟩ (fun _ _ _ _ h=>h) ⟨⟨_,R,I4⟩,trivial⟩ I3 R) R (.sa R (.nil (.blkN ((e _ hm).sub [(0,5)] R))))))))
     · intro v;rcases yEt t with hc|hc
       · refine .know (d:=47) R hc ?_;exact .mg R (.pT R ((v E (andT hc).symm).s0 R))
       · refine .know (d:=47) R hc ?_;exact .sk R (.pF R ((v false (andF hc).symm).s0 R))
def y3T(c:Int×(List KeyT)×(List (Int×Int))×LI×EdgL)(d:Int)(b:LI)(a:Int×EdgL):Option ((Int×EdgL)⊕EdgL):=
 if decide (a.1<(b.length:Int)) then
  (idx b a.1).bind fun e=>
  (app a.2 ([(c.1,d,e)]:List (Int×Int×Int))).bind fun f=>
  some (.inl (W (a.1+1),f))
 else
  some (.inr a.2)
def y2k(c:(List (Int×Int)))(a:Int×LI×(List KeyT)×(List (Int×Int))):Option ((Int×LI×(List KeyT)×(List (Int×Int)))⊕((LI×(List KeyT)×(List (Int×Int)))⊕Unit)):=
 if decide (a.1<(c.length:Int)) then
  (idx c a.1).bind fun d=>
  (y2N a.2.2.1 a.2.2.2 d).bind fun b=>
  (app a.2.1 ([b.1]:LI)).bind fun e=>
  if decide ((b.2.2.length:Int)>4096) then
   some (.inr (.inr (())))
  else
   some (.inl (W (a.1+1),e,b.2))
 else
  some (.inr (.inl a.2))
def y2l(p0:LI×Int×LI×LI×EdgL)(p1:LI×Int×LI×LI×EdgL)(e:Int×(List KeyT)×(List (Int×Int))×LI×EdgL)(j:Int×Int)(c:LI)(a:Int×(List KeyT)×(List (Int×Int))×EdgL):Option ((Int×(List KeyT)×(List (Int×Int))×EdgL)⊕(((List KeyT)×(List (Int×Int))×EdgL)⊕Unit)):=
 if decide (a.1<(c.length:Int)) then
  (idx c a.1).bind fun d=>
  (y5p p0 p1 j d).bind fun h=>
  (iter (y2k h) (0,([]:LI),a.2.1,a.2.2.1)).bind fun f=>
  match f with
  | .inl b=>
   (yK b.1).bind fun i=>
   (iter (y3T e d i) (0,a.2.2.2)).bind fun g=>
   some (.inl (W (a.1+1),b.2.1,b.2.2,g))
  | .inr (k)=>
   some (.inr (.inr (())))
 else
  some (.inr (.inl a.2))
def y2m(p0:LI×Int×LI×LI×EdgL)(p1:LI×Int×LI×LI×EdgL)(g:LI)(a:Int×(List KeyT)×(List (Int×Int))×LI×EdgL)(e:Int×Int)(c:LI):Option ((Int×(List KeyT)×(List (Int×Int))×LI×EdgL)⊕(((List (Int×Int))×LI×EdgL)⊕Unit)):=
 (app ([(-1)]:LI) g).bind fun f=>
 (iter (y2l p0 p1 a e f) (0,a.2.1,a.2.2.1,a.2.2.2.2)).bind fun d=>
 match d with
 | .inl b=>
  some (.inl (W (a.1+1),b.1,b.2.1,c,b.2.2))
 | .inr (h)=>
  some (.inr (.inr (())))
def y3U(p0:LI×Int×LI×LI×EdgL)(p1:LI×Int×LI×LI×EdgL)(g:LI)(a:Int×(List KeyT)×(List (Int×Int))×LI×EdgL):Option ((Int×(List KeyT)×(List (Int×Int))×LI×EdgL)⊕(((List (Int×Int))×LI×EdgL)⊕Unit)):=
 if decide (a.1<(a.2.2.1.length:Int)) then
  (idx a.2.2.1 a.1).bind fun b=>
  (yp p0.2.2.2.1 b.1).bind fun d=>
  (if d then
   (yp p1.2.2.2.1 b.2).bind fun e=>
   some e
  else
   some false).bind fun c=>
  if c then
   (app a.2.2.2.1 ([a.1]:LI)).bind fun f=>
   y2m p0 p1 g a b f
  else
   y2m p0 p1 g a b a.2.2.2.1
 else
  some (.inr (.inl a.2.2))
def y2n(c:(List (Int×Int)))(a:Int×(List KeyT)×(List (Int×Int))×LI):Option ((Int×(List KeyT)×(List (Int×Int))×LI)⊕(((List KeyT)×(List (Int×Int))×LI)⊕Unit)):=
 if decide (a.1<(c.length:Int)) then
  (idx c a.1).bind fun d=>
  (y2N a.2.1 a.2.2.1 d).bind fun b=>
  (app a.2.2.2 ([b.1]:LI)).bind fun e=>
  if decide ((b.2.2.length:Int)>4096) then
   some (.inr (.inr (())))
  else
   some (.inl (W (a.1+1),b.2.1,b.2.2,e))
 else
  some (.inr (.inl a.2))
def yN(p0:LI×Int×LI×LI×EdgL)(p1:LI×Int×LI×LI×EdgL)(b:Int):Option (Int⊕(Unit⊕Int)):=
 if decide (b<2) then
  (idx ([p0,p1]:List (LI×Int×LI×LI×EdgL)) b).bind fun c=>
  (yE c).bind fun a=>
  if(a != 0) then
   some (.inr (.inr (a)))
  else
   some (.inl (W (b+1)))
 else
  some (.inr (.inl ()))
def yz(p0:LI×Int×LI×LI×EdgL)(p1:LI×Int×LI×LI×EdgL):Option ((LI×Int×LI×LI×EdgL)×(List (Int×Int))×Int):=
 (iter (yN p0 p1) 0).bind fun h=>
 match h with
 | .inl k=>
  (y4x p0.1 p1.1).bind fun g=>
  (yP p0.2.2.1 p1.2.2.1).bind fun f=>
  (iter (y2n f) (0,([]:List KeyT),([]:List (Int×Int)),([]:LI))).bind fun e=>
  match e with
  | .inl b=>
   (iter (y3U p0 p1 g) (0,b.1,b.2.1,([]:LI),([]:List (Int×Int×Int)))).bind fun c=>
   match c with
   | .inl a=>
    some ((g,(a.1.length:Int),b.2.2,a.2),a.1,0)
   | .inr (i)=>
    some ((([]:LI),0,([]:LI),([]:LI),([]:List (Int×Int×Int))),([]:List (Int×Int)),3)
  | .inr (j)=>
   some ((([]:LI),0,([]:LI),([]:LI),([]:List (Int×Int×Int))),([]:List (Int×Int)),3)
 | .inr (d)=>
  some ((([]:LI),0,([]:LI),([]:LI),([]:List (Int×Int×Int))),([]:List (Int×Int)),d)
theorem y6S{p0:LI×Int×LI×LI×EdgL}{p1:LI×Int×LI×LI×EdgL}{r:(LI×Int×LI×LI×EdgL)×(List (Int×Int))×Int}(hm:yz p0 p1=some r):
  F0 14 [.a (lx29 p0),.a (lx29 p1)] [] (.tp [.a [lH 0,lI r.1.2.1,lH 1,lH 2,lH 3],.h 4,.i r.2.2]) [rwI r.1.1,rwI r.1.2.2.1,rwI r.1.2.2.2.1,ROW qT 112 r.1.2.2.2.2,ROW rE70 70 r.2.1]:=by
 refine Fw.mk2 func14 ntmps14 R (fun C=>?_) R;refine .sr (.bo 0 R (.bo 1 R (.al 2 zz29 R (.al 3 zz34 R (.an R (.seq (.sr (.lg (lx29 p0) ag29 R (.B R) R (.lg (lx29 p1) ag29 R (.B R) R (.bu [lF qI p0.1,lI p0.2.1,lF qI p0.2.2.1,lF qI p0.2.2.2.1,lF qT p0.2.2.2.2,lF qI p1.1,lI p1.2.1,lF qI p1.2.2.1,lF qI p1.2.2.2.1,lF qT p1.2.2.2.2] pl126 R (.mv R (.ns (.block (bS hm fun o5 g0 hm=>?_))))))))))))));refine .cutU (z:= .exit 0) (fun u7=> .inl u7=o5) (fun (u7:Unit)=>⟨[(5,.q 0 0),(4,.q 1 0),(3,.q 2 0),(2,.q 3 0)],[(0,.bx 34 [lN]),(1,.bx 29 [lN,lI 0,lN,lN,lN]),(2,.bx 29 (lx29 p1)),(3,.bx 29 (lx29 p0))],4⟩) ?_ fun K8=>?_
 ·rintro u7 rfl;dsimp only at hm;refine .blkE (.seqN (.sr (.fa y5z R (.lb nag26 R (.fa y5z R (.lb nag26 R (bS hm fun F g1 hm=> .cm (r':= .h 4) [4] [(0,rwI F)] (some 5) (y7Q g1) cf66 R ⟨⟨_,R,I4⟩,trivial⟩ R (.fa y5z R (.st nag26.sz R (.nr (.op (O.mk2 (kv:=kvP) (r:=qI) 5 R Z R) R (.al 6 zz128 R (.st ych.sz R (.nr (.op (O.mz (l:=[lP 6 0,lP 0 0]) Z R R) R (.an R (.seq (.sr (.fa y6t R (.lb nag26 R (.fa y6t R (.lb nag26 R (bS hm fun K f5 hm=> .cm (r':= .h 7) [7] [(0,ROW rE70 70 K)] (some 8) (y1Z f5) cf68 R ⟨⟨_,R,I4⟩,trivial⟩ R (.lh sl34 R (.mv R (.ns ?_))))))))))))))))))))))))));refine .block (bS hm fun e2 f4 hm=>?_);refine .cutU (z:= .exit 2) (fun t=> .inl t=e2) (fun (t:(List KeyT)×(List (Int×Int))×LI)=>⟨[(11,.o (lZ 67 [lP 0 0,lP 2 0])),(5,.q 2 0),(4,.q 4 0),(3,.q 7 0),(2,.q 8 0)],[(0,.bx 128 [lH 1]),(1,MAP kvP qI 128 t.1),(2,.bx 34 [lH 3]),(3,ROW rE70 70 t.2.1),(4,.bx 29 [lH 5,lI 0,lH 6,lN,lN]),(5,rwI F),(6,rwI t.2.2),(7,.bx 29 (lx29 p1)),(8,.bx 29 (lx29 p0))],9⟩) ?_ fun f9=>?_
  ·rintro t rfl;dsimp only at hm;refine .blkE (.seqN (.seq (.sr (.an R (.block (bS hm fun b0 b7 hm=>?_))))));refine .cutU (z:= .exit 4) (fun m=> .inl m=b0) (fun (m:(List (Int×Int))×LI×EdgL)=>⟨[(5,.q 0 0),(4,.q 2 0)],[(0,.bx 34 [lH 1]),(1,ROW rE70 70 m.1),(2,.bx 29 [lH 3,lI 0,lH 4,lH 5,lH 6]),(3,rwI F),(4,rwI t.2.2),(5,rwI m.2.1),(6,ROW qT 112 m.2.2)],7⟩) ?_ fun e4=>?_
   ·rintro m rfl;dsimp only at hm;refine .blkE (.seqN (.sr (.lb nag34 R (.lh sl34 R (.fa y2G R (.st nag3.sz R (.ns (.seq ?_))))))));refine .sub (τ:=⟨[(5,.q 0 0),(4,.q 2 0)],[(0,.bx 34 [lH 1]),(1,ROW rE70 70 m.1),(2,.bx 29 [lH 3,lI m.1.length,lH 4,lH 5,lH 6]),(3,rwI F),(4,rwI t.2.2),(5,rwI m.2.1),(6,ROW qT 112 m.2.2)],7⟩) ?_ [] R;refine .drd 7 [(7,[],[]),(7,[],[2]),(7,[oT],[]),(7,tT 3,[]),(7,tT 4,[])] [_,_,_,_,_] ⟨[(6,.i 0),(5,.q 0 0),(4,.q 2 0)],[(0,.bx 34 [lH 1]),(1,ROW rE70 70 m.1),(2,.bx 29 [lH 3,lI m.1.length,lH 4,lH 5,lH 6]),(3,rwI F),(4,rwI t.2.2),(5,rwI m.2.1),(6,ROW qT 112 m.2.2)],7⟩ ⟨O.lg (l':=[lH 3,lI m.1.length,lH 4,lH 5,lH 6]) ag29 Z R (.B R) R R R,zB nag34 R,O.st ag29.sz Z R R R R R,O.st nag34.sz Z R R R R R,O.as Z R R,trivial⟩ (by kernel_rfl) R ?_;refine .seqN (.ret ?_);cases hm;exact .rr [3,4,5,6,1] results14 (.cell R R ag29 R (.one R R nag34 (.tmp R .nil))) R I3 ⟨⟨_,R,I4⟩,⟨_,R,I4⟩,⟨_,R,I4⟩,⟨_,R,I4⟩,⟨_,R,I4⟩,trivial⟩
   refine .cutU (z:= .ret) (fun U=> .inr (U)=b0) (fun (U:Unit)=>⟨[(6,.i 3),(5,.q 0 0),(4,.q 1 0)],[(0,.bx 34 [lN]),(1,.bx 29 [lN,lI 0,lN,lN,lN])],2⟩) ?_ fun e5=>?_
   ·rintro U rfl;dsimp only at hm;refine .blkR (.seqR (.nlb qI 3 1 0 R R (.nlb qI 3 1 2 R R (.nlb qI 3 1 3 R R (.nlb qT 112 1 4 R R (.nlb rE70 70 0 0 R R ?_))))));cases hm;exact .rr [2,3,4,5,6] results14 (.cell R R ag29 R (.one R R nag34 (.tmp R .nil))) R I3 ⟨⟨_,R,I4⟩,⟨_,R,I4⟩,⟨_,R,I4⟩,⟨_,R,I4⟩,⟨_,R,I4⟩,trivial⟩
   refine .nlb qI 3 4 3 R R (.nlb qT 112 4 4 R R (.iter (fun (e:Int×(List KeyT)×(List (Int×Int))×LI×EdgL)=>⟨[(14,.i e.1),(11,.o (lZ 67 [lP 0 0,lP 2 0])),(5,.q 2 0),(4,.q 4 0),(3,.q 9 0),(2,.q 10 0)],[(0,.bx 128 [lH 1]),(1,MAP kvP qI 128 e.2.1),(2,.bx 34 [lH 3]),(3,ROW rE70 70 e.2.2.1),(4,.bx 29 [lH 5,lI 0,lH 6,lH 7,lH 8]),(5,rwI F),(6,rwI t.2.2),(7,rwI e.2.2.2.1),(8,ROW qT 112 e.2.2.2.2),(9,.bx 29 (lx29 p1)),(10,.bx 29 (lx29 p0))],11⟩) b7 [(7,9),(8,10),(9,7),(10,8)] R ?_));intro e b4 hm d7 a5;refine .seq (.sv R (.lb nag34 R (.lh sl34 R (.bi R (.ns ?_)))));refine .cc hm R (fun hm=>?_) fun hm=> .xx ((e4 _ (a5 _ (oj hm))).sub [(0,2),(1,3),(2,4),(3,5),(4,6),(5,7),(6,8)] R);refine .sn (.seq (.block (.sr (.lb nag34 R (.mv R (bS hm fun j a1 hm=> .op (O.ir sl34 Z R R R a1 R) R (.lg [lI j.1,lI j.2] ag70 R (.R R a1 lv70) R (.al 11 zz70 R (.st ag70.sz R (.ns ?_))))))))));refine .join1 (fun (v:LI)=>y2m p0 p1 F e j v=some b4) (fun v=>⟨[(15,.q 0 0),(14,.i e.1),(11,.o (lZ 67 [lP 1 0,lP 3 0])),(5,.q 3 0),(4,.q 5 0),(3,.q 10 0),(2,.q 11 0)],[(0,.bx 70 [lI j.1,lI j.2]),(1,.bx 128 [lH 2]),(2,MAP kvP qI 128 e.2.1),(3,.bx 34 [lH 4]),(4,ROW rE70 70 e.2.2.1),(5,.bx 29 [lH 6,lI 0,lH 7,lH 8,lH 9]),(6,rwI F),(7,rwI t.2.2),(8,rwI v),(9,ROW qT 112 e.2.2.2.2),(10,.bx 29 (lx29 p1)),(11,.bx 29 (lx29 p0))],12⟩) ?_ ?_
   ·intro v hm;refine .sr (.op (O.bsO (r:=qI) (zs:=([(-1)]:LI)) 12 R bs26 R R Z R R R (.c .k .n) R R R) R (.fa y5z R (.lb nag26 R (bS hm fun D c9 hm=> .ap 13 underlying26 el3 R R (.ow R R) c9 (.lh sl26 R (.mv R (.ns (.block (bS hm fun b1 b8 hm=>?_)))))))));refine .cutU (z:= .exit 6) (fun I=> .inl I=b1) (fun (I:(List KeyT)×(List (Int×Int))×EdgL)=>⟨[(14,.i e.1),(11,.o (lZ 67 [lP 0 0,lP 2 0])),(5,.q 2 0),(4,.q 4 0),(3,.q 9 0),(2,.q 10 0)],[(0,.bx 128 [lH 1]),(1,MAP kvP qI 128 I.1),(2,.bx 34 [lH 3]),(3,ROW rE70 70 I.2.1),(4,.bx 29 [lH 5,lI 0,lH 6,lH 7,lH 8]),(5,rwI F),(6,rwI t.2.2),(7,rwI v),(8,ROW qT 112 I.2.2),(9,.bx 29 (lx29 p1)),(10,.bx 29 (lx29 p0))],11⟩) ?_ fun e6=>?_
    ·rintro I rfl;dsimp only at hm;exact .blkE (.blkN (.seqN (.reg (.mv R (.bi R (.sa R (.nil ((d7 _ (oj hm)).s0 R))))))))
    refine .cutU (z:= .ret) (fun V=> .inr (V)=b1) (fun (V:Unit)=>⟨[(6,.i 3),(5,.q 0 0),(4,.q 1 0)],[(0,.bx 34 [lN]),(1,.bx 29 [lN,lI 0,lN,lN,lN])],2⟩) ?_ fun e7=>?_
    ·rintro V rfl;dsimp only at hm;exact .blkR (.blkR (.seqR (.seqR ((e5 _ (a5 _ (oj hm))).s0 R))))
    refine .iter (fun (s:Int×(List KeyT)×(List (Int×Int))×EdgL)=>⟨[(100,.i s.1),(99,.i D.length),(98,.h 0),(15,.q 1 0),(14,.i e.1),(11,.o (lZ 67 [lP 2 0,lP 4 0])),(5,.q 4 0),(4,.q 6 0),(3,.q 11 0),(2,.q 12 0)],[(0,rwI D),(1,.bx 70 [lI j.1,lI j.2]),(2,.bx 128 [lH 3]),(3,MAP kvP qI 128 s.2.1),(4,.bx 34 [lH 5]),(5,ROW rE70 70 s.2.2.1),(6,.bx 29 [lH 7,lI 0,lH 8,lH 9,lH 10]),(7,rwI F),(8,rwI t.2.2),(9,rwI v),(10,ROW qT 112 s.2.2.2),(11,.bx 29 (lx29 p1)),(12,.bx 29 (lx29 p0))],13⟩) b8 [(0,13),(1,0),(2,1),(3,2),(4,3),(5,4),(6,5),(7,6),(8,7),(9,8),(10,9),(11,10),(12,11)] R ?_;intro s g3 hm d8 a6;refine .sr (.bi R (.ns (.seq ?_)));refine .cc hm R (fun hm=>?_) fun hm=> .xx ((e6 _ (a6 _ (oj hm))).sub [(0,2),(1,3),(2,4),(3,5),(4,6),(5,7),(6,8),(7,9),(8,10),(9,11),(10,12)] R);refine .sn (.seq (.block (.sr (bS hm fun L a2 hm=> .op (O.ir sl26 Z R R R a2 R) R (.op (O.ld nag3 Z R (.R R a2 lv3) R R) R (.an R (.sr (.an R (.seq (.sr (.lg (lx29 p0) ag29 R (.B R) R (.lg (lx29 p1) ag29 R (.B R) R (.lg [lI j.1,lI j.2] ag70 R (.B R) R (.mv R (bS hm fun b3 c2 hm=> .c0 (y9J c2) cf70 R (.ln sl34 R (.mv R (.ns (.block (bS hm fun b2 b9 hm=>?_))))))))))))))))))));refine .cutU (z:= .exit 8) (fun x=> .inl x=b2) (fun (x:LI×(List KeyT)×(List (Int×Int)))=>⟨[(18,.h 0),(17,.i L),(100,.i s.1),(99,.i D.length),(98,.h 1),(15,.q 2 0),(14,.i e.1),(11,.o (lZ 67 [lP 3 0,lP 5 0])),(5,.q 5 0),(4,.q 7 0),(3,.q 12 0),(2,.q 13 0)],[(0,rwI x.1),(1,rwI D),(2,.bx 70 [lI j.1,lI j.2]),(3,.bx 128 [lH 4]),(4,MAP kvP qI 128 x.2.1),(5,.bx 34 [lH 6]),(6,ROW rE70 70 x.2.2),(7,.bx 29 [lH 8,lI 0,lH 9,lH 10,lH 11]),(8,rwI F),(9,rwI t.2.2),(10,rwI v),(11,ROW qT 112 s.2.2.2),(12,.bx 29 (lx29 p1)),(13,.bx 29 (lx29 p0))],14⟩) ?_ fun e8=>?_
    ·rintro x rfl;dsimp only at hm;refine .blkE (.seqN (.sv R (bS hm fun T c3 hm=> .cm (r':= .tp []) [0] [(0,rwI T)] none (y5n c3) cf60 R ⟨⟨_,R,I4⟩,trivial⟩ R (.nr (.mv R (.lh sl26 R (.mv R (.ns (.block (bS hm fun S c1 hm=>?_))))))))));refine .cut1 (z:= .exit 10) S (fun (S:EdgL)=>⟨[(100,.i s.1),(99,.i D.length),(98,.h 0),(15,.q 1 0),(14,.i e.1),(11,.o (lZ 67 [lP 2 0,lP 4 0])),(5,.q 4 0),(4,.q 6 0),(3,.q 11 0),(2,.q 12 0)],[(0,rwI D),(1,.bx 70 [lI j.1,lI j.2]),(2,.bx 128 [lH 3]),(3,MAP kvP qI 128 x.2.1),(4,.bx 34 [lH 5]),(5,ROW rE70 70 x.2.2),(6,.bx 29 [lH 7,lI 0,lH 8,lH 9,lH 10]),(7,rwI F),(8,rwI t.2.2),(9,rwI v),(10,ROW qT 112 S),(11,.bx 29 (lx29 p1)),(12,.bx 29 (lx29 p0))],13⟩) ?_ fun e9=>?_
     ·skip
      exact .blkE (.blkN (.seqN (.reg (.bi R (.mv R (.nil ((d8 _ (oj hm)).s0 R)))))))
     refine .iter (fun (N:Int×EdgL)=>⟨[(129,.i N.1),(128,.i T.length),(127,.h 0),(17,.i L),(100,.i s.1),(99,.i D.length),(98,.h 1),(15,.q 2 0),(14,.i e.1),(11,.o (lZ 67 [lP 3 0,lP 5 0])),(5,.q 5 0),(4,.q 7 0),(3,.q 12 0),(2,.q 13 0)],[(0,rwI T),(1,rwI D),(2,.bx 70 [lI j.1,lI j.2]),(3,.bx 128 [lH 4]),(4,MAP kvP qI 128 x.2.1),(5,.bx 34 [lH 6]),(6,ROW rE70 70 x.2.2),(7,.bx 29 [lH 8,lI 0,lH 9,lH 10,lH 11]),(8,rwI F),(9,rwI t.2.2),(10,rwI v),(11,ROW qT 112 N.2),(12,.bx 29 (lx29 p1)),(13,.bx 29 (lx29 p0))],14⟩) c1 [] R ?_;intro N g5 hm e0 d6;refine .sr (.bi R (.ns (.seq ?_)));exact .cc hm R (fun hm=> .sn (.seq (.block (.sr (bS hm fun b5 a3 hm=> .op (O.ir sl26 Z R R R a3 R) R (.op (O.ld nag3 Z R (.R R a3 lv3) R R) R (.an R (.reg (.fa y2f R (.lb nag27 R (.mv R (.mv R (.mv R (.bu [lI e.1,lI L,lI b5] pl112 R (.bf (r:=qT) ([(e.1,L,b5)]:List (Int×Int×Int)) bs27 R (.c (.p .k (.p .k .k)) .n) R (bS hm fun h0 d0 hm=> .ap 14 underlying27 el112 R R (.fr R) d0 (.fa y2f R (.st nag27.sz R (.nil (.blkN (.seqN (.reg (.bi R (.mv R (.nil ((e0 _ (oj hm)).sub [(11,14)] R)))))))))))))))))))))))))) fun hm=> .xx ((e9 _ (d6 _ (oj hm))).sub [(0,1),(1,2),(2,3),(3,4),(4,5),(5,6),(6,7),(7,8),(8,9),(9,10),(10,11),(11,12),(12,13)] R)
    refine .cutU (z:= .ret) (fun W=> .inr (W)=b2) (fun (W:Unit)=>⟨[(6,.i 3),(5,.q 0 0),(4,.q 1 0)],[(0,.bx 34 [lN]),(1,.bx 29 [lN,lI 0,lN,lN,lN])],2⟩) ?_ fun f0=>?_
    ·rintro W rfl;dsimp only at hm;exact .blkR (.seqR (.blkR (.seqR (.seqR ((e7 _ (a6 _ (oj hm))).s0 R)))))
    refine .nlg qI 3 18 0 R R (.iter (fun (G:Int×LI×(List KeyT)×(List (Int×Int)))=>⟨[(110,.i G.1),(109,.i b3.length),(108,.f rE70 b3),(18,.h 0),(17,.i L),(100,.i s.1),(99,.i D.length),(98,.h 1),(15,.q 2 0),(14,.i e.1),(11,.o (lZ 67 [lP 3 0,lP 5 0])),(5,.q 5 0),(4,.q 7 0),(3,.q 12 0),(2,.q 13 0)],[(0,rwI G.2.1),(1,rwI D),(2,.bx 70 [lI j.1,lI j.2]),(3,.bx 128 [lH 4]),(4,MAP kvP qI 128 G.2.2.1),(5,.bx 34 [lH 6]),(6,ROW rE70 70 G.2.2.2),(7,.bx 29 [lH 8,lI 0,lH 9,lH 10,lH 11]),(8,rwI F),(9,rwI t.2.2),(10,rwI v),(11,ROW qT 112 s.2.2.2),(12,.bx 29 (lx29 p1)),(13,.bx 29 (lx29 p0))],14⟩) b9 [(0,13),(1,0),(2,1),(3,2),(4,3),(5,4),(6,5),(7,6),(8,7),(9,8),(10,9),(11,10),(12,11),(13,12)] R ?_);intro G g4 hm d9 a7;refine .sr (.bi R (.ns (.seq ?_)));refine .cc hm R (fun hm=>?_) fun hm=> .xx ((e8 _ (a7 _ (oj hm))).s0 R);refine .sn (.seq (.block (.sr (bS hm fun Q d1 hm=> .ix sl34 d1 R (.lg [lI Q.1,lI Q.2] ag70 R (.E lv70) R (.al 14 zz70 R (.st ag70.sz R (.nr (.mv R (.mv R (.lg [lI Q.1,lI Q.2] ag70 R (.B R) R (bS hm fun M c4 hm=> .op (O.caW (r':= .i M.1) [3,4,5,6,15,16] [(1,.u),(3,.u),(4,MAP kvP qI 128 M.2.1),(5,ROW rE70 70 M.2.2),(0,.bx 128 [lH 15]),(2,.bx 34 [lH 16])] (some 17) (y6o c4) cf67 R R R Z R R R R R ⟨⟨_,R,fun _ _ _ _ _=>trivial⟩,⟨_,R,fun _ _ _ _ _=>trivial⟩,⟨_,R,I4⟩,⟨_,R,I4⟩,⟨_,R,I4⟩,⟨_,R,I4⟩,trivial⟩ I3 R) R (.bf (r:=qI) ([M.1]:LI) bs26 R (.c .k .n) R (bS hm fun h1 d2 hm=> .ap 17 underlying26 el3 R R (.fr R) d2 (.an R (.sr (.lb nag34 R (.lh sl34 R (.bi R (.ns ?_))))))))))))))))))));exact .cc hm R (fun hm=> .sr (.bu [lN,lI 0,lN,lN,lN] pl29 R (.st ag29.sz R (.st nag34.sz R (.an R (.ret (.blkR (.seqR (.seqR ((f0 _ (a7 _ (oj hm))).sub [(0,5),(1,7)] R)))))))))) fun hm=> .skip (.blkN (.seqN (.reg (.bi R (.mv R (.nil ((d9 _ (oj hm)).sub [(0,17),(4,15),(6,16)] R)))))))
   ·intro a0;refine .sr (.fa y6u R (.lb nag26 R (.op (O.ia ia70 Z R R R R) R (.lb nag3 R (bS hm fun g7 c5 hm=> .c0 (yI c5) cf69 R (.mv R (bS hm fun f3 eb237 hm=>?_)))))));refine .cut 6 (fun (Y:Bool)=>f3=Y) (fun Y=>⟨[(88,.b Y),(15,.q 11 0),(14,.i e.1),(11,.o (lZ 67 [lP 0 0,lP 2 0])),(5,.q 2 0),(4,.q 4 0),(3,.q 9 0),(2,.q 10 0)],[(11,.bx 70 [lI j.1,lI j.2]),(0,.bx 128 [lH 1]),(1,MAP kvP qI 128 e.2.1),(2,.bx 34 [lH 3]),(3,ROW rE70 70 e.2.2.1),(4,.bx 29 [lH 5,lI 0,lH 6,lH 7,lH 8]),(5,rwI F),(6,rwI t.2.2),(7,rwI e.2.2.2.1),(8,ROW qT 112 e.2.2.2.2),(9,.bx 29 (lx29 p1)),(10,.bx 29 (lx29 p0))],12⟩) ?_ ?_
    ·rintro _ rfl;exact .ns (.cc hm R (fun hm=> .reg (.fa y6u R (.lb nag26 R (.mv R (.bf (r:=qI) ([e.1]:LI) bs26 R (.c .k .n) R (bS hm fun h2 d3 hm=> .ap 12 underlying26 el3 R R (.fr R) d3 (.fa y6u R (.st nag26.sz R (.nil ((a0 _ hm).sub [(0,11),(1,0),(2,1),(3,2),(4,3),(5,4),(6,5),(7,6),(8,12),(9,8),(10,9),(11,10)] R)))))))))) fun hm=> .skip ((a0 _ hm).sub [(0,11),(1,0),(2,1),(3,2),(4,3),(5,4),(6,5),(7,6),(8,7),(9,8),(10,9),(11,10)] R))
    ·intro a8;rcases ifS eb237 with ⟨hc,hm⟩|⟨hc,hm⟩
     ·refine .know (d:=82) R hc ?_;exact .fag y6u R (.lbg nag26 R (.op (O.ia ia70 (Gu.mk R R) R R R R) R (.lbg nag3 R (bS hm fun f7 c6 hm=> .op (O.ca0 (yI c6) cf69 R R (Gu.mk R R) R R R) R (.pT R ((a8 f7 (oj hm)).s0 R))))))
     ·refine .know (d:=82) R hc ?_;exact .s2 R R (.s2 R R (.sk R (.pF R ((a8 false (oj hm)).s0 R))))
  refine .cutU (z:= .ret) (fun X=> .inr (X)=e2) (fun (X:Unit)=>⟨[(6,.i 3),(5,.q 0 0),(4,.q 1 0)],[(0,.bx 34 [lN]),(1,.bx 29 [lN,lI 0,lN,lN,lN])],2⟩) ?_ fun f1=>?_
  ·rintro X rfl;dsimp only at hm;refine .blkR (.seqR (.nlb qI 3 1 0 R R (.nlb qI 3 1 2 R R (.nlb qI 3 1 3 R R (.nlb qT 112 1 4 R R (.nlb rE70 70 0 0 R R ?_))))));cases hm;exact .rr [2,3,4,5,6] results14 (.cell R R ag29 R (.one R R nag34 (.tmp R .nil))) R I3 ⟨⟨_,R,I4⟩,⟨_,R,I4⟩,⟨_,R,I4⟩,⟨_,R,I4⟩,⟨_,R,I4⟩,trivial⟩
  refine .nlb rE70 70 0 0 R R (.nlb qI 3 1 2 R R (.iter (fun (w:Int×(List KeyT)×(List (Int×Int))×LI)=>⟨[(50,.i w.1),(49,.i K.length),(48,.h 0),(11,.o (lZ 67 [lP 1 0,lP 3 0])),(5,.q 3 0),(4,.q 5 0),(3,.q 8 0),(2,.q 9 0)],[(0,ROW rE70 70 K),(1,.bx 128 [lH 2]),(2,MAP kvP qI 128 w.2.1),(3,.bx 34 [lH 4]),(4,ROW rE70 70 w.2.2.1),(5,.bx 29 [lH 6,lI 0,lH 7,lN,lN]),(6,rwI F),(7,rwI w.2.2.2),(8,.bx 29 (lx29 p1)),(9,.bx 29 (lx29 p0))],10⟩) f4 [(0,7),(1,6),(2,5),(3,0),(4,8),(5,1),(6,4),(7,9),(8,2),(9,3)] R ?_));intro w g6 hm f6 a9;refine .sr (.bi R (.ns (.seq ?_)));refine .cc hm R (fun hm=>?_) fun hm=> .xx ((f9 _ (a9 _ (oj hm))).sub [(0,1),(1,2),(2,3),(3,4),(4,5),(5,6),(6,7),(7,8),(8,9)] R);refine .sn (.seq (.block (.sr (bS hm fun J a4 hm=> .op (O.ir sl34 Z R R R a4 R) R (.lg [lI J.1,lI J.2] ag70 R (.R R a4 lv70) R (.al 10 zz70 R (.st ag70.sz R (.ns (.seq ?_)))))))));refine .sub (τ:=⟨[(13,.q 10 0),(50,.i w.1),(49,.i K.length),(48,.h 0),(11,.o (lZ 67 [lP 1 0,lP 3 0])),(5,.q 3 0),(4,.q 5 0),(3,.q 8 0),(2,.q 9 0)],[(10,.bx 70 [lI J.1,lI J.2]),(0,ROW rE70 70 K),(1,.bx 128 [lH 2]),(2,MAP kvP qI 128 w.2.1),(3,.bx 34 [lH 4]),(4,ROW rE70 70 w.2.2.1),(5,.bx 29 [lH 6,lI 0,lH 7,lN,lN]),(6,rwI F),(7,rwI w.2.2.2),(8,.bx 29 (lx29 p1)),(9,.bx 29 (lx29 p0))],11⟩) ?_ [] R;refine bS hm fun H c7 hm=>bS hm fun f8 d4 hm=>?_;refine .drd 14 [(11,[],[1,2,3,4]),(11,[oT],[1,2,3,4]),(11,[],[]),(11,[],[]),(11,[oF,oF,oT,oT],[]),(13,fA 2 (tT 3),[]),(13,tT 6,[]),(14,tT 7,[]),(14,tT 8,[])] [_,_,_,_,_,_,_,_,_] ⟨[(50,.i w.1),(49,.i K.length),(48,.h 0),(11,.o (lZ 67 [lP 1 0,lP 3 0])),(5,.q 3 0),(4,.q 5 0),(3,.q 8 0),(2,.q 9 0)],[(0,ROW rE70 70 K),(1,.bx 128 [lH 11]),(11,MAP kvP qI 128 H.2.1),(3,.bx 34 [lH 12]),(12,ROW rE70 70 H.2.2),(5,.bx 29 [lH 6,lI 0,lH 13,lN,lN]),(6,rwI F),(13,rwI f8),(8,.bx 29 (lx29 p1)),(9,.bx 29 (lx29 p0))],14⟩ ⟨O.faP y6t Z R R,zB nag26 R,zM R,O.lg (l':=[lI J.1,lI J.2]) ag70 Z R (.B R) R R R,O.caW (r':= .i H.1) [1,2,3,4,11,12] [(1,.u),(3,.u),(4,MAP kvP qI 128 H.2.1),(5,ROW rE70 70 H.2.2),(0,.bx 128 [lH 11]),(2,.bx 34 [lH 12])] (some 13) (y6o c7) cf67 R R R Z R R R R R ⟨⟨_,R,fun _ _ _ _ _=>trivial⟩,⟨_,R,fun _ _ _ _ _=>trivial⟩,⟨_,R,I4⟩,⟨_,R,I4⟩,⟨_,R,I4⟩,⟨_,R,I4⟩,trivial⟩ I3 R,O.bsF (r:=qI) (zs:=([H.1]:LI)) bs26 R R Z R R R (.c .k .n) R R R,O.ap 13 underlying26 el3 R R Z R R (.fr R) d4 R,O.faP y6t Z R R,O.st nag26.sz Z R R R R R,trivial⟩ (by kernel_rfl) R ?_;refine .seqN (.sr (.lb nag34 R (.lh sl34 R (.bi R (.ns ?_)))));exact .cc hm R (fun hm=> .sr (.bu [lN,lI 0,lN,lN,lN] pl29 R (.st ag29.sz R (.st nag34.sz R (.an R (.ret (.blkR (.seqR (.seqR ((f1 _ (a9 _ (oj hm))).sub [(0,3),(1,5)] R)))))))))) fun hm=> .skip (.blkN (.seqN (.reg (.bi R (.mv R (.nil ((f6 _ (oj hm)).sub [(2,11),(4,12),(7,13)] R)))))))
 refine .cutU (z:= .ret) (fun P=> .inr (P)=o5) (fun (P:Int)=>⟨[(6,.i P),(5,.q 0 0),(4,.q 1 0)],[(0,.bx 34 [lN]),(1,.bx 29 [lN,lI 0,lN,lN,lN])],2⟩) ?_ fun f2=>?_
 ·rintro P rfl;dsimp only at hm;refine .blkR (.seqR (.nlb qI 3 1 0 R R (.nlb qI 3 1 2 R R (.nlb qI 3 1 3 R R (.nlb qT 112 1 4 R R (.nlb rE70 70 0 0 R R ?_))))));cases hm;exact .rr [2,3,4,5,6] results14 (.cell R R ag29 R (.one R R nag34 (.tmp R .nil))) R I3 ⟨⟨_,R,I4⟩,⟨_,R,I4⟩,⟨_,R,I4⟩,⟨_,R,I4⟩,⟨_,R,I4⟩,trivial⟩
 refine .iter (fun (e3:Int)=>⟨[(26,.i e3),(25,.g [lF qI p0.1,lI p0.2.1,lF qI p0.2.2.1,lF qI p0.2.2.2.1,lF qT p0.2.2.2.2,lF qI p1.1,lI p1.2.1,lF qI p1.2.2.1,lF qI p1.2.2.2.1,lF qT p1.2.2.2.2]),(5,.q 0 0),(4,.q 1 0),(3,.q 2 0),(2,.q 3 0)],[(0,.bx 34 [lN]),(1,.bx 29 [lN,lI 0,lN,lN,lN]),(2,.bx 29 (lx29 p1)),(3,.bx 29 (lx29 p0))],4⟩) g0 [(0,3),(1,2),(2,1),(3,0)] R ?_;intro e3 g9 hm g2 e1;refine .sr (.bi R (.ns (.seq ?_)));refine .cc hm R (fun hm=>?_) fun hm=> .xx ((K8 _ (e1 _ (oj hm))).s0 R);refine .sn (.seq (.block (.sr (bS hm fun b6 d5 hm=> .op (O.ixG (f:=(fun y:LI×Int×LI×LI×EdgL=> [lF qI y.1,lI y.2.1,lF qI y.2.2.1,lF qI y.2.2.2.1,lF qT y.2.2.2.2])) (cs:=([p0,p1]:List (LI×Int×LI×LI×EdgL))) (z:=b6) ag29 underlying126 (fun _=>rfl) Z R R R R d5 R) R (.al 4 zz29 R (.st ag29.sz R (.nr (.lg (lx29 b6) ag29 R (.B R) R (bS hm fun g8 c8 hm=> .c0 (y3c c8) cf45 R (.an R (.sv R (.bi R (.ns ?_)))))))))))));exact .cc hm R (fun hm=> .sr (.bu [lN,lI 0,lN,lN,lN] pl29 R (.mv R (.st ag29.sz R (.st nag34.sz R (.an R (.ret (.blkR (.seqR (.seqR ((f2 _ (e1 _ (oj hm))).s0 R))))))))))) fun hm=> .skip (.blkN (.seqN (.reg (.bi R (.mv R (.nil ((g2 _ (oj hm)).s0 R)))))))
def y5E(p0:List AutT):Option (LI×Int):=
 (y4L p0).bind fun a=>
 if(a != 0) then
  some (([]:LI),a)
 else
  (y4y p0).bind fun b=>
  some (b,0)
theorem yad{p0:List AutT}{r:LI×Int}(hm:y5E p0=some r):
    F0 75 [.f rE60 p0] [] (.tp [.h 0,.i r.2]) [rwI r.1]:=by
  refine Fw.mk2 func75 ntmps75 R (fun C=>?_) R;refine .sr (.sa R (.an R (.seq (.sv R (bS hm fun d a hm=> .c0 (y6T a) cf48 R (.an R (.sv R (.bi R (.ns ?_)))))))));refine .cc hm R (fun hm=>?_) fun hm=>?_
  ·refine .sv R (.sa R (.an R (.ret (.seqR (.nlg qI 3 2 0 R R ?_)))));cases hm;exact .rr [0] results75 (.tmp R (.tmp R .nil)) R I3 ⟨⟨_,R,I4⟩,trivial⟩
  ·refine .sn (.sv R (bS hm fun c b hm=> .cm (r':= .h 0) [0] [(0,rwI c)] (some 1) (y7R b) cf148 R ⟨⟨_,R,I4⟩,trivial⟩ R (.sa R (.an R (.ret ?_)))));cases hm;exact .rr [0] results75 (.tmp R (.tmp R .nil)) R I3 ⟨⟨_,R,I4⟩,trivial⟩
def y6E(p0:Bool)(p1:Bool):Option Bool:=
 some (p0&&(!p1))
theorem yae{p0:Bool}{p1:Bool}{r:Bool}(hm:y6E p0 p1=some r):
  F0 150 [.b p0,.b p1] [] (.b r) []:=by
 refine Fw.mk2 func150 ntmps150 R (fun C=>?_) R;refine .sr (.an R (.sv R (.mv R ?_)));refine .cut 3 (fun (a:Bool)=>(p0&&(!p1))=a) (fun a=>⟨[(9,.b a)],[],0⟩) ?_ ?_
 ·rintro _ rfl;refine .an R (.ret ?_);cases hm;exact .r0 results150 (.tmp R .nil) R R
 ·intro c;rcases yEt p0 with hc|hc
  ·refine .know (d:=6) R hc ?_;exact .mg R (.op (O.not (Gu.mk R R) R R) R (.pT R ((c (!p1) (andT hc).symm).s0 R)))
  ·refine .know (d:=6) R hc ?_;exact .s2 R R (.pF R ((c false (andF hc).symm).s0 R))
def y4z(p0:LI)(p1:LI):Option LI:=
 (y4w p0 p1 y6E).bind fun a=>
 some a
theorem y7T{p0:LI}{r:LI}(hm:y4z p0 p1=some r):
  F0 77 [.f qI p0,.f qI p1] [] (.h 0) [rwI r]:=by
 refine Fw.mk2 func77 ntmps77 R (fun C=>?_) R;refine .sr (.an R (.sv R (.mv R (bS hm fun b a hm=> .op (O.cac (r':= .h 0) [0] [(0,rwI b)] (some 1) (y6w a) cf139 R R Z R R ⟨⟨R,.rf⟩,⟨R,.rf⟩,⟨R,(.c (.fn cf150 (fun x r h=>yae h) (fun _=>R)) .n)⟩,trivial⟩ R ⟨⟨_,R,I4⟩,trivial⟩ I3 R) R (.an R (.ret ?_))))));cases hm;exact .rr [0] results77 (.tmp R .nil) R I3 ⟨⟨_,R,I4⟩,trivial⟩
def y3V(a:EdgL×Int×Int)(b:List (Int×Int×Int))(c:Int):Option ((EdgL×Int×Int)⊕(EdgL×Int)):=
 some (.inl (b,W (a.2.1+1),c))
def y5k(b:Int)(a:EdgL×Int×Int):Option ((EdgL×Int×Int)⊕(EdgL×Int)):=
 if decide (a.2.1<((a.1.length-b.toNat:Nat):Int)) then
  (idxV a.1 b.toNat a.2.1).bind fun c=>
  (idxV a.1 b.toNat (W (a.2.1-1))).bind fun d=>
  if(!(c.1==d.1&&(c.2.1==d.2.1&&(c.2.2==d.2.2&&true)))) then
   (idxV a.1 b.toNat a.2.1).bind fun e=>
   (idx a.1 a.2.2).bind fun g=>
   (upd a.1 a.2.2 e).bind fun f=>
   y3V a f (W (a.2.2+1))
  else
   y3V a a.1 a.2.2
 else
  some (.inr (a.1,a.2.2))
def y5l(p0:List (Int×Int×Int))(a:Int):Option (Int⊕(Unit⊕EdgL)):=
 if decide (a<(p0.length:Int)) then
  (idx p0 a).bind fun c=>
  (idx p0 (W (a-1))).bind fun d=>
  if(c.1==d.1&&(c.2.1==d.2.1&&(c.2.2==d.2.2&&true))) then
   (slc p0 a (p0.length:Int)).bind fun _=>
   (iter (y5k a) (p0,1,a)).bind fun b=>
   (slc b.1 b.2 (b.1.length:Int)).bind fun _=>
   (slc (b.1.take b.2.toNat++List.replicate (b.1.length-b.2.toNat) ((0:Int),(0:Int),(0:Int))) 0 b.2).bind fun e=>
   some (.inr (.inr (e)))
  else
   some (.inl (W (a+1)))
 else
  some (.inr (.inl ()))
def y4O(p0:List (Int×Int×Int)):Option EdgL:=
 if decide ((p0.length:Int)<2) then
  some p0
 else
  (iter (y5l p0) 1).bind fun a=>
  match a with
  | .inl c=>
   some p0
  | .inr (b)=>
   some b
theorem y8T{p0:List (Int×Int×Int)}{r:EdgL}(hm:y4O p0=some r):
    Fw prog 92 ⟨1,[0]⟩ [.h 0] [ROW qT 112 p0] (.f qT r) [.u]:=by
  refine Fw.mk2 func92 ntmps92 R (fun C=>?_) R;refine .sr (.an R (.seq (.sv R (.lh sl27 R (.bi R (.ns ?_))))));refine .cc hm R (fun hm=>?_) fun hm=>?_
  ·refine .sv R (.an R (.ret (.seqR (.fz 0 [2] [] R R fR R R (.ou 0 R ?_)))));cases hm;exact .rr [0] results92 (.tmp R .nil) R I3 ⟨⟨_,R,fun _ _ _ _ _=>trivial⟩,trivial⟩
  ·refine .sn (.seq (.sr (.an R (.block (bS hm fun J K hm=>?_)))));refine .cutU (z:= .exit 0) (fun H=> .inl H=J) (fun (H:Unit)=>⟨[(0,.h 0)],[(0,ROW qT 112 p0)],1⟩) ?_ fun T=>?_
   · rintro H rfl;dsimp only at hm;refine .blkE (.seqN (.sv R (.an R (.ret (.fz 0 [2] [] R R fR R R (.ou 0 R ?_))))));cases hm;exact .rr [0] results92 (.tmp R .nil) R I3 ⟨⟨_,R,fun _ _ _ _ _=>trivial⟩,trivial⟩
   refine .cutU (z:= .ret) (fun s=> .inr (s)=J) (fun (s:EdgL)=>⟨[(2,.h 1)],[(1,ROW qT 112 s)],2⟩) ?_ fun U=>?_
   · rintro s rfl;dsimp only at hm;refine .blkR (.seqR (.fz 1 [2] [] R R fR R R (.ou 0 R ?_)));cases hm;exact .rr [0] results92 (.tmp R .nil) R I3 ⟨⟨_,R,fun _ _ _ _ _=>trivial⟩,trivial⟩
   refine .iter (fun (j:Int)=>⟨[(3,.i j),(0,.h 0)],[(0,ROW qT 112 p0)],1⟩) K [] R ?_;intro j Y hm Q G;refine .seq (.sv R (.mv R (.lh sl27 R (.bi R (.ns ?_)))));refine .cc hm R (fun hm=>?_) fun hm=> .xx ((T _ (G _ (oj hm))).s0 R);refine .sn (.seq (.block (.seq ?_)));refine .sub (τ:=⟨[(3,.i j),(0,.h 0)],[(0,ROW qT 112 p0)],1⟩) ?_ [] R;refine bS hm fun c x hm=>bS hm fun d y hm=>?_;refine .drw [(1,[]),(1,[]),(1,[oT,oT]),(1,tT 3),(1,[]),(1,[]),(1,[oF,oF,oF,oF,oF,oT]),(1,fA 4 (tT 3)),(1,fA 4 (tT 4)),(1,tT 9)] [_,_,_,_,_,_,_,_,_,_] ⟨[(25,.b (c.1==d.1&&(c.2.1==d.2.1&&(c.2.2==d.2.2&&true)))),(3,.i j),(0,.h 0)],[(0,ROW qT 112 p0)],1⟩ ⟨zM R,zM R,O.ir sl27 Z R R R x R,O.lg (l':=[lI c.1,lI c.2.1,lI c.2.2]) ag112 Z R (.R R x lv112) R R R,zM R,zM R,O.bi Z R R R R,O.ir sl27 Z R R R y R,O.lg (l':=[lI d.1,lI d.2.1,lI d.2.2]) ag112 Z R (.R R y lv112) R R R,O.eqs (us:=[.int .i64 c.1,.int .i64 c.2.1,.int .i64 c.2.2]) (vs:=[.int .i64 d.1,.int .i64 d.2.1,.int .i64 d.2.2]) (b:=(c.1==d.1&&(c.2.1==d.2.1&&(c.2.2==d.2.2&&true)))) (Eqs.mk underlying112 (by kernel_rfl) fun w=>(y5T rfl nag3.agg nag3.sz rfl rfl (run_equalIn_int _ _ _ _ _ _ _ underlying3) (y5T rfl nag3.agg nag3.sz rfl rfl (run_equalIn_int _ _ _ _ _ _ _ underlying3) (y5T rfl nag3.agg nag3.sz rfl rfl (run_equalIn_int _ _ _ _ _ _ _ underlying3) rfl)))) (by kernel_rfl) Z R R R R,trivial⟩ (by kernel_rfl) R ?_;refine .seqN ?_;refine .cc hm R (fun hm=>?_) fun hm=> .skip (.blkN (.seqN (.reg (.mv R (.bi R (.sa R (.nil ((Q _ (oj hm)).s0 R))))))));refine .sv R (.mv R (bS hm fun _ W hm=> .op (O.slv sl27 Z R R R W R) R (.an R (.seq (.sr (.an R (.block (bS hm fun q L hm=>?_))))))));refine .cut1 (z:= .exit 2) q (fun (q:EdgL×Int)=>⟨[(3,.i q.2),(0,.h 0)],[(0,ROW qT 112 q.1)],1⟩) ?_ fun V=>?_
   · skip
     exact .blkE (.seqN (.sv R (.mv R (bS hm fun _ X hm=> .op (O.slv sl27 Z R R R X R) R (.op (O.clV (r:=qT) (z0:=((0:Int),(0:Int),(0:Int))) sl27 zc112 Z R R) R (.nr (.mv R (.mv R (bS hm fun a0 M hm=> .op (O.sho 1 sl27 R Z R R R M R) R (.an R (.ret (.blkR (.seqR (.seqR ((U _ (G _ (oj hm))).s0 R)))))))))))))))
   refine .iter (fun (a:EdgL×Int×Int)=>⟨[(5,.i a.2.1),(4,.o (lVw 0 3 j.toNat)),(3,.i a.2.2),(0,.h 0)],[(0,ROW qT 112 a.1)],1⟩) L [] R ?_;intro a I hm S P;refine .seq (.sv R (.mv R (.op (O.lenV (r:=qT) sl27 Z R R R) R (.bi R (.ns ?_)))));refine .cc hm R (fun hm=>?_) fun hm=> .xx ((V _ (P _ (oj hm))).s0 R);refine .sn ?_;refine .join2 (fun (m:List (Int×Int×Int)) (n:Int)=>y3V a m n=some I) (fun m n=>⟨[(3,.i n),(5,.i a.2.1),(4,.o (lVw 0 3 j.toNat)),(0,.h 0)],[(0,ROW qT 112 m)],1⟩) ?_ ?_
   · intro m n hm;exact .reg (.mv R (.bi R (.sa R (.nil ((S _ (oj hm)).s0 R)))))
   · intro v;refine .block (.seq ?_);refine .sub (τ:=⟨[(5,.i a.2.1),(4,.o (lVw 0 3 j.toNat)),(3,.i a.2.2),(0,.h 0)],[(0,ROW qT 112 a.1)],1⟩) ?_ [] R;refine bS hm fun e B hm=>bS hm fun g D hm=>?_;refine .drw [(1,[]),(1,[]),(1,[oT,oT]),(1,tT 3),(1,[]),(1,[]),(1,[oF,oF,oF,oF,oF,oT]),(1,fA 4 (tT 3)),(1,fA 4 (tT 4)),(1,tT 9)] [_,_,_,_,_,_,_,_,_,_] ⟨[(44,.b (!(e.1==g.1&&(e.2.1==g.2.1&&(e.2.2==g.2.2&&true))))),(5,.i a.2.1),(4,.o (lVw 0 3 j.toNat)),(3,.i a.2.2),(0,.h 0)],[(0,ROW qT 112 a.1)],1⟩ ⟨zM R,zM R,O.irV (r:=qT) sl27 Z R R R B R,O.lg (l':=[lI e.1,lI e.2.1,lI e.2.2]) ag112 Z R (.R R (y5d B).2 lv112) R R R,zM R,zM R,O.bi Z R R R R,O.irV (r:=qT) sl27 Z R R R D R,O.lg (l':=[lI g.1,lI g.2.1,lI g.2.2]) ag112 Z R (.R R (y5d D).2 lv112) R R R,O.nes (us:=[.int .i64 e.1,.int .i64 e.2.1,.int .i64 e.2.2]) (vs:=[.int .i64 g.1,.int .i64 g.2.1,.int .i64 g.2.2]) (b:=(e.1==g.1&&(e.2.1==g.2.1&&(e.2.2==g.2.2&&true)))) (Eqs.mk underlying112 (by kernel_rfl) fun w=>(y5T rfl nag3.agg nag3.sz rfl rfl (run_equalIn_int _ _ _ _ _ _ _ underlying3) (y5T rfl nag3.agg nag3.sz rfl rfl (run_equalIn_int _ _ _ _ _ _ _ underlying3) (y5T rfl nag3.agg nag3.sz rfl rfl (run_equalIn_int _ _ _ _ _ _ _ underlying3) rfl)))) (by kernel_rfl) Z R R R R,trivial⟩ (by kernel_rfl) R ?_;exact .seqN (.cc hm R (fun hm=> .sv R (.mv R (.mv R (.mv R (bS hm fun t E hm=> .op (O.irV (r:=qT) sl27 Z R R R E R) R (.op (O.lg (l':=[lI t.1,lI t.2.1,lI t.2.2]) ag112 Z R (.R R (y5d E).2 lv112) R R R) R (bS hm fun a1 F hm=> .op (O.ir sl27 Z R R R F R) R (bS hm fun a2 N hm=> .op (O.su (z:=t) ag112.sz Z R R F N R R R lv112 R (.p .k (.p .k .k))) R (.ns (.reg (.mv R (.bi R (.sa R (.nil (.blkN ((v _ _ hm).s0 R)))))))))))))))) fun hm=> .skip (.blkN ((v _ _ hm).s0 R)))
def y4S(p0:List (Int×Int×Int)):Option EdgL:=
 (yG yc p0).bind fun a=>
 (y4O a).bind fun b=>
 some b
theorem y7A{p0:List (Int×Int×Int)}{r:EdgL}(hm:y4S p0=some r):
  Fw prog 149 ⟨1,[0]⟩ [.h 0] [ROW qT 112 p0] (.f qT r) [.u]:=by
 refine Fw.mk2 func149 ntmps149 R (fun C=>?_) R;refine .sr (.an R (.sv R (bS hm fun c a hm=> .cm (r':= .tp []) [0] [(0,ROW qT 112 c)] none (y6A cf112 (fun _ _ _=>y4u) a) cf62 R ⟨⟨_,R,I4⟩,trivial⟩ R (.nr (.mv R (bS hm fun d b hm=> .cm (r':= .f qT d) [0] [(0,.u)] none (y8T b) cf92 R ⟨⟨_,R,fun _ _ _ _ _=>trivial⟩,trivial⟩ R (.an R (.ret (.ou 0 R ?_)))))))));cases hm;exact .rr [0] results149 (.tmp R .nil) R I3 ⟨⟨_,R,fun _ _ _ _ _=>trivial⟩,trivial⟩
def y1r(a:Int×EdgL)(b:Int×Int×Int)(c:Int):Option ((Int×EdgL)⊕EdgL):=
 (app a.2 ([(b.1,c,b.2.2)]:List (Int×Int×Int))).bind fun d=>
 some (.inl (W (a.1+1),d))
def y2Z(p0:LI×Int×LI×LI×EdgL)(p1:LI)(a:Int×EdgL):Option ((Int×EdgL)⊕EdgL):=
 if decide (a.1<(p0.2.2.2.2.length:Int)) then
  (idx p0.2.2.2.2 a.1).bind fun b=>
  (yp p1 b.2.1).bind fun c=>
  if c then
   y1r a b (-1)
  else
   y1r a b b.2.1
 else
  some (.inr a.2)
def yO(p0:LI×Int×LI×LI×EdgL)(p1:LI):Option ((LI×Int×LI×LI×EdgL)×Int):=
 (yE p0).bind fun b=>
 if(b != 0) then
  some ((([]:LI),0,([]:LI),([]:LI),([]:List (Int×Int×Int))),b)
 else
  (y1G p1 32).bind fun d=>
  if(d != 0) then
   some ((([]:LI),0,([]:LI),([]:LI),([]:List (Int×Int×Int))),d)
  else
   (y4z p0.1 p1).bind fun e=>
   (yn p0.2.2.1).bind fun f=>
   (yn p0.2.2.2.1).bind fun g=>
   (iter (y2Z p0 p1) (0,([]:List (Int×Int×Int)))).bind fun a=>
   (y4S a).bind fun c=>
   some ((e,p0.2.1,f,g,c),0)
theorem y6k{p0:LI×Int×LI×LI×EdgL}{r:(LI×Int×LI×LI×EdgL)×Int}(hm:yO p0 p1=some r):
    F0 76 [.a (lx29 p0),.f qI p1] [] (.tp [.a [lH 0,lI r.1.2.1,lH 1,lH 2,lF qT r.1.2.2.2.2],.i r.2]) [rwI r.1.1,rwI r.1.2.2.1,rwI r.1.2.2.2.1]:=by
  refine Fw.mk2 func76 ntmps76 R (fun C=>?_) R;refine .sr (.bo 0 R (.al 1 zz29 R (.an R (.seq (.sr (.lg (lx29 p0) ag29 R (.B R) R (bS hm fun S J hm=> .c0 (y3c J) cf45 R (.an R (.sv R (.bi R (.ns ?_)))))))))));refine .cc hm R (fun hm=>?_) fun hm=>?_
  ·refine .sr (.bu [lN,lI 0,lN,lN,lN] pl29 R (.mv R (.st ag29.sz R (.an R (.ret (.seqR (.nlb qI 3 1 0 R R (.nlb qI 3 1 2 R R (.nlb qI 3 1 3 R R (.cno 1 R (.c .rf (.c .rf (.c .rf (.c .rf (.c (.nf (r:=qT)) .n))))) R ?_))))))))));cases hm;exact .rr [2,3,4] results76 (.cell R R ag29 R (.tmp R .nil)) R I3 ⟨⟨_,R,I4⟩,⟨_,R,I4⟩,⟨_,R,I4⟩,trivial⟩
  ·refine .sn (.seq (.sv R (bS hm fun T K hm=> .c0 (y4K K) cf111 R (.an R (.sv R (.bi R (.ns ?_)))))));refine .cc hm R (fun hm=>?_) fun hm=>?_
   ·refine .sr (.bu [lN,lI 0,lN,lN,lN] pl29 R (.mv R (.st ag29.sz R (.an R (.ret (.seqR (.nlb qI 3 1 0 R R (.nlb qI 3 1 2 R R (.nlb qI 3 1 3 R R (.cno 1 R (.c .rf (.c .rf (.c .rf (.c .rf (.c (.nf (r:=qT)) .n))))) R ?_))))))))));cases hm;exact .rr [2,3,4] results76 (.cell R R ag29 R (.tmp R .nil)) R I3 ⟨⟨_,R,I4⟩,⟨_,R,I4⟩,⟨_,R,I4⟩,trivial⟩
   ·refine .sn (.seq ?_);refine .sub (τ:=⟨[(4,.q 1 0),(2,.q 0 0),(1,.f qI p1)],[(1,.bx 29 [lN,lI 0,lN,lN,lN]),(0,.bx 29 (lx29 p0))],2⟩) ?_ [] R;refine bS hm fun m L hm=>bS hm fun o M hm=>bS hm fun s N hm=>?_;refine .drz 6 [(13,5)] [(2,[],[],[]),(2,[oT],[],[]),(2,[],[],[]),(2,tT 3,[],[]),(2,[],[],[]),(2,[oF,oF,oF,oF,oT],[],[]),(2,[],[],[]),(2,[oF,oF,oF,oF,oF,oF,oT],[],[]),(3,tA 4 (fA 2 (tT 2)),[],[]),(2,[],[],[]),(2,[oF,oF,oF,oF,oF,oF,oF,oF,oF,oT],[],[]),(4,tA 4 (fA 2 (tT 5)),[],[]),(5,tT 12,[],[]),(2,[],[],[]),(6,tT 14,[],[])] [_,_,_,_,_,_,_,_,_,_,_,_,_,_,_] ⟨[(8,.q 5 0),(4,.q 1 0),(2,.q 0 0),(1,.f qI p1)],[(5,.bx 29 [lH 2,lI p0.2.1,lH 3,lH 4,lN]),(2,rwI m),(3,rwI o),(4,rwI s),(1,.bx 29 [lN,lI 0,lN,lN,lN]),(0,.bx 29 (lx29 p0))],6⟩ ⟨O.faP y5z Z R R,zB nag26 R,zM R,O.ca (r':= .h 2) [2] [(0,rwI m)] (some 3) (y7T L) cf77 R R Z R R R R ⟨⟨_,R,I4⟩,trivial⟩ I3 R,O.faP y2G Z R R,zB nag3 R,O.faP y6t Z R R,zB nag26 R,O.ca (r':= .h 3) [3] [(0,rwI o)] (some 4) (yC M) cf58 R R Z R R R R ⟨⟨_,R,I4⟩,trivial⟩ I3 R,O.faP y6u Z R R,zB nag26 R,O.ca (r':= .h 4) [4] [(0,rwI s)] (some 5) (yC N) cf58 R R Z R R R R ⟨⟨_,R,I4⟩,trivial⟩ I3 R,O.bu (l:=[lH 2,lI p0.2.1,lH 3,lH 4,lN]) pl29 R Z R R R,O.al 5 R zz29 R Z R,O.st ag29.sz Z R R R R R,trivial⟩ (by kernel_rfl) R ?_;refine .seqN (.seq (.sr (.fa y2f R (.lb nag27 R (.ln sl27 R (.mv R (.ns (.block (bS hm fun j w hm=>?_)))))))));refine .cut1 (z:= .exit 0) j (fun (j:EdgL)=>⟨[(8,.q 0 0),(4,.q 5 0)],[(0,.bx 29 [lH 1,lI p0.2.1,lH 2,lH 3,lH 4]),(1,rwI m),(2,rwI o),(3,rwI s),(4,ROW qT 112 j),(5,.bx 29 [lN,lI 0,lN,lN,lN])],6⟩) ?_ fun I=>?_
    · skip
      refine .blkE (.seqN (.sr (.fa y2f R (.lb nag27 R (bS hm fun v x hm=> .cm (r':= .f qT v) [4] [(0,.u)] none (y7A x) cf149 R ⟨⟨_,R,fun _ _ _ _ _=>trivial⟩,trivial⟩ R (.fa y2f R (.st nag27.sz R (.nr (.lg [lH 1,lI p0.2.1,lH 2,lH 3,lF qT v] ag29 R (.B R) R (.st ag29.sz R (.an R (.ret ?_))))))))))));cases hm;exact .rr [1,2,3] results76 (.cell R R ag29 R (.tmp R .nil)) R I3 ⟨⟨_,R,I4⟩,⟨_,R,I4⟩,⟨_,R,I4⟩,trivial⟩
    refine .nlb qT 112 5 4 R R (.iter (fun (d:Int×EdgL)=>⟨[(39,.i d.1),(38,.i p0.2.2.2.2.length),(37,.f qT p0.2.2.2.2),(8,.q 0 0),(4,.q 5 0),(1,.f qI p1)],[(0,.bx 29 [lH 1,lI p0.2.1,lH 2,lH 3,lH 4]),(1,rwI m),(2,rwI o),(3,rwI s),(4,ROW qT 112 d.2),(5,.bx 29 [lN,lI 0,lN,lN,lN])],6⟩) w [(0,5),(1,2),(2,3),(3,4),(4,6),(5,1)] R ?_);intro d t hm H G;refine .sr (.bi R (.ns (.seq ?_)));refine .cc hm R (fun hm=>?_) fun hm=> .xx ((I _ (G _ (oj hm))).s0 R);refine .sn (.seq (.block (.sr (bS hm fun b D hm=> .ix sl27 D R (.lg [lI b.1,lI b.2.1,lI b.2.2] ag112 R (.E lv112) R (.al 6 zz112 R (.st ag112.sz R (.ns ?_))))))));refine .join1 (fun (e:Int)=>y1r d b e=some t) (fun e=>⟨[(10,.q 0 0),(39,.i d.1),(38,.i p0.2.2.2.2.length),(37,.f qT p0.2.2.2.2),(8,.q 1 0),(4,.q 6 0),(1,.f qI p1)],[(0,.bx 112 [lI b.1,lI e,lI b.2.2]),(1,.bx 29 [lH 2,lI p0.2.1,lH 3,lH 4,lH 5]),(2,rwI m),(3,rwI o),(4,rwI s),(5,ROW qT 112 d.2),(6,.bx 29 [lN,lI 0,lN,lN,lN])],7⟩) ?_ ?_
    · intro e hm;exact .reg (.fa y2f R (.lb nag27 R (.lg [lI b.1,lI e,lI b.2.2] ag112 R (.B R) R (.bf (r:=qT) ([(b.1,e,b.2.2)]:List (Int×Int×Int)) bs27 R (.c (.p .k (.p .k .k)) .n) R (bS hm fun Q F hm=> .ap 7 underlying27 el112 R R (.fr R) F (.fa y2f R (.st nag27.sz R (.nil (.blkN (.seqN (.reg (.bi R (.mv R (.nil ((H _ (oj hm)).sub [(0,1),(1,2),(2,3),(3,4),(4,7),(5,6)] R)))))))))))))))
    · intro g;refine .sv R (.fa y1V R (.lb nag3 R (bS hm fun P y hm=> .c0 (yI y) cf69 R (.ns ?_))));exact .cc hm R (fun hm=> .reg (.fa y1V R (.st nag3.sz R (.nil ((g _ hm).sub [(0,6),(1,0),(2,1),(3,2),(4,3),(5,4),(6,5)] R))))) fun hm=> .skip ((g _ hm).sub [(0,6),(1,0),(2,1),(3,2),(4,3),(5,4),(6,5)] R)
def y1t(d:List LI)(a:LI×List Bool):Option ((LI×List Bool)⊕(List Bool)):=
 if decide ((a.1.length:Int)>0) then
  (idx a.1 (W ((a.1.length:Int)-1))).bind fun b=>
  (slc a.1 0 (W ((a.1.length:Int)-1))).bind fun c=>
  (idx a.2 b).bind fun e=>
  if(!e) then
   (idx a.2 b).bind fun i=>
   (upd a.2 b true).bind fun f=>
   (idx d b).bind fun g=>
   (app c g).bind fun h=>
   some (.inl (h,f))
  else
   some (.inl (c,a.2))
 else
  some (.inr a.2)
def y2O(a:Int×List LI)(b:Int)(c:Int):Option ((Int×List LI)⊕(List LI)):=
 (idx a.2 b).bind fun d=>
 (app d ([c]:LI)).bind fun e=>
 (idx a.2 b).bind fun g=>
 (upd a.2 b e).bind fun f=>
 some (.inl (W (a.1+1),f))
def y2P(p0:LI×Int×LI×LI×EdgL)(p2:Bool)(a:Int×List LI):Option ((Int×List LI)⊕(List LI)):=
 if decide (a.1<(p0.2.2.2.2.length:Int)) then
  (idx p0.2.2.2.2 a.1).bind fun b=>
  if p2 then
   y2O a b.2.2 b.1
  else
   y2O a b.1 b.2.2
 else
  some (.inr a.2)
def y3W(p0:LI×Int×LI×LI×EdgL)(p1:LI)(p2:Bool):Option (List Bool):=
 (mkL p0.2.1 ([]:LI)).bind fun e=>
 (iter (y2P p0 p2) (0,e)).bind fun a=>
 (mkL p0.2.1 false).bind fun d=>
 (yn p1).bind fun c=>
 (iter (y1t a) (c,d)).bind fun b=>
 some b
theorem y6Y{p0:LI×Int×LI×LI×EdgL}{p2:Bool}{r:List Bool}(hm:y3W p0 p1 p2=some r):
  F0 144 [.a (lx29 p0),.f qI p1,.b p2] [] (.h 0) [ROW rB 4 r]:=by
 refine Fw.mk2 func144 ntmps144 R (fun C=>?_) R;refine .sr (.bo 0 R (.an R (.sr (.fa y2G R (.lb nag3 R (bS hm fun x1 X hm=> .op (O.mkT flr3 3 1 underlying74 zv26 R R Z R R X R) R (.an R (.seq (.sr (.fa y2f R (.lb nag27 R (.ln sl27 R (.mv R (.ns (.block (bS hm fun j D hm=>?_))))))))))))))));refine .cut1 (z:= .exit 0) j (fun (j:List LI)=>⟨[(7,.h 0),(3,.q 1 0),(1,.f qI p1)],[(0,TAB flr3 26 3 none j),(1,.bx 29 (lx29 p0))],2⟩) ?_ fun V=>?_
 ·skip
  refine .blkE (.seqN (.seq ?_));refine .sub (τ:=⟨[(7,.h 0),(3,.q 1 0),(1,.f qI p1)],[(0,TAB flr3 26 3 none j),(1,.bx 29 (lx29 p0))],2⟩) ?_ [] R;refine bS hm fun Y H hm=>bS hm fun B G hm=>?_;refine .drw [(2,[]),(2,[oT]),(2,[oT,oT]),(2,[]),(2,[oF,oF,oF,oT]),(4,tT 5),(4,tT 6)] [_,_,_,_,_,_,_] ⟨[(11,.h 3),(10,.h 2),(7,.h 0)],[(3,rwI B),(2,ROW rB 4 Y),(0,TAB flr3 26 3 none j)],4⟩ ⟨O.faP y2G Z R R,zB nag3 R,O.mk (z:=false) 2 underlying177 zr4 R R Z R R H R,zM R,O.ca (r':= .h 3) [3] [(0,rwI B)] (some 4) (yC G) cf58 R R Z R R R R ⟨⟨_,R,I4⟩,trivial⟩ I3 R,O.as Z R R,O.as Z R R,trivial⟩ (by kernel_rfl) R ?_;refine .seqN (.seq (.block (bS hm fun x F hm=>?_)));refine .cut1 (z:= .exit 2) x (fun (x:List Bool)=>⟨[(10,.h 0)],[(0,ROW rB 4 x)],1⟩) ?_ fun W=>?_
  ·skip
   refine .blkE (.seqN (.sv R (.an R (.ret ?_))));cases hm;exact .rr [0] results144 (.tmp R .nil) R I3 ⟨⟨_,R,I4⟩,trivial⟩
  refine .fz 0 [7] [] R R fTb R R (.iter (fun (o:LI×List Bool)=>⟨[(11,.h 0),(10,.h 1),(7,.f (rL qI) j)],[(0,rwI o.1),(1,ROW rB 4 o.2)],2⟩) F [(0,3),(1,2)] R ?_);intro o a1 hm w T;refine .seq (.sv R (.lh sl26 R (.bi R (.ns ?_))));refine .cc hm R (fun hm=>?_) fun hm=> .xx ((W _ (T _ (oj hm))).sub [(0,1)] R);refine .sn (.block (.sv R (.mv R (.lh sl26 R (.bi R (bS hm fun a2 s hm=> .op (O.ir sl26 Z R R R s R) R (.op (O.ld nag3 Z R (.R R s lv3) R R) R (.an R (.sv R (.mv R (.lh sl26 R (.bi R (bS hm fun a3 I hm=> .op (O.sho 2 sl26 R Z R R R I R) R (.an R (.sv R (.mv R (bS hm fun a4 t hm=> .op (O.ir sl177 Z R R R t R) R (.op (O.ld nag4 Z R (.R R t lv4) R R) R (.no R (.ns ?_))))))))))))))))))));exact .cc hm R (fun hm=> .sv R (.mv R (bS hm fun a5 u hm=> .op (O.ir sl177 Z R R R u R) R (bS hm fun a6 J hm=> .op (O.su (z:=true) nag4.sz Z R R u J R R R lv4 R .b) R (.ns (.reg (.mv R (.mv R (.mv R (bS hm fun a7 K hm=> .ix sl74 K R (.le nag26 lv26 R (bS hm fun a8 L hm=> .ap 3 underlying26 el3 R R (.fr R) L (.sa R (.nil (.blkN ((w _ (oj hm)).sub [(0,3)] R)))))))))))))))) fun hm=> .skip (.blkN ((w _ (oj hm)).sub [(0,2)] R))
 refine .iter (fun (d:Int×List LI)=>⟨[(19,.i d.1),(18,.i p0.2.2.2.2.length),(17,.f qT p0.2.2.2.2),(7,.h 0),(3,.q 1 0),(1,.f qI p1),(2,.b p2)],[(0,TAB flr3 26 3 none d.2),(1,.bx 29 (lx29 p0))],2⟩) D [(0,1),(1,0)] R ?_;intro d y hm U S;refine .sr (.bi R (.ns (.seq ?_)));refine .cc hm R (fun hm=>?_) fun hm=> .xx ((V _ (S _ (oj hm))).s0 R);refine .sn (.seq (.block (.sr (bS hm fun m M hm=> .ix sl27 M R (.lg [lI m.1,lI m.2.1,lI m.2.2] ag112 R (.E lv112) R (.al 2 zz112 R (.st ag112.sz R (.ns ?_))))))));refine .join2 (fun (l:Int) (g:Int)=>y2O d l g=some y) (fun l g=>⟨[(9,.q 0 0),(19,.i d.1),(18,.i p0.2.2.2.2.length),(17,.f qT p0.2.2.2.2),(7,.h 1),(3,.q 2 0),(1,.f qI p1),(2,.b p2)],[(0,.bx 112 [lI l,lI m.2.1,lI g]),(1,TAB flr3 26 3 none d.2),(2,.bx 29 (lx29 p0))],3⟩) ?_ ?_
 ·intro l g hm;refine .sub (τ:=⟨[(9,.q 0 0),(19,.i d.1),(18,.i p0.2.2.2.2.length),(17,.f qT p0.2.2.2.2),(7,.h 1),(3,.q 2 0),(1,.f qI p1),(2,.b p2)],[(0,.bx 112 [lI l,lI m.2.1,lI g]),(1,TAB flr3 26 3 none d.2),(2,.bx 29 (lx29 p0))],3⟩) ?_ [] R;refine bS hm fun a9 v hm=>bS hm fun b0 N hm=>bS hm fun b1 P hm=>bS hm fun a0 Q hm=>?_;refine .drz 5 [(7,1),(7,3),(11,4)] [(3,[],[1],[]),(3,[],[1],[]),(3,[oF,oT],[1],[]),(3,[],[],[]),(3,[],[],[]),(3,[oF,oF,oF,oF,oT],[],[]),(3,fA 3 (tT 3),[],[]),(3,fA 3 (tT 4),[],[]),(3,[],[1],[]),(3,[oF,oF,oF,oF,oF,oF,oF,oF,oT],[1],[]),(3,[oF,oF,oF,oF,oF,oF,oF,oF,oT,oT],[1],[]),(4,fA 3 (tT 8),[],[]),(5,tT 12,[],[(7,3)]),(5,tT 13,[],[(7,3)])] [_,_,_,_,_,_,_,_,_,_,_,_,_,_] ⟨[(19,.i d.1),(18,.i p0.2.2.2.2.length),(17,.f qT p0.2.2.2.2),(7,.h 1),(3,.q 2 0),(1,.f qI p1),(2,.b p2)],[(1,TAB flr3 26 3 none a0),(2,.bx 29 (lx29 p0))],5⟩ ⟨zM R,O.faP yS Z R R,zB nag3 R,zM R,O.faP yS Z R R,zB nag3 R,O.irT sl74 Z R R R v R,O.ldT 3 nag26 R Z R R v R,O.faP y1W Z R R,zB nag3 R,O.bsF (r:=qI) (zs:=([g]:LI)) bs26 R R Z R R R (.c .k .n) R R R,O.ap 4 underlying26 el3 R R Z R R (.fr R) N R,O.irT sl74 Z R R R P R,O.stT nag26.sz Z R R Q R R R (fun _ e=>by cases e;rfl),trivial⟩ (by kernel_rfl) R ?_;exact .blkN (.seqN (.reg (.bi R (.mv R (.nil ((U _ (oj hm)).sub [(0,1),(1,2)] R))))))
 ·intro p;refine .sv R (.ns ?_);exact .cc hm R (fun hm=> .reg (.fa y1W R (.lb nag3 R (.fa yS R (.lb nag3 R (.fa yS R (.st nag3.sz R (.fa y1W R (.st nag3.sz R (.nil ((p _ _ hm).sub [(0,2),(1,0),(2,1)] R))))))))))) fun hm=> .skip ((p _ _ hm).sub [(0,2),(1,0),(2,1)] R)
def y2o(a:Int×LI)(b:LI):Option ((Int×LI)⊕LI):=
 some (.inl (W (a.1+1),b))
def y2p(p0:LI×Int×LI×LI×EdgL)(f:List Bool)(g:List Bool)(a:Int×LI):Option ((Int×LI)⊕LI):=
 if decide (a.1<p0.2.1) then
  (idx f a.1).bind fun c=>
  (if c then
   (idx g a.1).bind fun e=>
   some (!e)
  else
   some false).bind fun b=>
  if b then
   (app a.2 ([a.1]:LI)).bind fun d=>
   y2o a d
  else
   y2o a a.2
 else
  some (.inr a.2)
def y1k(p0:LI×Int×LI×LI×EdgL):Option LI:=
 (y3W p0 p0.2.2.1 false).bind fun b=>
 (y3W p0 p0.2.2.2.1 true).bind fun c=>
 (iter (y2p p0 b c) (0,([]:LI))).bind fun a=>
 some a
theorem y8U{p0:LI×Int×LI×LI×EdgL}{r:LI}(hm:y1k p0=some r):
  F0 71 [.a (lx29 p0)] [] (.h 0) [rwI r]:=by
 refine Fw.mk2 func71 ntmps71 R (fun C=>?_) R;refine .sr (.bo 0 R (.an R (.seq ?_)));refine .sub (τ:=⟨[(1,.q 0 0)],[(0,.bx 29 (lx29 p0))],1⟩) ?_ [] R;refine bS hm fun p G hm=>bS hm fun s H hm=>?_;refine .drw [(1,[]),(1,[]),(1,[oF,oT]),(1,tT 3),(1,[]),(1,[]),(1,[oF,oF,oF,oF,oF,oT]),(2,tT 7),(3,tT 8),(3,tT 9)] [_,_,_,_,_,_,_,_,_,_] ⟨[(4,.h 2),(3,.h 1),(1,.q 0 0)],[(2,ROW rB 4 s),(1,ROW rB 4 p),(0,.bx 29 (lx29 p0))],3⟩ ⟨O.lg (l':=(lx29 p0)) ag29 Z R (.B R) R R R,O.faP y6t Z R R,zB nag26 R,O.ca (r':= .h 1) [1] [(0,ROW rB 4 p)] (some 2) (y6Y G) cf144 R R Z R R R R ⟨⟨_,R,I4⟩,trivial⟩ I3 R,O.lg (l':=(lx29 p0)) ag29 Z R (.B R) R R R,O.faP y6u Z R R,zB nag26 R,O.ca (r':= .h 2) [2] [(0,ROW rB 4 s)] (some 3) (y6Y H) cf144 R R Z R R R R ⟨⟨_,R,I4⟩,trivial⟩ I3 R,O.as Z R R,O.as Z R R,trivial⟩ (by kernel_rfl) R ?_;refine .seqN (.sr (.an R (.seq (.sr (.fa y2G R (.lb nag3 R (.mv R (.ns (.block (bS hm fun o w hm=>?_))))))))));refine .cut1 (z:= .exit 0) o (fun (o:LI)=>⟨[(5,.h 0)],[(0,rwI o)],1⟩) ?_ fun E=>?_
 ·skip
  refine .blkE (.seqN (.sv R (.an R (.ret ?_))));cases hm;exact .rr [0] results71 (.tmp R .nil) R I3 ⟨⟨_,R,I4⟩,trivial⟩
 refine .nlg qI 3 5 0 R R (.iter (fun (e:Int×LI)=>⟨[(17,.i e.1),(16,.i p0.2.1),(5,.h 0),(4,.h 1),(3,.h 2)],[(0,rwI e.2),(1,ROW rB 4 s),(2,ROW rB 4 p)],3⟩) w [(0,3),(1,2),(2,1)] R ?_);intro e u hm D y;refine .sr (.bi R (.ns (.seq ?_)));refine .cc hm R (fun hm=>?_) fun hm=> .xx ((E _ (y _ (oj hm))).s0 R);refine .sn ?_;refine .join1 (fun (f:LI)=>y2o e f=some u) (fun f=>⟨[(5,.h 0),(17,.i e.1),(16,.i p0.2.1),(4,.h 1),(3,.h 2)],[(0,rwI f),(1,ROW rB 4 s),(2,ROW rB 4 p)],3⟩) ?_ ?_
 ·intro f hm;exact .reg (.bi R (.mv R (.nil ((D _ (oj hm)).s0 R))))
 ·intro g;refine .block (.sv R (.an R (.sv R (.mv R (bS hm fun J j hm=> .op (O.ir sl177 Z R R R j R) R (.op (O.ld nag4 Z R (.R R j lv4) R R) R (.mv R (bS hm fun F eb21 hm=>?_))))))));refine .cut 6 (fun (t:Bool)=>F=t) (fun t=>⟨[(30,.b t),(6,.i e.1),(17,.i e.1),(16,.i p0.2.1),(5,.h 0),(4,.h 1),(3,.h 2)],[(0,rwI e.2),(1,ROW rB 4 s),(2,ROW rB 4 p)],3⟩) ?_ ?_
  ·rintro _ rfl;exact .ns (.cc hm R (fun hm=> .reg (.mv R (.mv R (.bf (r:=qI) ([e.1]:LI) bs26 R (.c .k .n) R (bS hm fun K x hm=> .ap 3 underlying26 el3 R R (.fr R) x (.sa R (.nil (.blkN ((g _ hm).sub [(0,3)] R))))))))) fun hm=> .skip (.blkN ((g _ hm).s0 R)))
  ·intro v;rcases ifS eb21 with ⟨hc,hm⟩|⟨hc,hm⟩
   ·refine .know (d:=24) R hc ?_;exact .mg R (.mg R (bS hm fun I m hm=> .op (O.ir sl177 (Gu.mk R R) R R R m R) R (.op (O.ld nag4 (Gu.mk R R) R (.R R m lv4) R R) R (.op (O.not (Gu.mk R R) R R) R (.pT R ((v (!I) (oj hm)).s0 R))))))
   ·refine .know (d:=24) R hc ?_;exact .s2 R R (.s2 R R (.sk R (.pF R ((v false (oj hm)).s0 R))))
def y3y(p0:List AutT)(b:Int×LI×Int×LI×LI×EdgL×LI)(e:Int)(d:LI)(i:Int)(f:LI)(g:LI)(h:List (Int×Int×Int)):Option ((Int×LI×Int×LI×LI×EdgL×LI)⊕((LI×Int×LI×LI×EdgL×LI)⊕Int)):=
 if(e != 0) then
  some (.inr (.inr (e)))
 else
  (slc p0 (W (b.1+1)) (p0.length:Int)).bind fun l=>
  (y5E l).bind fun j=>
  (y4z d j.1).bind fun k=>
  (yO (d,i,f,g,h) k).bind fun c=>
  if(c.2 != 0) then
   some (.inr (.inr (c.2)))
  else
   (yW c.1).bind fun a=>
   if(a.2 != 0) then
    some (.inr (.inr (a.2)))
   else
    (app b.2.2.2.2.2.2 ([a.1.2.1]:LI)).bind fun m=>
    some (.inl (W (b.1+1),a.1.1,a.1.2.1,a.1.2.2.1,a.1.2.2.2.1,a.1.2.2.2.2,m))
def yt(p0:List AutT)(a:Int×LI×Int×LI×LI×EdgL×LI):Option ((Int×LI×Int×LI×LI×EdgL×LI)⊕((LI×Int×LI×LI×EdgL×LI)⊕Int)):=
 if decide (a.1<(p0.length:Int)) then
  (idx p0 a.1).bind fun d=>
  (y1s d).bind fun b=>
  if((decide (a.1>0))&&(b.2==0)) then
   (yz (a.2.1,a.2.2.1,a.2.2.2.1,a.2.2.2.2.1,a.2.2.2.2.2.1) b.1).bind fun c=>
   y3y p0 a c.2.2 c.1.1 c.1.2.1 c.1.2.2.1 c.1.2.2.2.1 c.1.2.2.2.2
  else
   y3y p0 a b.2 b.1.1 b.1.2.1 b.1.2.2.1 b.1.2.2.2.1 b.1.2.2.2.2
 else
  some (.inr (.inl a.2))
def y2q(p0:List AutT):Option (Bool×LI×Int):=
 (y4L p0).bind fun c=>
 if(c != 0) then
  some (false,([]:LI),c)
 else
  (iter (yt p0) (0,([]:LI),0,([]:LI),([]:LI),([]:List (Int×Int×Int)),([]:LI))).bind fun b=>
  match b with
  | .inl a=>
   (y1k (a.1,a.2.1,a.2.2.1,a.2.2.2.1,a.2.2.2.2.1)).bind fun d=>
   some (((d.length:Int)==0),a.2.2.2.2.2,0)
  | .inr (e)=>
   some (false,([]:LI),e)
theorem y6g{p0:List AutT}{r:Bool×LI×Int}(hm:y2q p0=some r):
    F0 17 [.f rE60 p0] [] (.tp [.b r.1,.h 0,.i r.2.2]) [rwI r.2.1]:=by
  refine Fw.mk2 func17 ntmps17 R (fun C=>?_) R;refine .sr (.sa R (.sa R (.an R (.seq (.sv R (bS hm fun r1 a4 hm=> .c0 (y6T a4) cf48 R (.an R (.sv R (.bi R (.ns ?_))))))))));refine .cc hm R (fun hm=>?_) fun hm=>?_
  ·refine .sv R (.sa R (.sa R (.an R (.ret (.seqR (.nlg qI 3 3 0 R R ?_))))));cases hm;exact .rr [0] results17 (.tmp R (.tmp R (.tmp R .nil))) R I3 ⟨⟨_,R,I4⟩,trivial⟩
  ·refine .sn (.sr (.al 0 zz29 R (.ns (.seq (.sv R (.ln sl49 R (.mv R (.ns (.block (bS hm fun M P hm=>?_))))))))));refine .cutU (z:= .exit 0) (fun m=> .inl m=M) (fun (m:LI×Int×LI×LI×EdgL×LI)=>⟨[(6,.q 0 0),(3,.h 3)],[(0,.bx 29 [lH 1,lI m.2.1,lF qI m.2.2.1,lF qI m.2.2.2.1,lH 2]),(1,rwI m.1),(2,ROW qT 112 m.2.2.2.2.1),(3,rwI m.2.2.2.2.2)],4⟩) ?_ fun a3=>?_
   · rintro m rfl;dsimp only at hm;refine .blkE (.seqN (.sr (.lg [lH 1,lI m.2.1,lF qI m.2.2.1,lF qI m.2.2.2.1,lH 2] ag29 R (.B R) R (bS hm fun a5 Q hm=> .op (O.caY (r':= .h 4) [4] [(0,rwI a5)] (some 5) (y8U Q) cf71 R R Z R R ⟨⟨R,.hr R,.rf,.rf,.rf,.hr R,trivial⟩,trivial⟩ R ⟨.row flr3,trivial⟩ (fun _ _ _ _ h=>h) ⟨⟨_,R,I4⟩,trivial⟩ I3 R) R (.lh sl26 R (.bi R (.mv R (.sa R (.sa R (.an R (.ret ?_)))))))))));cases hm;exact .rr [3] results17 (.tmp R (.tmp R (.tmp R .nil))) R I3 ⟨⟨_,R,I4⟩,trivial⟩
   refine .cutU (z:= .ret) (fun F=> .inr (F)=M) (fun (F:Int)=>⟨[(4,.i F),(3,.o (lN)),(2,.b false)],[],0⟩) ?_ fun H=>?_
   · rintro F rfl;dsimp only at hm;refine .blkR (.seqR (.nlg qI 3 3 0 R R ?_));cases hm;exact .rr [0] results17 (.tmp R (.tmp R (.tmp R .nil))) R I3 ⟨⟨_,R,I4⟩,trivial⟩
   refine .nlg qI 3 3 0 R R (.cno 0 R (.c .rf (.c .rf (.c (.nf (r:=qI)) (.c (.nf (r:=qI)) .rf)))) R (.nlb qI 3 0 0 R R (.nlb qT 112 0 4 R R (.iter (fun (e:Int×LI×Int×LI×LI×EdgL×LI)=>⟨[(20,.i e.1),(19,.i p0.length),(18,.f rE60 p0),(6,.q 0 0),(3,.h 3),(0,.f rE60 p0)],[(0,.bx 29 [lH 1,lI e.2.2.1,lF qI e.2.2.2.1,lF qI e.2.2.2.2.1,lH 2]),(1,rwI e.2.1),(2,ROW qT 112 e.2.2.2.2.2.1),(3,rwI e.2.2.2.2.2.2)],4⟩) P [(1,2),(2,3),(3,1)] R ?_))));intro e K hm a2 y;refine .sr (.bi R (.ns (.seq ?_)));refine .cc hm R (fun hm=>?_) fun hm=> .xx ((a3 _ (y _ (oj hm))).s0 R);refine .sn (.seq (.block (.sv R (bS hm fun N Y hm=> .ix sl49 Y R (.lg (lx60 N) ag60 R (.E lv60) R (.al 4 zz60 R (.sa R (.st ag60.sz R (.nr (.lg (lx60 N) ag60 R (.B R) R (bS hm fun g S hm=> .cm (r':= .tp [.a [lH 5,lI g.1.2.1,lF qI g.1.2.2.1,lH 6,lH 7],.i g.2]) [5,6,7] [(0,rwI g.1.1),(1,rwI g.1.2.2.2.1),(2,ROW qT 112 g.1.2.2.2.2)] (some 8) (y6n S) cf74 R ⟨⟨_,R,I4⟩,⟨_,R,I4⟩,⟨_,R,I4⟩,trivial⟩ R (.mv R (.ex R (.ex R (.al 8 zz29 R (.st ag29.sz R (.an R ?_)))))))))))))))));refine .join6 (fun (D:Int) (t:LI) (x:Int) (u:LI) (v:LI) (w:List (Int×Int×Int))=>y3y p0 e D t x u v w=some K) (fun D t x u v w=>⟨[(10,.i D),(9,.q 0 0),(7,.i e.1),(20,.i e.1),(19,.i p0.length),(18,.f rE60 p0),(6,.q 4 0),(3,.h 7),(0,.f rE60 p0)],[(0,.bx 29 [lH 1,lI x,lF qI u,lH 2,lH 3]),(1,rwI t),(2,rwI v),(3,ROW qT 112 w),(4,.bx 29 [lH 5,lI e.2.2.1,lF qI e.2.2.2.1,lF qI e.2.2.2.2.1,lH 6]),(5,rwI e.2.1),(6,ROW qT 112 e.2.2.2.2.2.1),(7,rwI e.2.2.2.2.2.2)],8⟩) ?_ ?_
   · intro D t x u v w hm;refine .seq (.sv R (.bi R (.ns ?_)));refine .cc hm R (fun hm=> .sv R (.sa R (.sa R (.an R (.ret (.seqR (.blkR (.seqR (.seqR ((H _ (y _ (oj hm))).s0 R)))))))))) fun hm=>?_;refine .sn (.sv R (.mv R (.bi R (bS hm fun a7 a0 hm=> .op (O.sf sl49 Z R R a0 R) R (bS hm fun I T hm=> .cm (r':= .tp [.h 8,.i I.2]) [8] [(0,rwI I.1)] (some 9) (yad T) cf75 R ⟨⟨_,R,I4⟩,trivial⟩ R (.mv R (.ex R (.ex R (.sa R (.an R (.seq (.seq (.fz 1 [] [0] R R fR R R (.fz 2 [] [0] R R fR R R (.fz 3 [] [0] R R fR R R (.fz 5 [] [4] R R fR R R (.fz 8 [11,52,46,51] [] R R fR R R ?_)))))))))))))))));refine .sub (τ:=⟨[(11,.f qI I.1),(9,.q 0 0),(20,.i e.1),(19,.i p0.length),(18,.f rE60 p0),(6,.q 4 0),(3,.h 7),(0,.f rE60 p0)],[(0,.bx 29 [lF qI t,lI x,lF qI u,lF qI v,lF qT w]),(4,.bx 29 [lF qI e.2.1,lI e.2.2.1,lF qI e.2.2.2.1,lF qI e.2.2.2.2.1,lH 6]),(6,ROW qT 112 e.2.2.2.2.2.1),(7,rwI e.2.2.2.2.2.2)],9⟩) ?_ [] R;refine bS hm fun a6 U hm=>bS hm fun j V hm=>?_;refine .drd 12 [(9,[],[]),(9,[],[]),(9,[oF,oT],[]),(9,[],[]),(9,fA 1 (tT 3),[]),(9,tT 5,[]),(12,tT 6,[]),(12,tT 7,[]),(12,tT 7,[0]),(12,tT 8,[]),(12,tT 10,[])] [_,_,_,_,_,_,_,_,_,_,_] ⟨[(10,.i j.2),(9,.q 0 0),(20,.i e.1),(19,.i p0.length),(18,.f rE60 p0),(6,.q 4 0),(3,.h 7),(0,.f rE60 p0)],[(0,.bx 29 [lH 9,lI j.1.2.1,lH 10,lH 11,lF qT j.1.2.2.2.2]),(9,rwI j.1.1),(10,rwI j.1.2.2.1),(11,rwI j.1.2.2.2.1),(4,.bx 29 [lF qI e.2.1,lI e.2.2.1,lF qI e.2.2.2.1,lF qI e.2.2.2.2.1,lH 6]),(6,ROW qT 112 e.2.2.2.2.2.1),(7,rwI e.2.2.2.2.2.2)],12⟩ ⟨O.lg (l':=[lF qI t,lI x,lF qI u,lF qI v,lF qT w]) ag29 Z R (.B R) R R R,O.faP y5z Z R R,zB nag26 R,zM R,O.ca0 (r:= .f qI a6) (Fw.fz (y7T U)) cf77 R R Z R R R,O.ca (r':= .tp [.a [lH 9,lI j.1.2.1,lH 10,lH 11,lF qT j.1.2.2.2.2],.i j.2]) [9,10,11] [(0,rwI j.1.1),(1,rwI j.1.2.2.1),(2,rwI j.1.2.2.2.1)] (some 12) (y6k V) cf76 R R Z R R R R ⟨⟨_,R,I4⟩,⟨_,R,I4⟩,⟨_,R,I4⟩,trivial⟩ I3 R,zM R,O.ex Z R R R,O.ex Z R R R,O.st ag29.sz Z R R R R R,O.as Z R R,trivial⟩ (by kernel_rfl) R ?_;refine .seqN (.sv R (.bi R (.ns ?_)));refine .cc hm R (fun hm=> .sv R (.sa R (.sa R (.an R (.ret (.seqR (.blkR (.seqR (.seqR ((H _ (y _ (oj hm))).s0 R)))))))))) fun hm=>?_;refine .sn (.seq (.sr (.lg [lH 9,lI j.1.2.1,lH 10,lH 11,lF qT j.1.2.2.2.2] ag29 R (.B R) R (.fz 9 [67] [0] R R fR R R (.fz 10 [67] [0] R R fR R R (.fz 11 [67] [0] R R fR R R (bS hm fun p W hm=> .cm (r':= .tp [.a [lH 12,lI p.1.2.1,lF qI p.1.2.2.1,lF qI p.1.2.2.2.1,lH 13],.i p.2]) [12,13] [(0,rwI p.1.1),(1,ROW qT 112 p.1.2.2.2.2)] (some 14) (y5i W) cf13 R ⟨⟨_,R,I4⟩,⟨_,R,I4⟩,trivial⟩ R (.mv R (.ex R (.ex R (.st ag29.sz R (.an R (.sv R (.bi R (.ns ?_)))))))))))))));exact .cc hm R (fun hm=> .sv R (.sa R (.sa R (.an R (.ret (.seqR (.blkR (.seqR (.seqR ((H _ (y _ (oj hm))).s0 R)))))))))) fun hm=> .sn (.reg (.mv R (.fa y2G R (.lb nag3 R (.bf (r:=qI) ([p.1.2.1]:LI) bs26 R (.c .k .n) R (bS hm fun a8 a1 hm=> .ap 14 underlying26 el3 R R (.fr R) a1 (.sa R (.nil (.blkN (.seqN (.reg (.bi R (.mv R (.nil ((a2 _ (oj hm)).sub [(0,4),(1,12),(2,13),(3,14)] R)))))))))))))))
   · intro G;refine .sv R (.bi R (.mv R ?_));refine .cut 3 (fun (J:Bool)=>((decide (e.1>0))&&(g.2==0))=J) (fun J=>⟨[(35,.b J),(10,.i g.2),(9,.q 8 0),(7,.i e.1),(20,.i e.1),(19,.i p0.length),(18,.f rE60 p0),(6,.q 0 0),(3,.h 3),(0,.f rE60 p0)],[(8,.bx 29 [lH 5,lI g.1.2.1,lF qI g.1.2.2.1,lH 6,lH 7]),(5,rwI g.1.1),(6,rwI g.1.2.2.2.1),(7,ROW qT 112 g.1.2.2.2.2),(0,.bx 29 [lH 1,lI e.2.2.1,lF qI e.2.2.2.1,lF qI e.2.2.2.2.1,lH 2]),(1,rwI e.2.1),(2,ROW qT 112 e.2.2.2.2.2.1),(3,rwI e.2.2.2.2.2.2)],9⟩) ?_ ?_
     · rintro _ rfl;exact .ns (.cc hm R (fun hm=> .reg (.lg [lH 1,lI e.2.2.1,lF qI e.2.2.2.1,lF qI e.2.2.2.2.1,lH 2] ag29 R (.B R) R (.lg [lH 5,lI g.1.2.1,lF qI g.1.2.2.1,lH 6,lH 7] ag29 R (.B R) R (bS hm fun s X hm=> .op (O.caY (r':= .tp [.a [lH 9,lI s.1.2.1,lH 10,lH 11,lH 12],.h 13,.i s.2.2]) [9,10,11,12,13] [(0,rwI s.1.1),(1,rwI s.1.2.2.1),(2,rwI s.1.2.2.2.1),(3,ROW qT 112 s.1.2.2.2.2),(4,ROW rE70 70 s.2.1)] (some 14) (y6S X) cf14 R R Z R R ⟨⟨R,.hr R,.rf,.rf,.rf,.hr R,trivial⟩,⟨R,.hr R,.rf,.rf,.hr R,.hr R,trivial⟩,trivial⟩ R ⟨.row flr3,.row flr3,.row flr3,.row yek,.row flr70,trivial⟩ (fun _ _ _ _ h=>h) ⟨⟨_,R,I4⟩,⟨_,R,I4⟩,⟨_,R,I4⟩,⟨_,R,I4⟩,⟨_,R,I4⟩,trivial⟩ I3 R) R (.mv R (.ex R (.ex R (.ex R (.st ag29.sz R (.sa R (.nil (.fz 10 [] [8] R R fR R R ((G _ _ _ _ _ _ hm).sub [(0,8),(1,9),(2,11),(3,12),(4,0),(5,1),(6,2),(7,3)] R))))))))))))) fun hm=> .skip ((G _ _ _ _ _ _ hm).sub [(0,8),(1,5),(2,6),(3,7),(4,0),(5,1),(6,2),(7,3)] R))
     · intro L;rcases yEt (decide (e.1>0)) with hc|hc
       · refine .know (d:=32) R hc ?_;exact .mg R (.bg R (.pT R ((L (g.2==0) (andT hc).symm).s0 R)))
       · refine .know (d:=32) R hc ?_;exact .s2 R R (.pF R ((L false (andF hc).symm).s0 R))
def y5Y :Option Bool:=
 (y1Y (([0]:LI),3,([0]:LI),([2]:LI),([(0,(-1),1),(1,0,2)]:List (Int×Int×Int)))).bind fun e=>
 (yW (([0]:LI),3,([0]:LI),([2]:LI),([(0,(-1),1),(1,0,2)]:List (Int×Int×Int)))).bind fun a=>
 (y3w ([(([0]:LI),2,([0]:LI),([(0,0,1)]:List (Int×Int×Int))),(([0]:LI),2,([1]:LI),([(0,0,1)]:List (Int×Int×Int)))]:List AutT)).bind fun b=>
 (y2q ([(([0]:LI),2,([0]:LI),([(0,0,1)]:List (Int×Int×Int))),(([0]:LI),2,([1]:LI),([(0,0,1)]:List (Int×Int×Int)))]:List AutT)).bind fun c=>
 (if ((((e.2==0)&&(a.2==0))&&(b.2.2==0))&&(c.2.2==0)) then
  (yF e.1 ([0,0,1]:LI)).bind fun f=>
  some f
 else
  some false).bind fun d=>
 some ((((((d&&(a.1.2.1==2))&&((a.1.2.2.2.2.length:Int)==1))&&b.2.1)&&((b.1.length:Int)==0))&&(!c.1))&&((c.2.1.length:Int)==2))
theorem y8V{r:Bool}(hm:y5Y=some r):
  F0 11 [] [] (.b r) []:=by
 refine Fw.mk2 func11 ntmps11 R (fun C=>?_) R;refine .sr (.an R (.sr (.bf (r:=qI) ([0]:LI) bs26 R (.c .k .n) R (.bf (r:=qI) ([0]:LI) bs26 R (.c .k .n) R (.bf (r:=qI) ([2]:LI) bs26 R (.c .k .n) R (.bu [lI 0,lI (-1),lI 1] pl112 R (.bu [lI 1,lI 0,lI 2] pl112 R (.op (O.bsF (r:=qT) (zs:=([(0,(-1),1),(1,0,2)]:List (Int×Int×Int))) bs27 R R Z R R R (.c (.p .k (.p .k .k)) (.c (.p .k (.p .k .k)) .n)) R R R) R (.bu [lF qI ([0]:LI),lI 3,lF qI ([0]:LI),lF qI ([2]:LI),lF qT ([(0,(-1),1),(1,0,2)]:List (Int×Int×Int))] pl29 R (.al 0 zz29 R (.st ag29.sz R (.nr (.lg [lF qI ([0]:LI),lI 3,lF qI ([0]:LI),lF qI ([2]:LI),lF qT ([(0,(-1),1),(1,0,2)]:List (Int×Int×Int))] ag29 R (.B R) R (bS hm fun o S hm=> .c0 (y6P S) cf24 R (.mv R (.ex R (.ex R (.sa R (.an R (.sr (.lg [lF qI ([0]:LI),lI 3,lF qI ([0]:LI),lF qI ([2]:LI),lF qT ([(0,(-1),1),(1,0,2)]:List (Int×Int×Int))] ag29 R (.B R) R (bS hm fun e T hm=> .cm (r':= .tp [.a [lH 1,lI e.1.2.1,lF qI e.1.2.2.1,lF qI e.1.2.2.2.1,lH 2],.i e.2]) [1,2] [(0,rwI e.1.1),(1,ROW qT 112 e.1.2.2.2.2)] (some 3) (y5i T) cf13 R ⟨⟨_,R,I4⟩,⟨_,R,I4⟩,trivial⟩ R (.mv R (.ex R (.ex R (.al 3 zz29 R (.st ag29.sz R ?_)))))))))))))))))))))))))));refine .an R (.sr (.bf (r:=qI) ([0]:LI) bs26 R (.c .k .n) R (.bf (r:=qI) ([0]:LI) bs26 R (.c .k .n) R (.bu [lI 0,lI 0,lI 1] pl112 R (.bf (r:=qT) ([(0,0,1)]:List (Int×Int×Int)) bs27 R (.c (.p .k (.p .k .k)) .n) R (.bu [lF qI ([0]:LI),lI 2,lF qI ([0]:LI),lF qT ([(0,0,1)]:List (Int×Int×Int))] pl60 R (.bf (r:=qI) ([0]:LI) bs26 R (.c .k .n) R (.bf (r:=qI) ([1]:LI) bs26 R (.c .k .n) R (.bu [lI 0,lI 0,lI 1] pl112 R (.bf (r:=qT) ([(0,0,1)]:List (Int×Int×Int)) bs27 R (.c (.p .k (.p .k .k)) .n) R (.bu [lF qI ([0]:LI),lI 2,lF qI ([1]:LI),lF qT ([(0,0,1)]:List (Int×Int×Int))] pl60 R (.op (O.bsF (r:=rE60) (zs:=([(([0]:LI),2,([0]:LI),([(0,0,1)]:List (Int×Int×Int))),(([0]:LI),2,([1]:LI),([(0,0,1)]:List (Int×Int×Int)))]:List AutT)) bs49 R R Z R R R (.c (.p .l (.p .k (.p .l .l))) (.c (.p .l (.p .k (.p .l .l))) .n)) R R R) R (.an R (.sv R (bS hm fun g U hm=> .c0 (y6Q U) cf19 R (.mv R (.ex R (.ex R (.ex R (.sa R (.sa R (.an R (.sv R (bS hm fun j V hm=> .cm (r':= .tp [.b j.1,.h 4,.i j.2.2]) [4] [(0,rwI j.2.1)] (some 5) (y6g V) cf17 R ⟨⟨_,R,I4⟩,trivial⟩ R (.mv R (.ex R ?_))))))))))))))))))))))))));refine .ex R (.ex R (.sa R (.sa R (.an R (.sv R (.bi R (.mv R ?_)))))));refine .cut 3 (fun (L:Bool)=>((o.2==0)&&(e.2==0))=L) (fun L=>⟨[(58,.b L),(12,.i j.2.2),(11,.h 4),(10,.b j.1),(9,.i g.2.2),(8,.b g.2.1),(7,.f qI g.1),(4,.q 3 0),(2,.f qI o.1)],[(4,rwI j.2.1),(3,.bx 29 [lH 1,lI e.1.2.1,lF qI e.1.2.2.1,lF qI e.1.2.2.2.1,lH 2]),(1,rwI e.1.1),(2,ROW qT 112 e.1.2.2.2.2)],5⟩) ?_ ?_
 ·rintro _ rfl;refine .mv R ?_;refine .cut 3 (fun (M:Bool)=>(((o.2==0)&&(e.2==0))&&(g.2.2==0))=M) (fun M=>⟨[(62,.b M),(12,.i j.2.2),(11,.h 4),(10,.b j.1),(8,.b g.2.1),(7,.f qI g.1),(4,.q 3 0),(2,.f qI o.1)],[(4,rwI j.2.1),(3,.bx 29 [lH 1,lI e.1.2.1,lF qI e.1.2.2.1,lF qI e.1.2.2.2.1,lH 2]),(1,rwI e.1.1),(2,ROW qT 112 e.1.2.2.2.2)],5⟩) ?_ ?_
  ·rintro _ rfl;refine .mv R ?_;refine .cut 3 (fun (N:Bool)=>((((o.2==0)&&(e.2==0))&&(g.2.2==0))&&(j.2.2==0))=N) (fun N=>⟨[(66,.b N),(11,.h 4),(10,.b j.1),(8,.b g.2.1),(7,.f qI g.1),(4,.q 3 0),(2,.f qI o.1)],[(4,rwI j.2.1),(3,.bx 29 [lH 1,lI e.1.2.1,lF qI e.1.2.2.1,lF qI e.1.2.2.2.1,lH 2]),(1,rwI e.1.1),(2,ROW qT 112 e.1.2.2.2.2)],5⟩) ?_ ?_
   ·rintro _ rfl;refine .mv R (bS hm fun m eb11 hm=>?_);refine .cut 4 (fun (s:Bool)=>m=s) (fun s=>⟨[(71,.b s),(11,.h 4),(10,.b j.1),(8,.b g.2.1),(7,.f qI g.1),(4,.q 3 0)],[(4,rwI j.2.1),(3,.bx 29 [lH 1,lI e.1.2.1,lF qI e.1.2.2.1,lF qI e.1.2.2.2.1,lH 2]),(1,rwI e.1.1),(2,ROW qT 112 e.1.2.2.2.2)],5⟩) ?_ ?_
    ·rintro _ rfl;refine .mv R ?_;refine .cut 4 (fun (t:Bool)=>(m&&(e.1.2.1==2))=t) (fun t=>⟨[(76,.b t),(11,.h 4),(10,.b j.1),(8,.b g.2.1),(7,.f qI g.1),(4,.q 3 0)],[(4,rwI j.2.1),(3,.bx 29 [lH 1,lI e.1.2.1,lF qI e.1.2.2.1,lF qI e.1.2.2.2.1,lH 2]),(1,rwI e.1.1),(2,ROW qT 112 e.1.2.2.2.2)],5⟩) ?_ ?_
     ·rintro _ rfl;refine .mv R ?_;refine .cut 5 (fun (u:Bool)=>((m&&(e.1.2.1==2))&&((e.1.2.2.2.2.length:Int)==1))=u) (fun u=>⟨[(82,.b u),(11,.h 4),(10,.b j.1),(8,.b g.2.1),(7,.f qI g.1)],[(4,rwI j.2.1)],5⟩) ?_ ?_
      ·rintro _ rfl;refine .mv R ?_;refine .cut 2 (fun (v:Bool)=>(((m&&(e.1.2.1==2))&&((e.1.2.2.2.2.length:Int)==1))&&g.2.1)=v) (fun v=>⟨[(85,.b v),(11,.h 4),(10,.b j.1),(7,.f qI g.1)],[(4,rwI j.2.1)],5⟩) ?_ ?_
       ·rintro _ rfl;refine .mv R ?_;refine .cut 4 (fun (w:Bool)=>((((m&&(e.1.2.1==2))&&((e.1.2.2.2.2.length:Int)==1))&&g.2.1)&&((g.1.length:Int)==0))=w) (fun w=>⟨[(90,.b w),(11,.h 4),(10,.b j.1)],[(4,rwI j.2.1)],5⟩) ?_ ?_
        ·rintro _ rfl;refine .mv R ?_;refine .cut 3 (fun (x:Bool)=>(((((m&&(e.1.2.1==2))&&((e.1.2.2.2.2.length:Int)==1))&&g.2.1)&&((g.1.length:Int)==0))&&(!j.1))=x) (fun x=>⟨[(94,.b x),(11,.h 4)],[(4,rwI j.2.1)],5⟩) ?_ ?_
         ·rintro _ rfl;refine .mv R ?_;refine .cut 4 (fun (y:Bool)=>((((((m&&(e.1.2.1==2))&&((e.1.2.2.2.2.length:Int)==1))&&g.2.1)&&((g.1.length:Int)==0))&&(!j.1))&&((j.2.1.length:Int)==2))=y) (fun y=>⟨[(99,.b y)],[],5⟩) ?_ ?_
          ·rintro _ rfl;refine .an R (.ret ?_);cases hm;exact .r0 results11 (.tmp R .nil) R R
          ·intro J;rcases yEt (((((m&&(e.1.2.1==2))&&((e.1.2.2.2.2.length:Int)==1))&&g.2.1)&&((g.1.length:Int)==0))&&(!j.1)) with hc|hc
           ·refine .know (d:=95) R hc ?_;exact .mg R (.op (O.lenH sl26 (Gu.mk R R) R R R) R (.bg R (.pT R ((J ((j.2.1.length:Int)==2) (andT hc).symm).s0 R))))
           ·refine .know (d:=95) R hc ?_;exact .s2 R R (.sk R (.pF R ((J false (andF hc).symm).s0 R)))
         ·intro I;rcases yEt ((((m&&(e.1.2.1==2))&&((e.1.2.2.2.2.length:Int)==1))&&g.2.1)&&((g.1.length:Int)==0)) with hc|hc
          ·refine .know (d:=91) R hc ?_;exact .mg R (.op (O.not (Gu.mk R R) R R) R (.pT R ((I (!j.1) (andT hc).symm).s0 R)))
          ·refine .know (d:=91) R hc ?_;exact .s2 R R (.pF R ((I false (andF hc).symm).s0 R))
        ·intro H;rcases yEt (((m&&(e.1.2.1==2))&&((e.1.2.2.2.2.length:Int)==1))&&g.2.1) with hc|hc
         ·refine .know (d:=86) R hc ?_;exact .mg R (.op (O.len sl26 (Gu.mk R R) R R) R (.bg R (.pT R ((H ((g.1.length:Int)==0) (andT hc).symm).s0 R))))
         ·refine .know (d:=86) R hc ?_;exact .s2 R R (.sk R (.pF R ((H false (andF hc).symm).s0 R)))
       ·intro G;rcases yEt ((m&&(e.1.2.1==2))&&((e.1.2.2.2.2.length:Int)==1)) with hc|hc
        ·refine .know (d:=83) R hc ?_;exact .mg R (.pT R ((G g.2.1 (andT hc).symm).s0 R))
        ·refine .know (d:=83) R hc ?_;exact .sk R (.pF R ((G false (andF hc).symm).s0 R))
      ·intro F;rcases yEt (m&&(e.1.2.1==2)) with hc|hc
       ·refine .know (d:=77) R hc ?_;exact .fag y2f R (.lbg nag27 R (.op (O.lenH sl27 (Gu.mk R R) R R R) R (.bg R (.pT R ((F ((e.1.2.2.2.2.length:Int)==1) (andT hc).symm).s0 R)))))
       ·refine .know (d:=77) R hc ?_;exact .s2 R R (.s2 R R (.pF R ((F false (andF hc).symm).s0 R)))
     ·intro E;rcases yEt m with hc|hc
      ·refine .know (d:=72) R hc ?_;exact .fag y2G R (.lbg nag3 R (.bg R (.pT R ((E (e.1.2.1==2) (andT hc).symm).s0 R))))
      ·refine .know (d:=72) R hc ?_;exact .s2 R R (.sk R (.pF R ((E false (andF hc).symm).s0 R)))
    ·intro D;rcases ifS eb11 with ⟨hc,hm⟩|⟨hc,hm⟩
     ·refine .know (d:=67) R hc ?_;exact .mg R (.op (O.bsF (r:=qI) (zs:=([0,0,1]:LI)) bs26 R R (Gu.mk R R) R R R (.c .k (.c .k (.c .k .n))) R R R) R (bS hm fun W K hm=> .op (O.ca0 (y4Z K) cf21 R R (Gu.mk R R) R R R) R (.pT R ((D W (oj hm)).s0 R))))
     ·refine .know (d:=67) R hc ?_;exact .s2 R R (.sk R (.pF R ((D false (oj hm)).s0 R)))
   ·intro z;rcases yEt (((o.2==0)&&(e.2==0))&&(g.2.2==0)) with hc|hc
    ·refine .know (d:=63) R hc ?_;exact .mg R (.bg R (.pT R ((z (j.2.2==0) (andT hc).symm).s0 R)))
    ·refine .know (d:=63) R hc ?_;exact .s2 R R (.pF R ((z false (andF hc).symm).s0 R))
  ·intro Q;rcases yEt ((o.2==0)&&(e.2==0)) with hc|hc
   ·refine .know (d:=59) R hc ?_;exact .mg R (.bg R (.pT R ((Q (g.2.2==0) (andT hc).symm).s0 R)))
   ·refine .know (d:=59) R hc ?_;exact .s2 R R (.pF R ((Q false (andF hc).symm).s0 R))
 ·intro P;rcases yEt (o.2==0) with hc|hc
  ·refine .know (d:=55) R hc ?_;exact .mg R (.bg R (.pT R ((P (e.2==0) (andT hc).symm).s0 R)))
  ·refine .know (d:=55) R hc ?_;exact .s2 R R (.pF R ((P false (andF hc).symm).s0 R))
def y6Z(p0:LI×Int×LI×LI×EdgL):Option (LI×Int):=
 (yE p0).bind fun a=>
 if(a != 0) then
  some (([]:LI),a)
 else
  (y1k p0).bind fun b=>
  some (b,0)
def y1c(b:Int×LI)(a:LI):Option ((Int×LI)⊕LI):=
 some (.inl (W (b.1+1),a))
def y2c(p0:Int)(a:Int×LI):Option ((Int×LI)⊕LI):=
 if decide (a.1<5) then
  (ng a.1).bind fun _=>
  if((IntKind.u8.wrap (((BitVec.ofInt 8 (p0.fdiv (2 ^ (min a.1.toNat 8))) &&& BitVec.ofInt 8 1).toNat:Int)))==1) then
   (app a.2 ([a.1]:LI)).bind fun b=>
   y1c a b
  else
   y1c a a.2
 else
  some (.inr a.2)
def y3h(p0:Int):Option LI:=
 (iter (y2c p0) (0,([]:LI))).bind fun a=>
 some a
theorem y7B{p0:Int}{r:LI}(hm:y3h p0=some r):
  F0 73 [.o (lV (.int .u8 p0))] [] (.h 0) [rwI r]:=by
 refine Fw.mk2 func73 ntmps73 R (fun C=>?_) R;refine .sr (.an R (.sr (.an R (.seq (.sr (.an R (.block (bS hm fun f l hm=>?_))))))));refine .cut1 (z:= .exit 0) f (fun (f:LI)=>⟨[(3,.h 0)],[(0,rwI f)],1⟩) ?_ fun j=>?_
 ·skip
  refine .blkE (.seqN (.sv R (.an R (.ret ?_))));cases hm;exact .rr [0] results73 (.tmp R .nil) R I3 ⟨⟨_,R,I4⟩,trivial⟩
 refine .nlg qI 3 3 0 R R (.iter (fun (a:Int×LI)=>⟨[(4,.i a.1),(3,.h 0),(0,.o (lV (.int .u8 p0)))],[(0,rwI a.2)],1⟩) l [] R ?_);intro a g hm p m;refine .seq (.sv R (.bi R (.ns ?_)));refine .cc hm R (fun hm=>?_) fun hm=> .xx ((j _ (m _ (oj hm))).s0 R);refine .sn ?_;refine .join1 (fun (b:LI)=>y1c a b=some g) (fun b=>⟨[(3,.h 0),(4,.i a.1),(0,.o (lV (.int .u8 p0)))],[(0,rwI b)],1⟩) ?_ ?_
 ·intro b hm;exact .reg (.mv R (.bi R (.sa R (.nil ((p _ (oj hm)).s0 R)))))
 ·intro d;refine .block (.sv R (.mv R (bS hm fun _ q hm=> .op (O.shr Z R R (yfk q) R) R (.bi R (.bi R (.ns ?_))))));exact .cc hm R (fun hm=> .reg (.mv R (.mv R (.bf (r:=qI) ([a.1]:LI) bs26 R (.c .k .n) R (bS hm fun s e hm=> .ap 1 underlying26 el3 R R (.fr R) e (.sa R (.nil (.blkN ((d _ hm).sub [(0,1)] R))))))))) fun hm=> .skip (.blkN ((d _ hm).s0 R))
def y2a(p0:LI):Option AutT:=
 (app ([]:LI) p0).bind fun a=>
 some (a,0,([]:LI),([]:List (Int×Int×Int)))
theorem y5v{p0:LI}{r:AutT}(hm:y2a p0=some r):
  F0 145 [.f qI p0] [] (.g [lH 0,lI r.2.1,lH 1,lH 2]) [rwI r.1,rwI r.2.2.1,ROW qT 112 r.2.2.2]:=by
 refine Fw.mk2 func145 ntmps145 R (fun C=>?_) R;refine .sr (.al 0 zz60 R (.nr (.op (O.b0O (r:=qI) 1 R bs26 R Z R) R (.mv R (bS hm fun b a hm=> .ap 2 underlying26 el3 R R (.fr R) a (.bu [lH 2,lI 0,lN,lN] pl60 R (.st ag60.sz R (.ns (.ret (.nlb qI 3 0 2 R R (.nlb qT 112 0 3 R R ?_)))))))))));cases hm;exact .rr [2,3,4] results145 (.cell R R ag60 R .nil) R I3 ⟨⟨_,R,I4⟩,⟨_,R,I4⟩,⟨_,R,I4⟩,trivial⟩
def y4k(p0:AutT)(p1:Int)(p2:Int)(a:Int):Option (Int⊕(Unit⊕Int)):=
 if decide (a<(p0.2.2.2.length:Int)) then
  (idx p0.2.2.2 a).bind fun c=>
  (if (c.1==p1) then
   (idx p0.2.2.2 a).bind fun e=>
   some (e.2.1==p2)
  else
   some false).bind fun b=>
  if b then
   (idx p0.2.2.2 a).bind fun d=>
   some (.inr (.inr (d.2.2)))
  else
   some (.inl (W (a+1)))
 else
  some (.inr (.inl ()))
def y3X(p0:AutT)(p1:Int)(p2:Int):Option Int:=
 (iter (y4k p0 p1 p2) 0).bind fun b=>
 match b with
 | .inl c=>
  some (-1)
 | .inr (a)=>
  some a
theorem y7a{p1:Int}{p2:Int}{r:Int}(hm:y3X p0 p1 p2=some r):
  F0 231 [.a (lx60 p0),.i p1,.i p2] [] (.i r) []:=by
 refine Fw.mk2 func231 ntmps231 R (fun C=>?_) R;refine .sr (.bo 0 R (.an R (.seq (.sr (.an R (.block (bS hm fun u s hm=>?_)))))));refine .cutU (z:= .exit 0) (fun f=> .inl f=u) (fun (f:Unit)=>⟨[],[],0⟩) ?_ fun n=>?_
 ·rintro f rfl;dsimp only at hm;refine .blkE (.seqN (.sr (.an R (.ret ?_))));cases hm;exact .r0 results231 (.tmp R .nil) R R
 refine .cutU (z:= .ret) (fun c=> .inr (c)=u) (fun (c:Int)=>⟨[(6,.i c)],[],0⟩) ?_ fun o=>?_
 ·rintro c rfl;dsimp only at hm;refine .blkR (.seqR ?_);cases hm;exact .r0 results231 (.tmp R .nil) R R
 refine .iter (fun (e:Int)=>⟨[(7,.i e),(3,.q 0 0),(1,.i p1),(2,.i p2)],[(0,.bx 60 (lx60 p0))],1⟩) s [] R ?_;intro e w hm t j;refine .seq (.sv R (.fa y5A R (.lb nag27 R (.ln sl27 R (.bi R (.ns ?_))))));refine .cc hm R (fun hm=>?_) fun hm=> .xx ((n _ (j _ (oj hm))).s0 R);refine .sn (.seq (.block (.sr (.fa y5A R (.lb nag27 R (.mv R (bS hm fun x k hm=> .ix sl27 k R (.fe yS R (.le nag3 lv112 R (.mv R (.bi R (.mv R (bS hm fun p eb16 hm=>?_)))))))))))));refine .cut 9 (fun (g:Bool)=>p=g) (fun g=>⟨[(32,.b g),(7,.i e),(3,.q 0 0),(1,.i p1),(2,.i p2)],[(0,.bx 60 (lx60 p0))],1⟩) ?_ ?_
 ·rintro _ rfl;exact .ns (.cc hm R (fun hm=> .sr (.fa y5A R (.lb nag27 R (.mv R (bS hm fun y l hm=> .ix sl27 l R (.fe y1W R (.le nag3 lv112 R (.an R (.ret (.blkR (.seqR (.seqR ((o _ (j _ (oj hm))).s0 R))))))))))))) fun hm=> .skip (.blkN (.seqN (.reg (.mv R (.bi R (.sa R (.nil ((t _ (oj hm)).s0 R)))))))))
 ·intro h;rcases ifS eb16 with ⟨hc,hm⟩|⟨hc,hm⟩
  ·refine .know (d:=23) R hc ?_;exact .fag y5A R (.lbg nag27 R (.mg R (bS hm fun v m hm=> .op (O.ix sl27 (Gu.mk R R) R R m R) R (.op (O.faE y1V (Gu.mk R R) R R) R (.leg nag3 lv112 R (.mg R (.bg R (.pT R ((h (v.2.1==p2) (oj hm)).s0 R)))))))))
  ·refine .know (d:=23) R hc ?_;exact .s2 R R (.s2 R R (.s2 R R (.s2 R R (.pF R ((h false (oj hm)).s0 R)))))
def y4F(p0:LI)(p1:Int)(a:Int):Option (Int⊕(Unit⊕Unit)):=
 if decide (a<(p0.length:Int)) then
  (idx p0 a).bind fun b=>
  if(b==p1) then
   some (.inr (.inr (())))
  else
   some (.inl (W (a+1)))
 else
  some (.inr (.inl ()))
def y4r(p0:LI)(p1:Int):Option Bool:=
 (iter (y4F p0 p1) 0).bind fun a=>
 match a with
 | .inl b=>
  some false
 | .inr (c)=>
  some true
theorem y7k{p0:LI}{p1:Int}{r:Bool}(hm:y4r p0 p1=some r):
  F0 230 [.f qI p0,.i p1] [] (.b r) []:=by
 refine Fw.mk2 func230 ntmps230 R (fun C=>?_) R;refine .sr (.an R (.seq (.sr (.an R (.block (bS hm fun k g hm=>?_))))));refine .cutU (z:= .exit 0) (fun d=> .inl d=k) (fun (d:Unit)=>⟨[],[],0⟩) ?_ fun K6=>?_
 ·rintro d rfl;dsimp only at hm;refine .blkE (.seqN (.sr (.an R (.ret ?_))));cases hm;exact .r0 results230 (.tmp R .nil) R R
 refine .cutU (z:= .ret) (fun e=> .inr (e)=k) (fun (e:Unit)=>⟨[(4,.b true)],[],0⟩) ?_ fun K8=>?_
 ·rintro e rfl;dsimp only at hm;refine .blkR (.seqR ?_);cases hm;exact .r0 results230 (.tmp R .nil) R R
 refine .iter (fun (c:Int)=>⟨[(5,.i c),(0,.f qI p0),(1,.i p1)],[],0⟩) g [] R ?_;intro c l hm j a;refine .seq (.sv R (.mv R (.ln sl26 R (.bi R (.ns ?_)))));refine .cc hm R (fun hm=>?_) fun hm=> .xx ((K6 _ (a _ (oj hm))).s0 R);refine .sn (.seq (.block (.sv R (.mv R (bS hm fun m h hm=> .ix sl26 h R (.le nag3 lv3 R (.mv R (.bi R (.ns ?_)))))))));exact .cc hm R (fun hm=> .sr (.an R (.ret (.blkR (.seqR (.seqR ((K8 _ (a _ (oj hm))).s0 R))))))) fun hm=> .skip (.blkN (.seqN (.reg (.mv R (.bi R (.sa R (.nil ((j _ (oj hm)).s0 R))))))))
def y2r(a:Int×LI)(b:LI):Option ((Int×LI)⊕LI):=
 some (.inl (W (a.1+1),b))
def y2s(p0:AutT)(c:Int×LI)(a:Int×LI):Option ((Int×LI)⊕LI):=
 if decide (a.1<(p0.1.length:Int)) then
  (idx a.2 c.1).bind fun f=>
  (idx p0.1 a.1).bind fun g=>
  (y3X p0 f g).bind fun b=>
  (if decide (b≥0) then
   (y4r a.2 b).bind fun e=>
   some (!e)
  else
   some false).bind fun d=>
  if d then
   (app a.2 ([b]:LI)).bind fun h=>
   y2r a h
  else
   y2r a a.2
 else
  some (.inr a.2)
def y2t(p0:AutT)(a:Int×LI):Option ((Int×LI)⊕LI):=
 if decide (a.1<(a.2.length:Int)) then
  (iter (y2s p0 a) (0,a.2)).bind fun b=>
  some (.inl (W (a.1+1),b))
 else
  some (.inr a.2)
def y3Y(p0:AutT)(b:LI):Option LI:=
 (iter (y2t p0) (0,b)).bind fun a=>
 some a
def y4P(p0:AutT):Option LI:=
 if decide (p0.2.1>0) then
  (app ([]:LI) ([0]:LI)).bind fun a=>
  y3Y p0 a
 else
  y3Y p0 ([]:LI)
theorem y8W{r:LI}(hm:y4P p0=some r):
  F0 229 [.a (lx60 p0)] [] (.h 0) [rwI r]:=by
 refine Fw.mk2 func229 ntmps229 R (fun C=>?_) R;refine .sr (.bo 0 R (.an R (.sr (.an R ?_))));refine .join1 (fun (u:LI)=>y3Y p0 u=some r) (fun u=>⟨[(3,.h 0),(1,.q 1 0)],[(0,rwI u),(1,.bx 60 (lx60 p0))],2⟩) ?_ ?_
 ·intro u hm;refine .seq (.sr (.an R (.block (bS hm fun o y hm=>?_))));refine .cut1 (z:= .exit 0) o (fun (o:LI)=>⟨[(3,.h 0)],[(0,rwI o)],1⟩) ?_ fun P=>?_
  ·skip
   refine .blkE (.seqN (.sv R (.an R (.ret ?_))));cases hm;exact .rr [0] results229 (.tmp R .nil) R I3 ⟨⟨_,R,I4⟩,trivial⟩
  refine .iter (fun (f:Int×LI)=>⟨[(4,.i f.1),(3,.h 0),(1,.q 1 0)],[(0,rwI f.2),(1,.bx 60 (lx60 p0))],2⟩) y [] R ?_;intro f U hm M K;refine .seq (.sv R (.mv R (.lh sl26 R (.bi R (.ns ?_)))));refine .cc hm R (fun hm=>?_) fun hm=> .xx ((P _ (K _ (oj hm))).s0 R);refine .sn (.seq (.block (.sr (.an R (.block (bS hm fun p D hm=>?_))))));refine .cut1 (z:= .exit 2) p (fun (p:LI)=>⟨[(4,.i f.1),(3,.h 0),(1,.q 1 0)],[(0,rwI p),(1,.bx 60 (lx60 p0))],2⟩) ?_ fun Q=>?_
  ·skip
   exact .blkE (.blkN (.seqN (.reg (.mv R (.bi R (.sa R (.nil ((M _ (oj hm)).s0 R))))))))
  refine .iter (fun (e:Int×LI)=>⟨[(5,.i e.1),(4,.i f.1),(3,.h 0),(1,.q 1 0)],[(0,rwI e.2),(1,.bx 60 (lx60 p0))],2⟩) D [] R ?_;intro e v hm N L;refine .seq (.sv R (.fa y5U R (.lb nag26 R (.ln sl26 R (.bi R (.ns ?_))))));refine .cc hm R (fun hm=>?_) fun hm=> .xx ((Q _ (L _ (oj hm))).s0 R);refine .sn ?_;refine .join1 (fun (g:LI)=>y2r e g=some v) (fun g=>⟨[(3,.h 0),(5,.i e.1),(4,.i f.1),(1,.q 1 0)],[(0,rwI g),(1,.bx 60 (lx60 p0))],2⟩) ?_ ?_
  ·intro g hm;exact .reg (.mv R (.bi R (.sa R (.nil ((N _ (oj hm)).s0 R)))))
  ·intro j;refine .block (.seq ?_);refine .sub (τ:=⟨[(5,.i e.1),(4,.i f.1),(3,.h 0),(1,.q 1 0)],[(0,rwI e.2),(1,.bx 60 (lx60 p0))],2⟩) ?_ [] R;refine bS hm fun V m hm=>bS hm fun W H hm=>bS hm fun s F hm=>?_;refine .drw [(2,[]),(2,[]),(2,[]),(2,[oF,oT,oT]),(2,fA 1 (tT 3)),(2,[]),(2,[oF,oF,oF,oF,oF,oT]),(2,[]),(2,fA 5 (tT 3)),(2,fA 5 (tT 4)),(2,tT 10),(2,tT 11)] [_,_,_,_,_,_,_,_,_,_,_,_] ⟨[(6,.i s),(5,.i e.1),(4,.i f.1),(3,.h 0),(1,.q 1 0)],[(0,rwI e.2),(1,.bx 60 (lx60 p0))],2⟩ ⟨O.lg (l':=(lx60 p0)) ag60 Z R (.B R) R R R,zM R,zM R,O.ir sl26 Z R R R m R,O.ld nag3 Z R (.R R m lv3) R R,O.faP y5U Z R R,zB nag26 R,zM R,O.ix sl26 Z R R H R,O.ld nag3 Z R (.E lv3) R R,O.ca0 (y7a F) cf231 R R Z R R R,O.as Z R R,trivial⟩ (by kernel_rfl) R ?_;refine .seqN (.sv R (.bi R (.mv R (bS hm fun S eb59 hm=>?_))));refine .cut 5 (fun (t:Bool)=>S=t) (fun t=>⟨[(44,.b t),(6,.i s),(5,.i e.1),(4,.i f.1),(3,.h 0),(1,.q 1 0)],[(0,rwI e.2),(1,.bx 60 (lx60 p0))],2⟩) ?_ ?_
   ·rintro _ rfl;exact .ns (.cc hm R (fun hm=> .reg (.mv R (.mv R (.bf (r:=qI) ([s]:LI) bs26 R (.c .k .n) R (bS hm fun X I hm=> .ap 2 underlying26 el3 R R (.fr R) I (.sa R (.nil (.blkN ((j _ hm).sub [(0,2)] R))))))))) fun hm=> .skip (.blkN ((j _ hm).s0 R)))
   ·intro w;rcases ifS eb59 with ⟨hc,hm⟩|⟨hc,hm⟩
    ·refine .know (d:=39) R hc ?_;exact .mg R (.mg R (bS hm fun T G hm=> .op (O.caZ (y7k G) cf230 R R (Gu.mk R R) R ⟨⟨R,.hr R,trivial⟩,⟨R,LnL.rf⟩,trivial⟩ (fun _ _ _ _ _ h=>h) R) R (.op (O.not (Gu.mk R R) R R) R (.pT R ((w (!T) (oj hm)).s0 R)))))
    ·refine .know (d:=39) R hc ?_;exact .s2 R R (.s2 R R (.pF R ((w false (oj hm)).s0 R)))
 ·intro x;refine .sr (.fa y4o R (.lb nag3 R (.bi R (.ns ?_))));exact .cc hm R (fun hm=> .reg (.mv R (.bf (r:=qI) ([0]:LI) bs26 R (.c .k .n) R (bS hm fun Y J hm=> .op (O.apN (r:=qI) 1 underlying26 el3 R R Z R (.fr R) J R) R (.sa R (.nil ((x _ hm).sub [(0,1),(1,0)] R))))))) fun hm=> .skip (.nlg qI 3 3 0 R R ((x _ hm).sub [(0,1),(1,0)] R))
def y3Z(p0:LI)(p1:Int)(a:Int):Option (Int⊕(Unit⊕Int)):=
 if decide (a<(p0.length:Int)) then
  (idx p0 a).bind fun b=>
  if(b==p1) then
   some (.inr (.inr (a)))
  else
   some (.inl (W (a+1)))
 else
  some (.inr (.inl ()))
def y4Q(p0:LI)(p1:Int):Option Int:=
 (iter (y3Z p0 p1) 0).bind fun a=>
 match a with
 | .inl c=>
  some (-1)
 | .inr (b)=>
  some b
theorem y8X{p0:LI}{p1:Int}{r:Int}(hm:y4Q p0 p1=some r):
  F0 232 [.f qI p0,.i p1] [] (.i r) []:=by
 refine Fw.mk2 func232 ntmps232 R (fun C=>?_) R;refine .sr (.an R (.seq (.sr (.an R (.block (bS hm fun j g hm=>?_))))));refine .cutU (z:= .exit 0) (fun e=> .inl e=j) (fun (e:Unit)=>⟨[],[],0⟩) ?_ fun K7=>?_
 ·rintro e rfl;dsimp only at hm;refine .blkE (.seqN (.sr (.an R (.ret ?_))));cases hm;exact .r0 results232 (.tmp R .nil) R R
 refine .cutU (z:= .ret) (fun a=> .inr (a)=j) (fun (a:Int)=>⟨[(4,.i a)],[],0⟩) ?_ fun K9=>?_
 ·rintro a rfl;dsimp only at hm;refine .blkR (.seqR ?_);cases hm;exact .r0 results232 (.tmp R .nil) R R
 refine .iter (fun (c:Int)=>⟨[(5,.i c),(0,.f qI p0),(1,.i p1)],[],0⟩) g [] R ?_;intro c k hm h b;refine .seq (.sv R (.mv R (.ln sl26 R (.bi R (.ns ?_)))));refine .cc hm R (fun hm=>?_) fun hm=> .xx ((K7 _ (b _ (oj hm))).s0 R);refine .sn (.seq (.block (.sv R (.mv R (bS hm fun l d hm=> .ix sl26 d R (.le nag3 lv3 R (.mv R (.bi R (.ns ?_)))))))));exact .cc hm R (fun hm=> .sv R (.an R (.ret (.blkR (.seqR (.seqR ((K9 _ (b _ (oj hm))).s0 R))))))) fun hm=> .skip (.blkN (.seqN (.reg (.mv R (.bi R (.sa R (.nil ((h _ (oj hm)).s0 R))))))))
def y1l(a:Int×EdgL)(b:List (Int×Int×Int)):Option ((Int×EdgL)⊕EdgL):=
 some (.inl (W (a.1+1),b))
def y1m(p0:AutT)(d:LI)(b:Int×LI×EdgL)(a:Int×EdgL):Option ((Int×EdgL)⊕EdgL):=
 if decide (a.1<(p0.1.length:Int)) then
  (idx d b.1).bind fun f=>
  (idx p0.1 a.1).bind fun g=>
  (y3X p0 f g).bind fun c=>
  if decide (c≥0) then
   (idx p0.1 a.1).bind fun h=>
   (y4Q d c).bind fun e=>
   (app a.2 ([(b.1,h,e)]:List (Int×Int×Int))).bind fun i=>
   y1l a i
  else
   y1l a a.2
 else
  some (.inr a.2)
def y1n(p0:AutT)(d:LI)(a:Int×LI×EdgL)(b:LI):Option ((Int×LI×EdgL)⊕(LI×EdgL)):=
 (iter (y1m p0 d a) (0,a.2.2)).bind fun c=>
 some (.inl (W (a.1+1),b,c))
def y2E(p0:AutT)(b:LI)(a:Int×LI×EdgL):Option ((Int×LI×EdgL)⊕(LI×EdgL)):=
 if decide (a.1<(b.length:Int)) then
  (idx b a.1).bind fun d=>
  (y4r p0.2.2.1 d).bind fun c=>
  if c then
   (app a.2.1 ([a.1]:LI)).bind fun e=>
   y1n p0 b a e
  else
   y1n p0 b a a.2.1
 else
  some (.inr a.2)
def y3F(p0:AutT):Option AutT:=
 (y4P p0).bind fun b=>
 (y2a p0.1).bind fun c=>
 (iter (y2E p0 b) (0,c.2.2)).bind fun a=>
 some (c.1,(b.length:Int),a)
theorem y7U{r:AutT}(hm:y3F p0=some r):
  F0 146 [.a (lx60 p0)] [] (.g [lH 0,lI r.2.1,lH 1,lH 2]) [rwI r.1,rwI r.2.2.1,ROW qT 112 r.2.2.2]:=by
 refine Fw.mk2 func146 ntmps146 R (fun C=>?_) R;refine .sr (.bo 0 R (.al 1 zz60 R (.nr (.lg (lx60 p0) ag60 R (.B R) R (bS hm fun e a0 hm=> .cm (r':= .h 2) [2] [(0,rwI e)] (some 3) (y8W a0) cf229 R ⟨⟨_,R,I4⟩,trivial⟩ R (.an R (.sr (.fa y5U R (.lb nag26 R (bS hm fun m a1 hm=> .cm (r':= .g [lH 3,lI m.2.1,lH 4,lH 5]) [3,4,5] [(0,rwI m.1),(1,rwI m.2.2.1),(2,ROW qT 112 m.2.2.2)] (some 6) (y5v a1) cf145 R ⟨⟨_,R,I4⟩,⟨_,R,I4⟩,⟨_,R,I4⟩,trivial⟩ R (.al 6 zz60 R (.st ag60.sz R (.nr (.mv R (.lh sl26 R (.fa y4o R (.st nag3.sz R (.ns (.seq (.sr (.an R (.block (bS hm fun s I hm=>?_)))))))))))))))))))))));refine .cut1 (z:= .exit 0) s (fun (s:LI×EdgL)=>⟨[(4,.q 0 0),(2,.q 4 0)],[(0,.bx 60 [lH 1,lI e.length,lH 2,lH 3]),(1,rwI m.1),(2,rwI s.1),(3,ROW qT 112 s.2),(4,.bx 60 [lN,lI 0,lN,lN])],5⟩) ?_ fun X=>?_
 ·skip
  refine .blkE (.seqN (.sr (.lg [lH 1,lI e.length,lH 2,lH 3] ag60 R (.B R) R (.st ag60.sz R (.ns (.ret ?_))))));cases hm;exact .rr [1,2,3] results146 (.cell R R ag60 R .nil) R I3 ⟨⟨_,R,I4⟩,⟨_,R,I4⟩,⟨_,R,I4⟩,trivial⟩
 refine .iter (fun (d:Int×LI×EdgL)=>⟨[(5,.i d.1),(4,.q 0 0),(3,.h 4),(2,.q 5 0),(1,.q 6 0)],[(0,.bx 60 [lH 1,lI e.length,lH 2,lH 3]),(1,rwI m.1),(2,rwI d.2.1),(3,ROW qT 112 d.2.2),(4,rwI e),(5,.bx 60 [lN,lI 0,lN,lN]),(6,.bx 60 (lx60 p0))],7⟩) I [(0,6),(1,3),(2,4),(3,5),(4,2),(5,1),(6,0)] R ?_;intro d y hm V T;refine .seq (.sv R (.mv R (.lh sl26 R (.bi R (.ns ?_)))));refine .cc hm R (fun hm=>?_) fun hm=> .xx ((X _ (T _ (oj hm))).sub [(4,5)] R);refine .sn (.seq (.block ?_));refine .join1 (fun (j:LI)=>y1n p0 e d j=some y) (fun j=>⟨[(5,.i d.1),(4,.q 0 0),(3,.h 4),(2,.q 5 0),(1,.q 6 0)],[(0,.bx 60 [lH 1,lI e.length,lH 2,lH 3]),(1,rwI m.1),(2,rwI j),(3,ROW qT 112 d.2.2),(4,rwI e),(5,.bx 60 [lN,lI 0,lN,lN]),(6,.bx 60 (lx60 p0))],7⟩) ?_ ?_
 ·intro j hm;refine .sr (.an R (.block (bS hm fun x J hm=>?_)));refine .cut1 (z:= .exit 2) x (fun (x:EdgL)=>⟨[(5,.i d.1),(4,.q 0 0),(3,.h 4),(2,.q 5 0),(1,.q 6 0)],[(0,.bx 60 [lH 1,lI e.length,lH 2,lH 3]),(1,rwI m.1),(2,rwI j),(3,ROW qT 112 x),(4,rwI e),(5,.bx 60 [lN,lI 0,lN,lN]),(6,.bx 60 (lx60 p0))],7⟩) ?_ fun Y=>?_
  ·skip
   exact .blkE (.blkN (.seqN (.reg (.mv R (.bi R (.sa R (.nil ((V _ (oj hm)).s0 R))))))))
  refine .iter (fun (f:Int×EdgL)=>⟨[(6,.i f.1),(5,.i d.1),(4,.q 0 0),(3,.h 4),(2,.q 5 0),(1,.q 6 0)],[(0,.bx 60 [lH 1,lI e.length,lH 2,lH 3]),(1,rwI m.1),(2,rwI j),(3,ROW qT 112 f.2),(4,rwI e),(5,.bx 60 [lN,lI 0,lN,lN]),(6,.bx 60 (lx60 p0))],7⟩) J [] R ?_;intro f D hm W U;refine .seq (.sv R (.fa y5U R (.lb nag26 R (.ln sl26 R (.bi R (.ns ?_))))));refine .cc hm R (fun hm=>?_) fun hm=> .xx ((Y _ (U _ (oj hm))).s0 R);refine .sn ?_;refine .join1 (fun (o:List (Int×Int×Int))=>y1l f o=some D) (fun o=>⟨[(6,.i f.1),(5,.i d.1),(4,.q 0 0),(3,.h 4),(2,.q 5 0),(1,.q 6 0)],[(0,.bx 60 [lH 1,lI e.length,lH 2,lH 3]),(1,rwI m.1),(2,rwI j),(3,ROW qT 112 o),(4,rwI e),(5,.bx 60 [lN,lI 0,lN,lN]),(6,.bx 60 (lx60 p0))],7⟩) ?_ ?_
  ·intro o hm;exact .reg (.mv R (.bi R (.sa R (.nil ((W _ (oj hm)).s0 R)))))
  ·intro u;refine .block (.seq ?_);refine .sub (τ:=⟨[(6,.i f.1),(5,.i d.1),(4,.q 0 0),(3,.h 4),(2,.q 5 0),(1,.q 6 0)],[(0,.bx 60 [lH 1,lI e.length,lH 2,lH 3]),(1,rwI m.1),(2,rwI j),(3,ROW qT 112 f.2),(4,rwI e),(5,.bx 60 [lN,lI 0,lN,lN]),(6,.bx 60 (lx60 p0))],7⟩) ?_ [] R;refine bS hm fun a4 v hm=>bS hm fun a5 N hm=>bS hm fun F K hm=>?_;refine .drw [(7,[]),(7,[]),(7,[]),(7,[oF,oT,oT]),(7,fA 1 (tT 3)),(7,[]),(7,[oF,oF,oF,oF,oF,oT]),(7,[]),(7,fA 5 (tT 3)),(7,fA 5 (tT 4)),(7,tT 10),(7,tT 11)] [_,_,_,_,_,_,_,_,_,_,_,_] ⟨[(7,.i F),(6,.i f.1),(5,.i d.1),(4,.q 0 0),(3,.h 4),(2,.q 5 0),(1,.q 6 0)],[(0,.bx 60 [lH 1,lI e.length,lH 2,lH 3]),(1,rwI m.1),(2,rwI j),(3,ROW qT 112 f.2),(4,rwI e),(5,.bx 60 [lN,lI 0,lN,lN]),(6,.bx 60 (lx60 p0))],7⟩ ⟨O.lg (l':=(lx60 p0)) ag60 Z R (.B R) R R R,zM R,zM R,O.ir sl26 Z R R R v R,O.ld nag3 Z R (.R R v lv3) R R,O.faP y5U Z R R,zB nag26 R,zM R,O.ix sl26 Z R R N R,O.ld nag3 Z R (.E lv3) R R,O.ca0 (y7a K) cf231 R R Z R R R,O.as Z R R,trivial⟩ (by kernel_rfl) R ?_;refine .seqN (.sv R (.bi R (.ns ?_)));refine .cc hm R (fun hm=>?_) fun hm=> .skip (.blkN ((u _ hm).s0 R));refine .sub (τ:=⟨[(7,.i F),(6,.i f.1),(5,.i d.1),(4,.q 0 0),(3,.h 4),(2,.q 5 0),(1,.q 6 0)],[(0,.bx 60 [lH 1,lI e.length,lH 2,lH 3]),(1,rwI m.1),(2,rwI j),(3,ROW qT 112 f.2),(4,rwI e),(5,.bx 60 [lN,lI 0,lN,lN]),(6,.bx 60 (lx60 p0))],7⟩) ?_ [] R;refine bS hm fun H P hm=>bS hm fun G L hm=>bS hm fun a3 Q hm=>?_;refine .drg 8 [(7,[]),(7,[oT]),(7,[]),(7,[]),(7,[oF,oF,oF,oT]),(7,[]),(7,fA 3 (tT 3)),(7,fA 3 (tT 4)),(7,[]),(7,[]),(7,[oF,oF,oF,oF,oF,oF,oF,oF,oT,oT]),(7,fA 2 (tT 9)),(7,fA 2 (tT 10)),(7,tT 13),(8,tT 14),(8,tT 15)] [_,_,_,_,_,_,_,_,_,_,_,_,_,_,_,_] ⟨[(6,.i f.1),(5,.i d.1),(4,.q 0 0),(3,.h 4),(2,.q 5 0),(1,.q 6 0)],[(0,.bx 60 [lH 1,lI e.length,lH 2,lH 7]),(1,rwI m.1),(2,rwI j),(7,ROW qT 112 a3),(4,rwI e),(5,.bx 60 [lN,lI 0,lN,lN]),(6,.bx 60 (lx60 p0))],8⟩ ⟨O.faP y5A Z R R,zB nag27 R,zM R,O.faP y5U Z R R,zB nag26 R,zM R,O.ix sl26 Z R R P R,O.ld nag3 Z R (.E lv3) R R,zM R,zM R,O.caZ (y8X L) cf232 R R Z R ⟨⟨R,.hr R,trivial⟩,⟨R,LnL.rf⟩,trivial⟩ (fun _ _ _ _ _ h=>h) R,O.bu (l:=[lI d.1,lI H,lI G]) pl112 R Z R R R,O.bsF (r:=qT) (zs:=([(d.1,H,G)]:List (Int×Int×Int))) bs27 R R Z R R R (.c (.p .k (.p .k .k)) .n) R R R,O.ap 7 underlying27 el112 R R Z R R (.fr R) Q R,O.faP y5A Z R R,O.st nag27.sz Z R R R R R,trivial⟩ (by kernel_rfl) R ?_;exact .blkN ((u _ hm).sub [(3,7)] R)
 ·intro t;refine .seq ?_;refine .sub (τ:=⟨[(5,.i d.1),(4,.q 0 0),(3,.h 4),(2,.q 5 0),(1,.q 6 0)],[(0,.bx 60 [lH 1,lI e.length,lH 2,lH 3]),(1,rwI m.1),(2,rwI d.2.1),(3,ROW qT 112 d.2.2),(4,rwI e),(5,.bx 60 [lN,lI 0,lN,lN]),(6,.bx 60 (lx60 p0))],7⟩) ?_ [] R;refine bS hm fun a6 w hm=>bS hm fun a2 M hm=>?_;refine .drw [(7,[]),(7,[oT]),(7,[]),(7,[]),(7,[oF,oF,oT,oT]),(7,fA 2 (tT 3)),(7,tT 6)] [_,_,_,_,_,_,_] ⟨[(28,.b a2),(5,.i d.1),(4,.q 0 0),(3,.h 4),(2,.q 5 0),(1,.q 6 0)],[(0,.bx 60 [lH 1,lI e.length,lH 2,lH 3]),(1,rwI m.1),(2,rwI d.2.1),(3,ROW qT 112 d.2.2),(4,rwI e),(5,.bx 60 [lN,lI 0,lN,lN]),(6,.bx 60 (lx60 p0))],7⟩ ⟨O.faP y6v Z R R,zB nag26 R,zM R,zM R,O.ir sl26 Z R R R w R,O.ld nag3 Z R (.R R w lv3) R R,O.ca0 (y7k M) cf230 R R Z R R R,trivial⟩ (by kernel_rfl) R ?_;exact .seqN (.cc hm R (fun hm=> .reg (.fa y6v R (.lb nag26 R (.mv R (.bf (r:=qI) ([d.1]:LI) bs26 R (.c .k .n) R (bS hm fun a7 S hm=> .ap 7 underlying26 el3 R R (.fr R) S (.fa y6v R (.st nag26.sz R (.nil ((t _ hm).sub [(2,7)] R)))))))))) fun hm=> .skip ((t _ hm).s0 R))
def y2Q(a:Int×EdgL)(b:List (Int×Int×Int)):Option ((Int×EdgL)⊕EdgL):=
 some (.inl (W (a.1+1),b))
def y4l(p0:LI)(p1:yq)(b:Int×LI×EdgL)(a:Int×EdgL):Option ((Int×EdgL)⊕EdgL):=
 if((decide (a.1<(p0.length:Int)))&&(decide (a.1<5))) then
  (rng b.1 5).bind fun _=>
  (rng a.1 5).bind fun _=>
  (([p1.2.2.1.1,p1.2.2.1.2.1,p1.2.2.1.2.2.1,p1.2.2.1.2.2.2.1,p1.2.2.1.2.2.2.2,p1.2.2.2.1.1,p1.2.2.2.1.2.1,p1.2.2.2.1.2.2.1,p1.2.2.2.1.2.2.2.1,p1.2.2.2.1.2.2.2.2,p1.2.2.2.2.1.1,p1.2.2.2.2.1.2.1,p1.2.2.2.2.1.2.2.1,p1.2.2.2.2.1.2.2.2.1,p1.2.2.2.2.1.2.2.2.2,p1.2.2.2.2.2.1.1,p1.2.2.2.2.2.1.2.1,p1.2.2.2.2.2.1.2.2.1,p1.2.2.2.2.2.1.2.2.2.1,p1.2.2.2.2.2.1.2.2.2.2,p1.2.2.2.2.2.2.1,p1.2.2.2.2.2.2.2.1,p1.2.2.2.2.2.2.2.2.1,p1.2.2.2.2.2.2.2.2.2.1,p1.2.2.2.2.2.2.2.2.2.2]:LI)[b.1.toNat*5+a.1.toNat*1]?).bind fun c=>
  (nz (W ((W (1+(W (p1.1.tmod 5))))+2))).bind fun _=>
  if decide (((W c).tmod (W ((W (1+(W (p1.1.tmod 5))))+2)))<(W (1+(W (p1.1.tmod 5))))) then
   (idx p0 a.1).bind fun d=>
   (app a.2 ([(b.1,d,((W c).tmod (W ((W (1+(W (p1.1.tmod 5))))+2))))]:List (Int×Int×Int))).bind fun e=>
   y2Q a e
  else
   y2Q a a.2
 else
  some (.inr a.2)
def y2R(p0:LI)(p1:yq)(a:Int×LI×EdgL)(b:LI):Option ((Int×LI×EdgL)⊕(LI×EdgL)):=
 (iter (y4l p0 p1 a) (0,a.2.2)).bind fun c=>
 some (.inl (W (a.1+1),b,c))
def y4m(p0:LI)(p1:yq)(a:Int×LI×EdgL):Option ((Int×LI×EdgL)⊕(LI×EdgL)):=
 if decide (a.1<(W (1+(W (p1.1.tmod 5))))) then
  (ng a.1).bind fun _=>
  if((IntKind.u8.wrap (((BitVec.ofInt 8 (p1.2.1.fdiv (2 ^ (min a.1.toNat 8))) &&& BitVec.ofInt 8 1).toNat:Int)))==1) then
   (app a.2.1 ([a.1]:LI)).bind fun b=>
   y2R p0 p1 a b
  else
   y2R p0 p1 a a.2.1
 else
  some (.inr a.2)
def y5b(p0:LI)(p1:yq):Option AutT:=
 if decide (p1.1≥250) then
  (y2a p0).bind fun d=>
  some d
 else
  (y2a p0).bind fun b=>
  (iter (y4m p0 p1) (0,b.2.2)).bind fun a=>
  (y3F (b.1,W (1+(W (p1.1.tmod 5))),a)).bind fun c=>
  some c
theorem y9s{p0:LI}{p1:yq}{r:AutT}(hm:y5b p0 p1=some r):
    F0 72 [.f qI p0,.a (lx45 p1)] [] (.g [lH 0,lI r.2.1,lH 1,lH 2]) [rwI r.1,rwI r.2.2.1,ROW qT 112 r.2.2.2]:=by
  refine Fw.mk2 func72 ntmps72 R (fun C=>?_) R;refine .sr (.bo 0 R (.al 1 zz60 R (.ns (.seq (.sr (.fa yaO R (.lb nag5 R (.bi R (.ns ?_)))))))));refine .cc hm R (fun hm=>?_) fun hm=>?_
  ·refine .sv R (bS hm fun G a2 hm=> .cm (r':= .g [lH 2,lI G.2.1,lH 3,lH 4]) [2,3,4] [(0,rwI G.1),(1,rwI G.2.2.1),(2,ROW qT 112 G.2.2.2)] (some 5) (y5v a2) cf145 R ⟨⟨_,R,I4⟩,⟨_,R,I4⟩,⟨_,R,I4⟩,trivial⟩ R (.st ag60.sz R (.ns (.ret (.seqR ?_)))));cases hm;exact .rr [2,3,4] results72 (.cell R R ag60 R .nil) R I3 ⟨⟨_,R,I4⟩,⟨_,R,I4⟩,⟨_,R,I4⟩,trivial⟩
  ·refine .sn (.sv R (bS hm fun s a3 hm=> .cm (r':= .g [lH 2,lI s.2.1,lH 3,lH 4]) [2,3,4] [(0,rwI s.1),(1,rwI s.2.2.1),(2,ROW qT 112 s.2.2.2)] (some 5) (y5v a3) cf145 R ⟨⟨_,R,I4⟩,⟨_,R,I4⟩,⟨_,R,I4⟩,trivial⟩ R (.al 5 zz60 R (.st ag60.sz R (.nr (.fa yaO R (.lb nag5 R (.op (O.rem Z R R (by decide) R) R (.op (O.cv underlying5 underlying3 Z R R) R (.bi R (.fa y4o R (.st nag3.sz R (.ns (.seq (.sr (.an R (.block (bS hm fun u L hm=>?_))))))))))))))))));refine .cut1 (z:= .exit 0) u (fun (u:LI×EdgL)=>⟨[(5,.q 0 0),(4,.q 4 0)],[(0,.bx 60 [lH 1,lI (W (1+(W (p1.1.tmod 5)))),lH 2,lH 3]),(1,rwI s.1),(2,rwI u.1),(3,ROW qT 112 u.2),(4,.bx 60 [lN,lI 0,lN,lN])],5⟩) ?_ fun a0=>?_
   · skip
     refine .blkE (.seqN (.sr (.lg [lH 1,lI (W (1+(W (p1.1.tmod 5)))),lH 2,lH 3] ag60 R (.B R) R (bS hm fun v N hm=> .op (O.caY (r':= .g [lH 5,lI v.2.1,lH 6,lH 7]) [5,6,7] [(0,rwI v.1),(1,rwI v.2.2.1),(2,ROW qT 112 v.2.2.2)] (some 8) (y7U N) cf146 R R Z R R ⟨⟨R,.hr R,.rf,.hr R,.hr R,trivial⟩,trivial⟩ R ⟨.row flr3,.row flr3,.row yek,trivial⟩ (fun _ _ _ _ h=>h) ⟨⟨_,R,I4⟩,⟨_,R,I4⟩,⟨_,R,I4⟩,trivial⟩ I3 R) R (.st ag60.sz R (.ns (.ret ?_)))))));cases hm;exact .rr [5,6,7] results72 (.cell R R ag60 R .nil) R I3 ⟨⟨_,R,I4⟩,⟨_,R,I4⟩,⟨_,R,I4⟩,trivial⟩
   refine .iter (fun (e:Int×LI×EdgL)=>⟨[(6,.i e.1),(5,.q 0 0),(4,.q 4 0),(3,.q 5 0),(0,.f qI p0)],[(0,.bx 60 [lH 1,lI (W (1+(W (p1.1.tmod 5)))),lH 2,lH 3]),(1,rwI s.1),(2,rwI e.2.1),(3,ROW qT 112 e.2.2),(4,.bx 60 [lN,lI 0,lN,lN]),(5,.bx 45 (lx45 p1))],6⟩) L [(0,5),(1,2),(2,3),(3,4),(4,1),(5,0)] R ?_;intro e H hm X U;refine .seq (.sv R (.fa y4o R (.lb nag3 R (.bi R (.ns ?_)))));refine .cc hm R (fun hm=>?_) fun hm=> .xx ((a0 _ (U _ (oj hm))).s0 R);refine .sn (.seq (.block ?_));refine .join1 (fun (o:LI)=>y2R p0 p1 e o=some H) (fun o=>⟨[(6,.i e.1),(5,.q 0 0),(4,.q 4 0),(3,.q 5 0),(0,.f qI p0)],[(0,.bx 60 [lH 1,lI (W (1+(W (p1.1.tmod 5)))),lH 2,lH 3]),(1,rwI s.1),(2,rwI o),(3,ROW qT 112 e.2.2),(4,.bx 60 [lN,lI 0,lN,lN]),(5,.bx 45 (lx45 p1))],6⟩) ?_ ?_
   · intro o hm;refine .sr (.an R (.block (bS hm fun D M hm=>?_)));refine .cut1 (z:= .exit 2) D (fun (D:EdgL)=>⟨[(6,.i e.1),(5,.q 0 0),(4,.q 4 0),(3,.q 5 0),(0,.f qI p0)],[(0,.bx 60 [lH 1,lI (W (1+(W (p1.1.tmod 5)))),lH 2,lH 3]),(1,rwI s.1),(2,rwI o),(3,ROW qT 112 D),(4,.bx 60 [lN,lI 0,lN,lN]),(5,.bx 45 (lx45 p1))],6⟩) ?_ fun a1=>?_
     · skip
       exact .blkE (.blkN (.seqN (.reg (.mv R (.bi R (.sa R (.nil ((X _ (oj hm)).s0 R))))))))
     refine .iter (fun (j:Int×EdgL)=>⟨[(7,.i j.1),(6,.i e.1),(5,.q 0 0),(4,.q 4 0),(3,.q 5 0),(0,.f qI p0)],[(0,.bx 60 [lH 1,lI (W (1+(W (p1.1.tmod 5)))),lH 2,lH 3]),(1,rwI s.1),(2,rwI o),(3,ROW qT 112 j.2),(4,.bx 60 [lN,lI 0,lN,lN]),(5,.bx 45 (lx45 p1))],6⟩) M [] R ?_;intro j I hm Y V;refine .seq (.sv R (.mv R (.ln sl26 R (.bi R (.mv R ?_)))));refine .cut 3 (fun (F:Bool)=>((decide (j.1<(p0.length:Int)))&&(decide (j.1<5)))=F) (fun F=>⟨[(47,.b F),(7,.i j.1),(6,.i e.1),(5,.q 0 0),(4,.q 4 0),(3,.q 5 0),(0,.f qI p0)],[(0,.bx 60 [lH 1,lI (W (1+(W (p1.1.tmod 5)))),lH 2,lH 3]),(1,rwI s.1),(2,rwI o),(3,ROW qT 112 j.2),(4,.bx 60 [lN,lI 0,lN,lN]),(5,.bx 45 (lx45 p1))],6⟩) ?_ ?_
     · rintro _ rfl;refine .ns ?_;refine .cc hm R (fun hm=>?_) fun hm=> .xx ((a1 _ (V _ (oj hm))).s0 R);refine .sn ?_;refine .join1 (fun (t:List (Int×Int×Int))=>y2Q j t=some I) (fun t=>⟨[(7,.i j.1),(6,.i e.1),(5,.q 0 0),(4,.q 4 0),(3,.q 5 0),(0,.f qI p0)],[(0,.bx 60 [lH 1,lI (W (1+(W (p1.1.tmod 5)))),lH 2,lH 3]),(1,rwI s.1),(2,rwI o),(3,ROW qT 112 t),(4,.bx 60 [lN,lI 0,lN,lN]),(5,.bx 45 (lx45 p1))],6⟩) ?_ ?_
       · intro t hm;exact .reg (.mv R (.bi R (.sa R (.nil ((Y _ (oj hm)).s0 R)))))
       · intro y;refine .block (.seq ?_);refine .sub (τ:=⟨[(7,.i j.1),(6,.i e.1),(5,.q 0 0),(4,.q 4 0),(3,.q 5 0),(0,.f qI p0)],[(0,.bx 60 [lH 1,lI (W (1+(W (p1.1.tmod 5)))),lH 2,lH 3]),(1,rwI s.1),(2,rwI o),(3,ROW qT 112 j.2),(4,.bx 60 [lN,lI 0,lN,lN]),(5,.bx 45 (lx45 p1))],6⟩) ?_ [] R;refine bS hm fun _ a5 hm=>bS hm fun _ a6 hm=>bS hm fun w P hm=>bS hm fun _ a7 hm=>?_;refine .drw [(6,[]),(6,[]),(6,[]),(6,[oT,oF,oT]),(6,tT 4),(6,tT 5),(6,tT 6),(6,[]),(6,[oF,oF,oF,oF,oF,oF,oF,oT]),(6,[oF,oF,oF,oF,oF,oF,oF,oT,oT]),(6,tT 10),(6,tT 11)] [_,_,_,_,_,_,_,_,_,_,_,_] ⟨[(8,.i ((W w).tmod (W ((W (1+(W (p1.1.tmod 5))))+2)))),(7,.i j.1),(6,.i e.1),(5,.q 0 0),(4,.q 4 0),(3,.q 5 0),(0,.f qI p0)],[(0,.bx 60 [lH 1,lI (W (1+(W (p1.1.tmod 5)))),lH 2,lH 3]),(1,rwI s.1),(2,rwI o),(3,ROW qT 112 j.2),(4,.bx 60 [lN,lI 0,lN,lN]),(5,.bx 45 (lx45 p1))],6⟩ ⟨zM R,zM R,O.faP ykp Z R R,O.ia ia43 Z R R a5 R,O.ia ia42 Z R R a6 R,O.ldA (off:=2) (k:=e.1.toNat*5+j.1.toNat*1) (m:=25) (cs:=[p1.2.2.1.1,p1.2.2.1.2.1,p1.2.2.1.2.2.1,p1.2.2.1.2.2.2.1,p1.2.2.1.2.2.2.2,p1.2.2.2.1.1,p1.2.2.2.1.2.1,p1.2.2.2.1.2.2.1,p1.2.2.2.1.2.2.2.1,p1.2.2.2.1.2.2.2.2,p1.2.2.2.2.1.1,p1.2.2.2.2.1.2.1,p1.2.2.2.2.1.2.2.1,p1.2.2.2.2.1.2.2.2.1,p1.2.2.2.2.1.2.2.2.2,p1.2.2.2.2.2.1.1,p1.2.2.2.2.2.1.2.1,p1.2.2.2.2.2.1.2.2.1,p1.2.2.2.2.2.1.2.2.2.1,p1.2.2.2.2.2.1.2.2.2.2,p1.2.2.2.2.2.2.1,p1.2.2.2.2.2.2.2.1,p1.2.2.2.2.2.2.2.2.1,p1.2.2.2.2.2.2.2.2.2.1,p1.2.2.2.2.2.2.2.2.2.2]) nag5 Z R R R (by omega) P R,O.cv underlying5 underlying3 Z R R,O.faP y4o Z R R,zB nag3 R,O.bi Z R R R R,O.rem Z R R (yjl a7) R,O.as Z R R,trivial⟩ (by kernel_rfl) R ?_;refine .seqN (.sv R (.fa y4o R (.lb nag3 R (.bi R (.ns ?_)))));refine .cc hm R (fun hm=>?_) fun hm=> .skip (.blkN ((y _ hm).s0 R));refine .sub (τ:=⟨[(8,.i ((W w).tmod (W ((W (1+(W (p1.1.tmod 5))))+2)))),(7,.i j.1),(6,.i e.1),(5,.q 0 0),(4,.q 4 0),(3,.q 5 0),(0,.f qI p0)],[(0,.bx 60 [lH 1,lI (W (1+(W (p1.1.tmod 5)))),lH 2,lH 3]),(1,rwI s.1),(2,rwI o),(3,ROW qT 112 j.2),(4,.bx 60 [lN,lI 0,lN,lN]),(5,.bx 45 (lx45 p1))],6⟩) ?_ [] R;refine bS hm fun K Q hm=>bS hm fun a4 S hm=>?_;refine .drg 7 [(6,[]),(6,[oT]),(6,[]),(6,[]),(6,[]),(6,[oF,oF,oF,oT,oT]),(6,fA 3 (tT 3)),(6,[]),(6,fA 2 (tT 6)),(6,fA 2 (tT 7)),(6,tT 10),(7,tT 11),(7,tT 12)] [_,_,_,_,_,_,_,_,_,_,_,_,_] ⟨[(7,.i j.1),(6,.i e.1),(5,.q 0 0),(4,.q 4 0),(3,.q 5 0),(0,.f qI p0)],[(0,.bx 60 [lH 1,lI (W (1+(W (p1.1.tmod 5)))),lH 2,lH 6]),(1,rwI s.1),(2,rwI o),(6,ROW qT 112 a4),(4,.bx 60 [lN,lI 0,lN,lN]),(5,.bx 45 (lx45 p1))],7⟩ ⟨O.faP y5A Z R R,zB nag27 R,zM R,zM R,zM R,O.ix sl26 Z R R Q R,O.ld nag3 Z R (.E lv3) R R,zM R,O.bu (l:=[lI e.1,lI K,lI ((W w).tmod (W ((W (1+(W (p1.1.tmod 5))))+2)))]) pl112 R Z R R R,O.bsF (r:=qT) (zs:=([(e.1,K,((W w).tmod (W ((W (1+(W (p1.1.tmod 5))))+2))))]:List (Int×Int×Int))) bs27 R R Z R R R (.c (.p .k (.p .k .k)) .n) R R R,O.ap 6 underlying27 el112 R R Z R R (.fr R) S R,O.faP y5A Z R R,O.st nag27.sz Z R R R R R,trivial⟩ (by kernel_rfl) R ?_;exact .blkN ((y _ hm).sub [(3,6)] R)
     · intro J;rcases yEt (decide (j.1<(p0.length:Int))) with hc|hc
       · refine .know (d:=44) R hc ?_;exact .mg R (.bg R (.pT R ((J (decide (j.1<5)) (andT hc).symm).s0 R)))
       · refine .know (d:=44) R hc ?_;exact .s2 R R (.pF R ((J false (andF hc).symm).s0 R))
   · intro x;refine .sr (.fa yko R (.lb nag5 R (.mv R (bS hm fun _ a8 hm=> .op (O.shr Z R R (yfk a8) R) R (.bi R (.bi R (.ns ?_)))))));exact .cc hm R (fun hm=> .reg (.fa y6v R (.lb nag26 R (.mv R (.bf (r:=qI) ([e.1]:LI) bs26 R (.c .k .n) R (bS hm fun a9 T hm=> .ap 6 underlying26 el3 R R (.fr R) T (.fa y6v R (.st nag26.sz R (.nil ((x _ hm).sub [(2,6)] R)))))))))) fun hm=> .skip ((x _ hm).s0 R)
def y2S(p0:(Int×Int×Int×Int)×(yq×yq×yq×yq)×Int)(a:Int×(List AutT))(e:yq)(b:Int):Option ((Int×(List AutT))⊕(List AutT)):=
 (rng a.1 4).bind fun _=>
 (([p0.1.1,p0.1.2.1,p0.1.2.2.1,p0.1.2.2.2]:LI)[a.1.toNat*1]?).bind fun f=>
 (y3h f).bind fun c=>
 (y5b c (b,e.2)).bind fun d=>
 (app a.2 ([d]:List AutT)).bind fun g=>
 some (.inl (W (a.1+1),g))
def y2T(p0:(Int×Int×Int×Int)×(yq×yq×yq×yq)×Int)(a:Int×(List AutT)):Option ((Int×(List AutT))⊕(List AutT)):=
 if decide (a.1<(W (p0.2.2.tmod 5))) then
  (rng a.1 4).bind fun _=>
  (([p0.2.1.1,p0.2.1.2.1,p0.2.1.2.2.1,p0.2.1.2.2.2]:List yq)[a.1.toNat]?).bind fun b=>
  if decide (b.1<250) then
   y2S p0 a b (b.1.tmod 3)
  else
   y2S p0 a b b.1
 else
  some (.inr a.2)
def y5c(p0:(Int×Int×Int×Int)×(yq×yq×yq×yq)×Int):Option (List AutT):=
 (iter (y2T p0) (0,([]:List AutT))).bind fun a=>
 some a
theorem y9t{p0:(Int×Int×Int×Int)×(yq×yq×yq×yq)×Int}{r:(List AutT)}(hm:y5c p0=some r):
  F0 16 [.a (lx48 p0)] [] (.h 0) [ROW rE60 60 r]:=by
 refine Fw.mk2 func16 ntmps16 R (fun C=>?_) R;refine .sr (.bo 0 R (.an R (.sr (.an R (.seq (.sr (.fa yks R (.lb nag5 R (.op (O.rem Z R R (by decide) R) R (.op (O.cv underlying5 underlying3 Z R R) R (.mv R (.ns (.block (bS hm fun o u hm=>?_))))))))))))));refine .cut1 (z:= .exit 0) o (fun (o:(List AutT))=>⟨[(3,.h 0)],[(0,ROW rE60 60 o)],1⟩) ?_ fun H=>?_
 ·skip
  refine .blkE (.seqN (.sv R (.an R (.ret ?_))));cases hm;exact .rr [0] results16 (.tmp R .nil) R I3 ⟨⟨_,R,I4⟩,trivial⟩
 refine .nlg rE60 60 3 0 R R (.iter (fun (d:Int×(List AutT))=>⟨[(10,.i d.1),(9,.i (W (p0.2.2.tmod 5))),(3,.h 0),(1,.q 1 0)],[(0,ROW rE60 60 d.2),(1,.bx 48 (lx48 p0))],2⟩) u [(0,1),(1,0)] R ?_);intro d s hm G F;refine .sr (.bi R (.ns (.seq ?_)));refine .cc hm R (fun hm=>?_) fun hm=> .xx ((H _ (F _ (oj hm))).s0 R);refine .sn (.seq (.block (.sv R (.an R (.sv R (.fa ykr R (bS hm fun _ K hm=> .op (O.ia ia46 Z R R K R) R (bS hm fun b x hm=> .op (O.lgA (off:=4) (k:=d.1.toNat) (f:=(fun y:yq=> [lV (.int .u8 y.1),lV (.int .u8 y.2.1),lV (.int .u8 y.2.2.1.1),lV (.int .u8 y.2.2.1.2.1),lV (.int .u8 y.2.2.1.2.2.1),lV (.int .u8 y.2.2.1.2.2.2.1),lV (.int .u8 y.2.2.1.2.2.2.2),lV (.int .u8 y.2.2.2.1.1),lV (.int .u8 y.2.2.2.1.2.1),lV (.int .u8 y.2.2.2.1.2.2.1),lV (.int .u8 y.2.2.2.1.2.2.2.1),lV (.int .u8 y.2.2.2.1.2.2.2.2),lV (.int .u8 y.2.2.2.2.1.1),lV (.int .u8 y.2.2.2.2.1.2.1),lV (.int .u8 y.2.2.2.2.1.2.2.1),lV (.int .u8 y.2.2.2.2.1.2.2.2.1),lV (.int .u8 y.2.2.2.2.1.2.2.2.2),lV (.int .u8 y.2.2.2.2.2.1.1),lV (.int .u8 y.2.2.2.2.2.1.2.1),lV (.int .u8 y.2.2.2.2.2.1.2.2.1),lV (.int .u8 y.2.2.2.2.2.1.2.2.2.1),lV (.int .u8 y.2.2.2.2.2.1.2.2.2.2),lV (.int .u8 y.2.2.2.2.2.2.1),lV (.int .u8 y.2.2.2.2.2.2.2.1),lV (.int .u8 y.2.2.2.2.2.2.2.2.1),lV (.int .u8 y.2.2.2.2.2.2.2.2.2.1),lV (.int .u8 y.2.2.2.2.2.2.2.2.2.2)])) (cs:=([p0.2.1.1,p0.2.1.2.1,p0.2.1.2.2.1,p0.2.1.2.2.2]:List yq)) (y:=b) ag45 (fun _=>rfl) Z R R R rfl x R) R (.al 2 zz45 R (.st ag45.sz R (.ns ?_)))))))))));refine .join1 (fun (e:Int)=>y2S p0 d b e=some s) (fun e=>⟨[(5,.q 0 0),(4,.i d.1),(10,.i d.1),(9,.i (W (p0.2.2.tmod 5))),(3,.h 1),(1,.q 2 0)],[(0,.bx 45 [lV (.int .u8 e),lV (.int .u8 b.2.1),lV (.int .u8 b.2.2.1.1),lV (.int .u8 b.2.2.1.2.1),lV (.int .u8 b.2.2.1.2.2.1),lV (.int .u8 b.2.2.1.2.2.2.1),lV (.int .u8 b.2.2.1.2.2.2.2),lV (.int .u8 b.2.2.2.1.1),lV (.int .u8 b.2.2.2.1.2.1),lV (.int .u8 b.2.2.2.1.2.2.1),lV (.int .u8 b.2.2.2.1.2.2.2.1),lV (.int .u8 b.2.2.2.1.2.2.2.2),lV (.int .u8 b.2.2.2.2.1.1),lV (.int .u8 b.2.2.2.2.1.2.1),lV (.int .u8 b.2.2.2.2.1.2.2.1),lV (.int .u8 b.2.2.2.2.1.2.2.2.1),lV (.int .u8 b.2.2.2.2.1.2.2.2.2),lV (.int .u8 b.2.2.2.2.2.1.1),lV (.int .u8 b.2.2.2.2.2.1.2.1),lV (.int .u8 b.2.2.2.2.2.1.2.2.1),lV (.int .u8 b.2.2.2.2.2.1.2.2.2.1),lV (.int .u8 b.2.2.2.2.2.1.2.2.2.2),lV (.int .u8 b.2.2.2.2.2.2.1),lV (.int .u8 b.2.2.2.2.2.2.2.1),lV (.int .u8 b.2.2.2.2.2.2.2.2.1),lV (.int .u8 b.2.2.2.2.2.2.2.2.2.1),lV (.int .u8 b.2.2.2.2.2.2.2.2.2.2)]),(1,ROW rE60 60 d.2),(2,.bx 48 (lx48 p0))],3⟩) ?_ ?_
 ·intro e hm;refine .sub (τ:=⟨[(5,.q 0 0),(4,.i d.1),(10,.i d.1),(9,.i (W (p0.2.2.tmod 5))),(3,.h 1),(1,.q 2 0)],[(0,.bx 45 [lV (.int .u8 e),lV (.int .u8 b.2.1),lV (.int .u8 b.2.2.1.1),lV (.int .u8 b.2.2.1.2.1),lV (.int .u8 b.2.2.1.2.2.1),lV (.int .u8 b.2.2.1.2.2.2.1),lV (.int .u8 b.2.2.1.2.2.2.2),lV (.int .u8 b.2.2.2.1.1),lV (.int .u8 b.2.2.2.1.2.1),lV (.int .u8 b.2.2.2.1.2.2.1),lV (.int .u8 b.2.2.2.1.2.2.2.1),lV (.int .u8 b.2.2.2.1.2.2.2.2),lV (.int .u8 b.2.2.2.2.1.1),lV (.int .u8 b.2.2.2.2.1.2.1),lV (.int .u8 b.2.2.2.2.1.2.2.1),lV (.int .u8 b.2.2.2.2.1.2.2.2.1),lV (.int .u8 b.2.2.2.2.1.2.2.2.2),lV (.int .u8 b.2.2.2.2.2.1.1),lV (.int .u8 b.2.2.2.2.2.1.2.1),lV (.int .u8 b.2.2.2.2.2.1.2.2.1),lV (.int .u8 b.2.2.2.2.2.1.2.2.2.1),lV (.int .u8 b.2.2.2.2.2.1.2.2.2.2),lV (.int .u8 b.2.2.2.2.2.2.1),lV (.int .u8 b.2.2.2.2.2.2.2.1),lV (.int .u8 b.2.2.2.2.2.2.2.2.1),lV (.int .u8 b.2.2.2.2.2.2.2.2.2.1),lV (.int .u8 b.2.2.2.2.2.2.2.2.2.2)]),(1,ROW rE60 60 d.2),(2,.bx 48 (lx48 p0))],3⟩) ?_ [] R;refine bS hm fun _ L hm=>bS hm fun M D hm=>bS hm fun I v hm=>bS hm fun t w hm=>bS hm fun J E hm=>?_;refine .drg 4 [(3,[]),(3,[]),(3,[]),(3,[oF,oT,oT]),(3,fA 1 (tT 3)),(3,fA 1 (tT 4)),(3,[]),(3,fA 1 (tT 6)),(3,fA 1 (tT 7)),(3,tT 9),(4,tT 10)] [_,_,_,_,_,_,_,_,_,_,_] ⟨[(3,.h 3),(10,.i d.1),(9,.i (W (p0.2.2.tmod 5))),(1,.q 2 0)],[(3,ROW rE60 60 J),(2,.bx 48 (lx48 p0))],4⟩ ⟨zM R,zM R,O.faP ykq Z R R,O.ia ia41 Z R R L R,O.ldA (off:=0) (k:=d.1.toNat*1) (m:=4) (cs:=[p0.1.1,p0.1.2.1,p0.1.2.2.1,p0.1.2.2.2]) nag40 Z R R R (by omega) D R,O.ca0 (r:= .f qI I) (Fw.fz (y7B v)) cf73 R R Z R R R,O.lg (l':=[lV (.int .u8 e),lV (.int .u8 b.2.1),lV (.int .u8 b.2.2.1.1),lV (.int .u8 b.2.2.1.2.1),lV (.int .u8 b.2.2.1.2.2.1),lV (.int .u8 b.2.2.1.2.2.2.1),lV (.int .u8 b.2.2.1.2.2.2.2),lV (.int .u8 b.2.2.2.1.1),lV (.int .u8 b.2.2.2.1.2.1),lV (.int .u8 b.2.2.2.1.2.2.1),lV (.int .u8 b.2.2.2.1.2.2.2.1),lV (.int .u8 b.2.2.2.1.2.2.2.2),lV (.int .u8 b.2.2.2.2.1.1),lV (.int .u8 b.2.2.2.2.1.2.1),lV (.int .u8 b.2.2.2.2.1.2.2.1),lV (.int .u8 b.2.2.2.2.1.2.2.2.1),lV (.int .u8 b.2.2.2.2.1.2.2.2.2),lV (.int .u8 b.2.2.2.2.2.1.1),lV (.int .u8 b.2.2.2.2.2.1.2.1),lV (.int .u8 b.2.2.2.2.2.1.2.2.1),lV (.int .u8 b.2.2.2.2.2.1.2.2.2.1),lV (.int .u8 b.2.2.2.2.2.1.2.2.2.2),lV (.int .u8 b.2.2.2.2.2.2.1),lV (.int .u8 b.2.2.2.2.2.2.2.1),lV (.int .u8 b.2.2.2.2.2.2.2.2.1),lV (.int .u8 b.2.2.2.2.2.2.2.2.2.1),lV (.int .u8 b.2.2.2.2.2.2.2.2.2.2)]) ag45 Z R (.B R) R R R,O.ca0 (r:= .g (lx60 t)) (Fw.fz (y9s w)) cf72 R R Z R R R,O.bsF (r:=rE60) (zs:=([t]:List AutT)) bs49 R R Z R R R (.c (.p .l (.p .k (.p .l .l))) .n) R R R,O.ap 3 underlying49 el60 R R Z R R (.fr R) E R,O.as Z R R,trivial⟩ (by kernel_rfl) R ?_;exact .blkN (.seqN (.reg (.bi R (.mv R (.nil ((G _ (oj hm)).sub [(0,3),(1,2)] R))))))
 ·intro j;refine .sr (.fa yaO R (.lb nag5 R (.bi R (.ns ?_))));exact .cc hm R (fun hm=> .reg (.fa yaO R (.lb nag5 R (.op (O.rem Z R R (by decide) R) R (.fa yaO R (.st nag5.sz R (.nil ((j _ hm).sub [(0,2),(1,0),(2,1)] R)))))))) fun hm=> .skip ((j _ hm).sub [(0,2),(1,0),(2,1)] R)
def y3z(p0:LI)(p1:LI):Option LI:=
 (yn p0).bind fun a=>
 (app a p1).bind fun d=>
 (yK d).bind fun b=>
 (y2B b).bind fun c=>
 some c
theorem y8Y{p0:LI}{r:LI}(hm:y3z p0 p1=some r):
  F0 78 [.f qI p0,.f qI p1] [] (.f qI r) []:=by
 refine Fw.mk2 func78 ntmps78 R (fun C=>?_) R;refine .sr (.an R (.sv R (bS hm fun e a hm=> .cm (r':= .h 0) [0] [(0,rwI e)] (some 1) (yC a) cf58 R ⟨⟨_,R,I4⟩,trivial⟩ R (.mv R (bS hm fun j d hm=> .ap 1 underlying26 el3 R R (.fr R) d (.an R (.sv R (bS hm fun g b hm=> .cm (r':= .tp []) [1] [(0,rwI g)] none (y5n b) cf60 R ⟨⟨_,R,I4⟩,trivial⟩ R (.nr (.mv R (bS hm fun i c hm=> .cm (r':= .f qI i) [1] [(0,.u)] none (y5J c) cf61 R ⟨⟨_,R,fun _ _ _ _ _=>trivial⟩,trivial⟩ R (.an R (.ret ?_)))))))))))));cases hm;exact .r0 results78 (.tmp R .nil) R R
def y1P(a:Int×LI)(b:LI):Option ((Int×LI)⊕LI):=
 some (.inl (W (a.1+1),b))
def y1Q(b:List Bool)(a:Int×LI):Option ((Int×LI)⊕LI):=
 if decide (a.1<(b.length:Int)) then
  (idx b a.1).bind fun c=>
  if c then
   (app a.2 ([a.1]:LI)).bind fun d=>
   y1P a d
  else
   y1P a a.2
 else
  some (.inr a.2)
def y1b(a:Int×List Bool)(b:List Bool):Option ((Int×List Bool)⊕(List Bool)):=
 some (.inl (W (a.1+1),b))
def y1R(p0:LI×Int×LI×LI×EdgL)(p2:LI)(a:Int×List Bool):Option ((Int×List Bool)⊕(List Bool)):=
 if decide (a.1<(p0.2.2.2.2.length:Int)) then
  (idx p0.2.2.2.2 a.1).bind fun b=>
  (idx a.2 b.1).bind fun f=>
  (if f then
   (if ((p2.length:Int)==0) then
    some true
   else
    (yl p2 b.2.1).bind fun e=>
    some e).bind fun d=>
   some d
  else
   some false).bind fun c=>
  if c then
   (idx a.2 b.2.2).bind fun h=>
   (upd a.2 b.2.2 true).bind fun g=>
   y1b a g
  else
   y1b a a.2
 else
  some (.inr a.2)
def y1S(p0:LI×Int×LI×LI×EdgL)(p2:LI)(a:Int×List Bool):Option ((Int×List Bool)⊕(List Bool)):=
 if decide (a.1<p0.2.1) then
  (iter (y1R p0 p2) (0,a.2)).bind fun b=>
  some (.inl (W (a.1+1),b))
 else
  some (.inr a.2)
def y1T(p1:LI)(a:Int×List Bool):Option ((Int×List Bool)⊕(List Bool)):=
 if decide (a.1<(p1.length:Int)) then
  (idx p1 a.1).bind fun b=>
  (idx a.2 b).bind fun d=>
  (upd a.2 b true).bind fun c=>
  some (.inl (W (a.1+1),c))
 else
  some (.inr a.2)
def yX(p0:LI×Int×LI×LI×EdgL)(p1:LI)(p2:LI):Option LI:=
 (mkL p0.2.1 false).bind fun d=>
 (iter (y1T p1) (0,d)).bind fun c=>
 (iter (y1S p0 p2) (0,c)).bind fun a=>
 (iter (y1Q a) (0,([]:LI))).bind fun b=>
 some b
theorem y6F{p0:LI×Int×LI×LI×EdgL}{p2:LI}{r:LI}(hm:yX p0 p1 p2=some r):
  F0 98 [.a (lx29 p0),.f qI p1,.f qI p2] [] (.h 0) [rwI r]:=by
 refine Fw.mk2 func98 ntmps98 R (fun C=>?_) R;refine .sr (.bo 0 R (.an R (.sr (.fa y2G R (.lb nag3 R (bS hm fun x1 b0 hm=> .op (O.mk (z:=false) 1 underlying177 zr4 R R Z R R b0 R) R (.an R (.seq (.sv R (.ln sl26 R (.mv R (.ns (.block (bS hm fun o9 a9 hm=>?_))))))))))))));refine .cut1 (z:= .exit 0) o9 (fun (o9:List Bool)=>⟨[(7,.h 0),(3,.q 1 0),(2,.f qI p2)],[(0,ROW rB 4 o9),(1,.bx 29 (lx29 p0))],2⟩) ?_ fun a4=>?_
 ·skip
  refine .blkE (.seqN (.seq (.sr (.fa y2G R (.lb nag3 R (.mv R (.ns (.block (bS hm fun m P hm=>?_)))))))));refine .cut1 (z:= .exit 2) m (fun (m:List Bool)=>⟨[(7,.h 0)],[(0,ROW rB 4 m)],1⟩) ?_ fun a5=>?_
  ·skip
   refine .blkE (.seqN (.sr (.an R (.seq (.sv R (.lh sl177 R (.mv R (.ns (.block (bS hm fun y Q hm=>?_))))))))));refine .cut1 (z:= .exit 6) y (fun (y:LI)=>⟨[(12,.h 0)],[(0,rwI y)],1⟩) ?_ fun a6=>?_
   ·skip
    refine .blkE (.seqN (.sv R (.an R (.ret ?_))));cases hm;exact .rr [0] results98 (.tmp R .nil) R I3 ⟨⟨_,R,I4⟩,trivial⟩
   refine .nlg qI 3 12 0 R R (.iter (fun (l:Int×LI)=>⟨[(63,.i l.1),(62,.i m.length),(61,.h 0),(12,.h 1)],[(0,ROW rB 4 m),(1,rwI l.2)],2⟩) Q [] R ?_);intro l J hm a2 Y;refine .sr (.bi R (.ns (.seq ?_)));refine .cc hm R (fun hm=>?_) fun hm=> .xx ((a6 _ (Y _ (oj hm))).sub [(0,1)] R);refine .sn ?_;refine .join1 (fun (p:LI)=>y1P l p=some J) (fun p=>⟨[(12,.h 0),(63,.i l.1),(62,.i m.length),(61,.h 1)],[(0,rwI p),(1,ROW rB 4 m)],2⟩) ?_ ?_
   ·intro p hm;exact .reg (.bi R (.mv R (.nil ((a2 _ (oj hm)).sub [(0,1),(1,0)] R))))
   ·intro t;refine .block (.sv R (bS hm fun b9 v hm=> .op (O.ir sl177 Z R R R v R) R (.op (O.ld nag4 Z R (.R R v lv4) R R) R (.sa R (.an R (.sv R (.ns ?_)))))));exact .cc hm R (fun hm=> .reg (.mv R (.mv R (.bf (r:=qI) ([l.1]:LI) bs26 R (.c .k .n) R (bS hm fun c0 U hm=> .ap 2 underlying26 el3 R R (.fr R) U (.sa R (.nil (.blkN ((t _ hm).sub [(0,2),(1,0)] R))))))))) fun hm=> .skip (.blkN ((t _ hm).sub [(0,1),(1,0)] R))
  refine .iter (fun (g:Int×List Bool)=>⟨[(30,.i g.1),(29,.i p0.2.1),(7,.h 0),(3,.q 1 0),(2,.f qI p2)],[(0,ROW rB 4 g.2),(1,.bx 29 (lx29 p0))],2⟩) P [] R ?_;intro g b4 hm a1 X;refine .sr (.bi R (.ns (.seq ?_)));refine .cc hm R (fun hm=>?_) fun hm=> .xx ((a5 _ (X _ (oj hm))).s0 R);refine .sn (.seq (.block (.sr (.fa y2f R (.lb nag27 R (.ln sl27 R (.mv R (.ns (.block (bS hm fun B S hm=>?_))))))))));refine .cut1 (z:= .exit 4) B (fun (B:List Bool)=>⟨[(30,.i g.1),(29,.i p0.2.1),(7,.h 0),(3,.q 1 0),(2,.f qI p2)],[(0,ROW rB 4 B),(1,.bx 29 (lx29 p0))],2⟩) ?_ fun a7=>?_
  ·skip
   exact .blkE (.blkN (.seqN (.reg (.bi R (.mv R (.nil ((a1 _ (oj hm)).s0 R)))))))
  refine .iter (fun (e:Int×List Bool)=>⟨[(35,.i e.1),(34,.i p0.2.2.2.2.length),(33,.f qT p0.2.2.2.2),(30,.i g.1),(29,.i p0.2.1),(7,.h 0),(3,.q 1 0),(2,.f qI p2)],[(0,ROW rB 4 e.2),(1,.bx 29 (lx29 p0))],2⟩) S [] R ?_;intro e K hm a3 a0;refine .sr (.bi R (.ns (.seq ?_)));refine .cc hm R (fun hm=>?_) fun hm=> .xx ((a7 _ (a0 _ (oj hm))).s0 R);refine .sn ?_;refine .join1 (fun (s:List Bool)=>y1b e s=some K) (fun s=>⟨[(35,.i e.1),(34,.i p0.2.2.2.2.length),(33,.f qT p0.2.2.2.2),(30,.i g.1),(29,.i p0.2.1),(7,.h 0),(3,.q 1 0),(2,.f qI p2)],[(0,ROW rB 4 s),(1,.bx 29 (lx29 p0))],2⟩) ?_ ?_
  ·intro s hm;exact .reg (.bi R (.mv R (.nil ((a3 _ (oj hm)).s0 R))))
  ·intro u;refine .block (.sr (bS hm fun j V hm=> .ix sl27 V R (.lg [lI j.1,lI j.2.1,lI j.2.2] ag112 R (.E lv112) R (.al 2 zz112 R (.st ag112.sz R (.nr (.mv R (.fa yS R (.lb nag3 R (bS hm fun c1 w hm=> .op (O.ir sl177 Z R R R w R) R (.op (O.ld nag4 Z R (.R R w lv4) R R) R (.mv R (bS hm fun a8 eb91 hm=>?_)))))))))))));refine .cut 10 (fun (F:Bool)=>a8=F) (fun F=>⟨[(54,.b F),(11,.q 2 0),(35,.i e.1),(34,.i p0.2.2.2.2.length),(33,.f qT p0.2.2.2.2),(30,.i g.1),(29,.i p0.2.1),(7,.h 0),(3,.q 1 0),(2,.f qI p2)],[(2,.bx 112 [lI j.1,lI j.2.1,lI j.2.2]),(0,ROW rB 4 e.2),(1,.bx 29 (lx29 p0))],3⟩) ?_ ?_
   ·rintro _ rfl;exact .ns (.cc hm R (fun hm=> .reg (.mv R (.fa y1W R (.lb nag3 R (bS hm fun c2 x hm=> .op (O.ir sl177 Z R R R x R) R (bS hm fun c3 W hm=> .op (O.su (z:=true) nag4.sz Z R R x W R R R lv4 R .b) R (.nil (.blkN ((u _ hm).s0 R))))))))) fun hm=> .skip (.blkN ((u _ hm).s0 R)))
   ·intro L;rcases ifS eb91 with ⟨hc,hm⟩|⟨hc,hm⟩
    ·refine .know (d:=44) R hc ?_;refine .mg R (.op (O.len sl26 (Gu.mk R R) R R) R (.bg R (.mg R (bS hm fun N eb96 hm=>?_))));refine .cut 5 (fun (G:Bool)=>N=G) (fun G=>⟨[(53,.b G),(44,.b true),(11,.q 2 0),(35,.i e.1),(34,.i p0.2.2.2.2.length),(33,.f qT p0.2.2.2.2),(30,.i g.1),(29,.i p0.2.1),(7,.h 0),(3,.q 1 0),(2,.f qI p2)],[(2,.bx 112 [lI j.1,lI j.2.1,lI j.2.2]),(0,ROW rB 4 e.2),(1,.bx 29 (lx29 p0))],3⟩) ?_ ?_
     ·rintro _ rfl;exact .pT R ((L N (oj hm)).s0 R)
     ·intro M;rcases ifS eb96 with ⟨hc,hm⟩|⟨hc,hm⟩
      ·refine .know (d:=48) R hc ?_;exact .s2 R R (.s2 R R (.op (O.pkT (Gu.mk R R) R R R R) R ((M true (oj hm)).s0 R)))
      ·refine .know (d:=48) R hc ?_;exact .mg R (.fag y1V R (.lbg nag3 R (bS hm fun b3 T hm=> .op (O.ca0 (y4i T) cf41 R R (Gu.mk R R) R R R) R (.op (O.pkF (Gu.mk R R) R R R R) R ((M b3 (oj hm)).s0 R)))))
    ·refine .know (d:=44) R hc ?_;exact .s2 R R (.s2 R R (.su R (.su R (.su R (.su R (.sk R (.pF R ((L false (oj hm)).s0 R))))))))
 refine .iter (fun (D:Int×List Bool)=>⟨[(20,.i D.1),(19,.i p1.length),(18,.f qI p1),(7,.h 0),(3,.q 1 0),(2,.f qI p2)],[(0,ROW rB 4 D.2),(1,.bx 29 (lx29 p0))],2⟩) a9 [(0,1),(1,0)] R ?_;intro D b5 hm b2 b1;refine .sr (.bi R (.ns (.seq ?_)));exact .cc hm R (fun hm=> .sn (.seq (.block (.sr (bS hm fun b6 H hm=> .ix sl26 H R (.le nag3 lv3 R (.an R (.reg (.mv R (.mv R (bS hm fun b7 o hm=> .op (O.ir sl177 Z R R R o R) R (bS hm fun b8 I hm=> .op (O.su (z:=true) nag4.sz Z R R o I R R R lv4 R .b) R (.nil (.blkN (.seqN (.reg (.bi R (.mv R (.nil ((b2 _ (oj hm)).s0 R)))))))))))))))))))) fun hm=> .xx ((a4 _ (b1 _ (oj hm))).s0 R)
def y2U(a:LI×Int×LI×LI×EdgL)(p0:Int):Option Bool:=
 (yl a.2.2.2.1 p0).bind fun b=>
 some b
theorem y8m{c:LI×Int×LI×LI×EdgL}{p0:Int}{r:Bool}(hm:y2U c p0=some r):
  F0 99 [.i p0,.o (lQ 29 (lx29 c) 0)] [] (.b r) []:=by
 refine Fw.mk2 func99 ntmps99 R (fun C=>?_) R;refine .sr (.an R (.sr (.fq y6u R (.lq nag26 R (.mv R (bS hm fun d a hm=> .c0 (y4i a) cf41 R (.an R (.ret ?_))))))));cases hm;exact .r0 results99 (.tmp R .nil) R R
end
end Go.Proofs.YtfdeiphkmjdifaaGreatDoor
