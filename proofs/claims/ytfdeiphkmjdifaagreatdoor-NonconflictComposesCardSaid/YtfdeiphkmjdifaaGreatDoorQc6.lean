/- Parts of the proof, without what nothing here names. -/
import Derived.Test.YtfdeiphkmjdifaaGreatDoorProg
import Derived.Deep.Slices
import Derived.ChangeSame
import Derived.ProofKit
import Derived.Test.YtfdeiphkmjdifaaGreatDoorQc5
set_option maxRecDepth 100000
set_option maxHeartbeats 8000000
namespace Go.Proofs.YtfdeiphkmjdifaaGreatDoor
section
open Go.Proofs.Tryz Go Go.RowKit
noncomputable section
def y2g(c:Int×(List (Int×Int))×LI×EdgL)(d:Int)(b:LI)(a:Int×EdgL):Option ((Int×EdgL)⊕EdgL):=
 if decide (a.1<(b.length:Int)) then
  (idx b a.1).bind fun e=>
  (app a.2 ([(c.1,d,e)]:List (Int×Int×Int))).bind fun f=>
  some (.inl (W (a.1+1),f))
 else
  some (.inr a.2)
def y1a(a:Int×LI×(List (Int×Int)))(b:List (Int×Int))(c:Int):Option ((Int×LI×(List (Int×Int)))⊕(LI×(List (Int×Int)))):=
 (app a.2.1 ([c]:LI)).bind fun d=>
 some (.inl (W (a.1+1),d,b))
def y1b(b:(List (Int×Int)))(a:Int×LI×(List (Int×Int))):Option ((Int×LI×(List (Int×Int)))⊕(LI×(List (Int×Int)))):=
 if decide (a.1<(b.length:Int)) then
  (idx b a.1).bind fun d=>
  (y2f a.2.2 d).bind fun c=>
  if decide (c<0) then
   (app a.2.2 ([d]:List (Int×Int))).bind fun e=>
   y1a a e (a.2.2.length:Int)
  else
   y1a a a.2.2 c
 else
  some (.inr a.2)
def y1c(c:Int×(List (Int×Int))×LI×EdgL)(a:Int×(List (Int×Int))×EdgL)(i:Int)(d:List (Int×Int)):Option ((Int×(List (Int×Int))×EdgL)⊕((List (Int×Int))×EdgL)):=
 (yJ y3n d).bind fun f=>
 (yz f).bind fun g=>
 (iter (y1b g) (0,([]:LI),a.2.1)).bind fun b=>
 (yy b.1).bind fun h=>
 (iter (y2g c i h) (0,a.2.2)).bind fun e=>
 some (.inl (W (a.1+1),b.2,e))
def y2h(c:Int×Int)(b:LI)(a:Int×(List (Int×Int))):Option ((Int×(List (Int×Int)))⊕(List (Int×Int))):=
 if decide (a.1<(b.length:Int)) then
  (idx b a.1).bind fun d=>
  (app a.2 ([(c.1,d)]:List (Int×Int))).bind fun e=>
  some (.inl (W (a.1+1),e))
 else
  some (.inr a.2)
def y2i(c:Int×Int)(b:LI)(a:Int×(List (Int×Int))):Option ((Int×(List (Int×Int)))⊕(List (Int×Int))):=
 if decide (a.1<(b.length:Int)) then
  (idx b a.1).bind fun d=>
  (app a.2 ([(d,c.2)]:List (Int×Int))).bind fun e=>
  some (.inl (W (a.1+1),e))
 else
  some (.inr a.2)
def y2j(c:Int)(b:LI)(a:Int×(List (Int×Int))):Option ((Int×(List (Int×Int)))⊕(List (Int×Int))):=
 if decide (a.1<(b.length:Int)) then
  (idx b a.1).bind fun d=>
  (app a.2 ([(c,d)]:List (Int×Int))).bind fun e=>
  some (.inl (W (a.1+1),e))
 else
  some (.inr a.2)
def y2k(p1:LI×Int×LI×LI×EdgL)(e:Int×Int)(f:Int)(b:LI)(a:Int×(List (Int×Int))):Option ((Int×(List (Int×Int)))⊕(List (Int×Int))):=
 if decide (a.1<(b.length:Int)) then
  (idx b a.1).bind fun g=>
  (yl p1 e.2 f).bind fun d=>
  (iter (y2j g d) (0,a.2)).bind fun c=>
  some (.inl (W (a.1+1),c))
 else
  some (.inr a.2)
def yH(p0:LI×Int×LI×LI×EdgL)(p1:LI×Int×LI×LI×EdgL)(e:Int×(List (Int×Int))×LI×EdgL)(c:Int×Int)(d:Int×Int)(f:LI)(b:Int×(List (Int×Int))×EdgL):Option ((Int×(List (Int×Int))×EdgL)⊕((List (Int×Int))×EdgL)):=
 if decide (b.1<(f.length:Int)) then
  (idx f b.1).bind fun a=>
  if(a==(-1)) then
   (yl p0 c.1 a).bind fun j=>
   (iter (y2i d j) (0,([]:List (Int×Int)))).bind fun g=>
   (yl p1 d.2 a).bind fun k=>
   (iter (y2h c k) (0,g)).bind fun h=>
   y1c e b a h
  else
   (yl p0 c.1 a).bind fun l=>
   (iter (y2k p1 d a l) (0,([]:List (Int×Int)))).bind fun i=>
   y1c e b a i
 else
  some (.inr b.2)
def y1d(p0:LI×Int×LI×LI×EdgL)(p1:LI×Int×LI×LI×EdgL)(g:LI)(a:Int×(List (Int×Int))×LI×EdgL)(d:Int×Int)(e:Int×Int)(c:LI):Option ((Int×(List (Int×Int))×LI×EdgL)⊕((List (Int×Int))×LI×EdgL)):=
 (app ([(-1)]:LI) g).bind fun f=>
 (iter (yH p0 p1 a d e f) (0,a.2.1,a.2.2.2)).bind fun b=>
 some (.inl (W (a.1+1),b.1,c,b.2))
def y2l(p0:LI×Int×LI×LI×EdgL)(p1:LI×Int×LI×LI×EdgL)(h:LI)(a:Int×(List (Int×Int))×LI×EdgL):Option ((Int×(List (Int×Int))×LI×EdgL)⊕((List (Int×Int))×LI×EdgL)):=
 if decide (a.1<(a.2.1.length:Int)) then
  (idx a.2.1 a.1).bind fun b=>
  (idx a.2.1 a.1).bind fun c=>
  (ym p0.2.2.2.1 b.1).bind fun e=>
  (if e then
   (ym p1.2.2.2.1 c.2).bind fun f=>
   some f
  else
   some false).bind fun d=>
  if d then
   (app a.2.2.1 ([a.1]:LI)).bind fun g=>
   y1d p0 p1 h a b c g
  else
   y1d p0 p1 h a b c a.2.2.1
 else
  some (.inr a.2)
def yv(p1:LI×Int×LI×LI×EdgL)(b:Int)(a:Int×(List (Int×Int))×LI):Option ((Int×(List (Int×Int))×LI)⊕((List (Int×Int))×LI)):=
 if decide (a.1<(p1.2.2.1.length:Int)) then
  (idx p1.2.2.1 a.1).bind fun c=>
  (app a.2.2 ([(a.2.1.length:Int)]:LI)).bind fun d=>
  (app a.2.1 ([(b,c)]:List (Int×Int))).bind fun e=>
  some (.inl (W (a.1+1),e,d))
 else
  some (.inr a.2)
def y1e(p0:LI×Int×LI×LI×EdgL)(p1:LI×Int×LI×LI×EdgL)(a:Int×(List (Int×Int))×LI):Option ((Int×(List (Int×Int))×LI)⊕((List (Int×Int))×LI)):=
 if decide (a.1<(p0.2.2.1.length:Int)) then
  (idx p0.2.2.1 a.1).bind fun c=>
  (iter (yv p1 c) (0,a.2)).bind fun b=>
  some (.inl (W (a.1+1),b))
 else
  some (.inr a.2)
def y1Y(p0:LI×Int×LI×LI×EdgL)(p1:LI×Int×LI×LI×EdgL):Option ((LI×Int×LI×LI×EdgL)×(List (Int×Int))):=
 (y3f p0.1 p1.1).bind fun c=>
 (iter (y1e p0 p1) (0,([]:List (Int×Int)),([]:LI))).bind fun b=>
 (iter (y2l p0 p1 c) (0,b.1,([]:LI),([]:List (Int×Int×Int)))).bind fun a=>
 some ((c,(a.1.length:Int),b.2,a.2),a.1)
theorem y6N{p0:LI×Int×LI×LI×EdgL}{p1:LI×Int×LI×LI×EdgL}{r:(LI×Int×LI×LI×EdgL)×(List (Int×Int))}(hm:y1Y p0 p1=some r):
    F0 28 [.a (lx29 p0),.a (lx29 p1)] [] (.tp [.a [lF qI r.1.1,lI r.1.2.1,lH 0,lH 1,lH 2],.h 3]) [rwI r.1.2.2.1,rwI r.1.2.2.2.1,ROW qT 112 r.1.2.2.2.2,ROW rE70 70 r.2]:=by
  refine Fw.mk2 func28 ntmps28 R (fun C=>?_) R;refine .sr (.bo 0 R (.bo 1 R (.al 2 zz29 R (.an R (.sr (.fa y1O R (.lb nag26 R (.fa y1O R (.lb nag26 R (bS hm fun v j5 hm=> .c0 (y7G j5) cf78 R (.bu [lF qI v,lI 0,lN,lN,lN] pl29 R (.al 3 zz29 R (.st ag29.sz R (.nr (.an R (.seq (.sr (.fa y2K R (.lb nag26 R (.ln sl26 R (.mv R (.ns (.block (bS hm fun s i9 hm=>?_))))))))))))))))))))))));refine .cut1 (z:= .exit 0) s (fun (s:(List (Int×Int))×LI)=>⟨[(7,.h 0),(6,.q 1 0),(4,.q 3 0),(3,.q 4 0),(2,.q 5 0)],[(0,ROW rE70 70 s.1),(1,.bx 29 [lF qI v,lI 0,lH 2,lN,lN]),(2,rwI s.2),(3,.bx 29 [lN,lI 0,lN,lN,lN]),(4,.bx 29 (lx29 p1)),(5,.bx 29 (lx29 p0))],6⟩) ?_ fun j4=>?_
  · skip
    refine .blkE (.seqN (.seq (.sr (.an R (.block (bS hm fun F c5 hm=>?_))))));refine .cut1 (z:= .exit 4) F (fun (F:(List (Int×Int))×LI×EdgL)=>⟨[(7,.h 0),(6,.q 1 0),(4,.q 5 0)],[(0,ROW rE70 70 F.1),(1,.bx 29 [lF qI v,lI 0,lH 2,lH 3,lH 4]),(2,rwI s.2),(3,rwI F.2.1),(4,ROW qT 112 F.2.2),(5,.bx 29 [lN,lI 0,lN,lN,lN])],6⟩) ?_ fun h9=>?_
    · skip
      refine .blkE (.seqN (.sv R (.lh sl34 R (.fa y1m R (.st nag3.sz R (.nr (.lg [lF qI v,lI F.1.length,lH 2,lH 3,lH 4] ag29 R (.B R) R (.mv R (.st ag29.sz R (.an R (.ret ?_)))))))))));cases hm;exact .rr [2,3,4,0] results28 (.cell R R ag29 R (.tmp R .nil)) R I3 ⟨⟨_,R,I4⟩,⟨_,R,I4⟩,⟨_,R,I4⟩,⟨_,R,I4⟩,trivial⟩
    refine .nlb qI 3 1 3 R R (.nlb qT 112 1 4 R R (.iter (fun (e:Int×(List (Int×Int))×LI×EdgL)=>⟨[(12,.i e.1),(7,.h 0),(6,.q 1 0),(4,.q 5 0),(3,.q 6 0),(2,.q 7 0)],[(0,ROW rE70 70 e.2.1),(1,.bx 29 [lF qI v,lI 0,lH 2,lH 3,lH 4]),(2,rwI s.2),(3,rwI e.2.2.1),(4,ROW qT 112 e.2.2.2),(5,.bx 29 [lN,lI 0,lN,lN,lN]),(6,.bx 29 (lx29 p1)),(7,.bx 29 (lx29 p0))],8⟩) c5 [(3,6),(4,7),(5,3),(6,4),(7,5)] R ?_));intro e b6 hm h0 g1;refine .seq (.sv R (.mv R (.lh sl34 R (.bi R (.ns ?_)))));refine .cc hm R (fun hm=>?_) fun hm=> .xx ((h9 _ (g1 _ (oj hm))).s0 R);refine .sn (.seq (.block (.seq ?_)));refine .sub (τ:=⟨[(12,.i e.1),(7,.h 0),(6,.q 1 0),(4,.q 5 0),(3,.q 6 0),(2,.q 7 0)],[(0,ROW rE70 70 e.2.1),(1,.bx 29 [lF qI v,lI 0,lH 2,lH 3,lH 4]),(2,rwI s.2),(3,rwI e.2.2.1),(4,ROW qT 112 e.2.2.2),(5,.bx 29 [lN,lI 0,lN,lN,lN]),(6,.bx 29 (lx29 p1)),(7,.bx 29 (lx29 p0))],8⟩) ?_ [] R;refine bS hm fun l a8 hm=>bS hm fun m a9 hm=>?_;refine .drw [(8,[]),(8,[]),(8,[oT,oT]),(8,tT 3),(8,tT 4),(8,[]),(8,[]),(8,[oF,oF,oF,oF,oF,oT,oT]),(8,fA 5 (tT 3)),(8,fA 5 (tT 4)),(8,tT 5),(8,tT 11)] [_,_,_,_,_,_,_,_,_,_,_,_] ⟨[(14,.i m.2),(13,.i l.1),(12,.i e.1),(7,.h 0),(6,.q 1 0),(4,.q 5 0),(3,.q 6 0),(2,.q 7 0)],[(0,ROW rE70 70 e.2.1),(1,.bx 29 [lF qI v,lI 0,lH 2,lH 3,lH 4]),(2,rwI s.2),(3,rwI e.2.2.1),(4,ROW qT 112 e.2.2.2),(5,.bx 29 [lN,lI 0,lN,lN,lN]),(6,.bx 29 (lx29 p1)),(7,.bx 29 (lx29 p0))],8⟩ ⟨zM R,zM R,O.ir sl34 Z R R R a8 R,O.iaR ia70 Z R R R R,O.ld nag3 Z R (.R R a8 lv70) R R,zM R,zM R,O.ir sl34 Z R R R a9 R,O.iaR ia70 Z R R R R,O.ld nag3 Z R (.R R a9 lv70) R R,O.as Z R R,O.as Z R R,trivial⟩ (by kernel_rfl) R ?_;refine .seqN ?_;refine .join1 (fun (o:LI)=>y1d p0 p1 v e l m o=some b6) (fun o=>⟨[(14,.i m.2),(13,.i l.1),(12,.i e.1),(7,.h 0),(6,.q 1 0),(4,.q 5 0),(3,.q 6 0),(2,.q 7 0)],[(0,ROW rE70 70 e.2.1),(1,.bx 29 [lF qI v,lI 0,lH 2,lH 3,lH 4]),(2,rwI s.2),(3,rwI o),(4,ROW qT 112 e.2.2.2),(5,.bx 29 [lN,lI 0,lN,lN,lN]),(6,.bx 29 (lx29 p1)),(7,.bx 29 (lx29 p0))],8⟩) ?_ ?_
    · intro o hm;refine .sr (.op (O.bsO (r:=qI) (zs:=([(-1)]:LI)) 8 R bs26 R R Z R R R (.c .k .n) R R R) R (.fa y1O R (.lb nag26 R (bS hm fun j e4 hm=> .ap 9 underlying26 el3 R R (.fr R) e4 (.lh sl26 R (.mv R (.ns (.block (bS hm fun N c6 hm=>?_)))))))));refine .cut1 (z:= .exit 6) N (fun (N:(List (Int×Int))×EdgL)=>⟨[(12,.i e.1),(7,.h 0),(6,.q 1 0),(4,.q 5 0),(3,.q 6 0),(2,.q 7 0)],[(0,ROW rE70 70 N.1),(1,.bx 29 [lF qI v,lI 0,lH 2,lH 3,lH 4]),(2,rwI s.2),(3,rwI o),(4,ROW qT 112 N.2),(5,.bx 29 [lN,lI 0,lN,lN,lN]),(6,.bx 29 (lx29 p1)),(7,.bx 29 (lx29 p0))],8⟩) ?_ fun i0=>?_
      · skip
        exact .blkE (.blkN (.seqN (.reg (.mv R (.bi R (.sa R (.nil ((h0 _ (oj hm)).s0 R))))))))
      refine .iter (fun (g:Int×(List (Int×Int))×EdgL)=>⟨[(104,.i g.1),(103,.i j.length),(102,.h 0),(14,.i m.2),(13,.i l.1),(12,.i e.1),(7,.h 1),(6,.q 2 0),(4,.q 6 0),(3,.q 7 0),(2,.q 8 0)],[(0,rwI j),(1,ROW rE70 70 g.2.1),(2,.bx 29 [lF qI v,lI 0,lH 3,lH 4,lH 5]),(3,rwI s.2),(4,rwI o),(5,ROW qT 112 g.2.2),(6,.bx 29 [lN,lI 0,lN,lN,lN]),(7,.bx 29 (lx29 p1)),(8,.bx 29 (lx29 p0))],9⟩) c6 [(0,9),(1,0),(2,1),(3,2),(4,3),(5,4),(6,5),(7,6),(8,7)] R ?_;intro g b7 hm h1 g2;refine .sr (.bi R (.ns (.seq ?_)));refine .cc hm R (fun hm=>?_) fun hm=> .xx ((i0 _ (g2 _ (oj hm))).sub [(0,1),(1,2),(2,3),(3,4),(4,5),(5,6),(6,7),(7,8)] R);refine .sn (.seq (.block (.sr (bS hm fun t b0 hm=> .op (O.ir sl26 Z R R R b0 R) R (.op (O.ld nag3 Z R (.R R b0 lv3) R R) R (.an R (.sr (.an R ?_))))))));refine .join1 (fun (L:List (Int×Int))=>y1c e g t L=some b7) (fun L=>⟨[(17,.h 0),(16,.i t),(104,.i g.1),(103,.i j.length),(102,.h 1),(14,.i m.2),(13,.i l.1),(12,.i e.1),(7,.h 2),(6,.q 3 0),(4,.q 7 0),(3,.q 8 0),(2,.q 9 0)],[(0,ROW rE70 70 L),(1,rwI j),(2,ROW rE70 70 g.2.1),(3,.bx 29 [lF qI v,lI 0,lH 4,lH 5,lH 6]),(4,rwI s.2),(5,rwI o),(6,ROW qT 112 g.2.2),(7,.bx 29 [lN,lI 0,lN,lN,lN]),(8,.bx 29 (lx29 p1)),(9,.bx 29 (lx29 p0))],10⟩) ?_ ?_
      · intro L hm;refine .sv R (bS hm fun j2 d4 hm=> .cm (r':= .tp []) [0] [(0,ROW rE70 70 j2)] none (y4A cf95 (fun _ _ _=>y6j) d4) cf94 R ⟨⟨_,R,I4⟩,trivial⟩ R (.nr (.an R (.seq (.sv R (bS hm fun K d5 hm=> .cm (r':= .f rE70 K) [0] [(0,.u)] none (y3G d5) cf96 R ⟨⟨_,R,fun _ _ _ _ _=>trivial⟩,trivial⟩ R (.ln sl34 R (.mv R (.ns (.block (bS hm fun G c7 hm=>?_)))))))))));refine .cut1 (z:= .exit 16) G (fun (G:LI×(List (Int×Int)))=>⟨[(26,.h 0),(16,.i t),(104,.i g.1),(103,.i j.length),(102,.h 1),(14,.i m.2),(13,.i l.1),(12,.i e.1),(7,.h 2),(6,.q 3 0),(4,.q 7 0),(3,.q 8 0),(2,.q 9 0)],[(0,rwI G.1),(1,rwI j),(2,ROW rE70 70 G.2),(3,.bx 29 [lF qI v,lI 0,lH 4,lH 5,lH 6]),(4,rwI s.2),(5,rwI o),(6,ROW qT 112 g.2.2),(7,.bx 29 [lN,lI 0,lN,lN,lN]),(8,.bx 29 (lx29 p1)),(9,.bx 29 (lx29 p0))],10⟩) ?_ fun i1=>?_
        · skip
          refine .blkE (.seqN (.sv R (bS hm fun a1 d6 hm=> .cm (r':= .tp []) [0] [(0,rwI a1)] none (y2N d6) cf60 R ⟨⟨_,R,I4⟩,trivial⟩ R (.nr (.mv R (.lh sl26 R (.mv R (.ns (.block (bS hm fun V c8 hm=>?_))))))))));refine .cut1 (z:= .exit 18) V (fun (V:EdgL)=>⟨[(104,.i g.1),(103,.i j.length),(102,.h 0),(14,.i m.2),(13,.i l.1),(12,.i e.1),(7,.h 1),(6,.q 2 0),(4,.q 6 0),(3,.q 7 0),(2,.q 8 0)],[(0,rwI j),(1,ROW rE70 70 G.2),(2,.bx 29 [lF qI v,lI 0,lH 3,lH 4,lH 5]),(3,rwI s.2),(4,rwI o),(5,ROW qT 112 V),(6,.bx 29 [lN,lI 0,lN,lN,lN]),(7,.bx 29 (lx29 p1)),(8,.bx 29 (lx29 p0))],9⟩) ?_ fun i2=>?_
          · skip
            exact .blkE (.blkN (.seqN (.reg (.bi R (.mv R (.nil ((h1 _ (oj hm)).s0 R)))))))
          refine .iter (fun (Q:Int×EdgL)=>⟨[(197,.i Q.1),(196,.i a1.length),(195,.h 0),(16,.i t),(104,.i g.1),(103,.i j.length),(102,.h 1),(14,.i m.2),(13,.i l.1),(12,.i e.1),(7,.h 2),(6,.q 3 0),(4,.q 7 0),(3,.q 8 0),(2,.q 9 0)],[(0,rwI a1),(1,rwI j),(2,ROW rE70 70 G.2),(3,.bx 29 [lF qI v,lI 0,lH 4,lH 5,lH 6]),(4,rwI s.2),(5,rwI o),(6,ROW qT 112 Q.2),(7,.bx 29 [lN,lI 0,lN,lN,lN]),(8,.bx 29 (lx29 p1)),(9,.bx 29 (lx29 p0))],10⟩) c8 [] R ?_;intro Q j6 hm h3 g4;refine .sr (.bi R (.ns (.seq ?_)));exact .cc hm R (fun hm=> .sn (.seq (.block (.sr (bS hm fun b9 b1 hm=> .op (O.ir sl26 Z R R R b1 R) R (.op (O.ld nag3 Z R (.R R b1 lv3) R R) R (.an R (.reg (.fa yE R (.lb nag27 R (.mv R (.mv R (.mv R (.bu [lI e.1,lI t,lI b9] pl112 R (.bf (r:=qT) ([(e.1,t,b9)]:List (Int×Int×Int)) bs27 R (.c (.p .k (.p .k .k)) .n) R (bS hm fun k5 e5 hm=> .ap 10 underlying27 el112 R R (.fr R) e5 (.fa yE R (.st nag27.sz R (.nil (.blkN (.seqN (.reg (.bi R (.mv R (.nil ((h3 _ (oj hm)).sub [(6,10)] R)))))))))))))))))))))))))) fun hm=> .xx ((i2 _ (g4 _ (oj hm))).sub [(0,1),(1,2),(2,3),(3,4),(4,5),(5,6),(6,7),(7,8),(8,9)] R)
        refine .nlg qI 3 26 0 R R (.iter (fun (w:Int×LI×(List (Int×Int)))=>⟨[(173,.i w.1),(172,.i K.length),(171,.f rE70 K),(26,.h 0),(16,.i t),(104,.i g.1),(103,.i j.length),(102,.h 1),(14,.i m.2),(13,.i l.1),(12,.i e.1),(7,.h 2),(6,.q 3 0),(4,.q 7 0),(3,.q 8 0),(2,.q 9 0)],[(0,rwI w.2.1),(1,rwI j),(2,ROW rE70 70 w.2.2),(3,.bx 29 [lF qI v,lI 0,lH 4,lH 5,lH 6]),(4,rwI s.2),(5,rwI o),(6,ROW qT 112 g.2.2),(7,.bx 29 [lN,lI 0,lN,lN,lN]),(8,.bx 29 (lx29 p1)),(9,.bx 29 (lx29 p0))],10⟩) c7 [(0,10)] R ?_);intro w b8 hm h2 g3;refine .sr (.bi R (.ns (.seq ?_)));refine .cc hm R (fun hm=>?_) fun hm=> .xx ((i1 _ (g3 _ (oj hm))).s0 R);refine .sn (.seq (.block (.sr (bS hm fun x e6 hm=> .ix sl34 e6 R (.lg [lI x.1,lI x.2] ag70 R (.E lv70) R (.al 10 zz70 R (.st ag70.sz R (.nr (.mv R (.lg [lI x.1,lI x.2] ag70 R (.B R) R (bS hm fun k3 d7 hm=> .op (O.caZ (y5M d7) cf97 R R Z R ⟨⟨R,.hr R,trivial⟩,⟨R,LnL.rf⟩,trivial⟩ (fun _ _ _ _ _ h=>h) R) R (.an R ?_))))))))))));refine .join2 (fun (M:List (Int×Int)) (J:Int)=>y1a w M J=some b8) (fun M J=>⟨[(7,.h 0),(29,.i J),(173,.i w.1),(172,.i K.length),(171,.f rE70 K),(26,.h 1),(16,.i t),(104,.i g.1),(103,.i j.length),(102,.h 2),(14,.i m.2),(13,.i l.1),(12,.i e.1),(6,.q 3 0),(4,.q 7 0),(3,.q 8 0),(2,.q 9 0)],[(0,ROW rE70 70 M),(1,rwI w.2.1),(2,rwI j),(3,.bx 29 [lF qI v,lI 0,lH 4,lH 5,lH 6]),(4,rwI s.2),(5,rwI o),(6,ROW qT 112 g.2.2),(7,.bx 29 [lN,lI 0,lN,lN,lN]),(8,.bx 29 (lx29 p1)),(9,.bx 29 (lx29 p0))],10⟩) ?_ ?_
        · intro M J hm;exact .reg (.mv R (.mv R (.bf (r:=qI) ([J]:LI) bs26 R (.c .k .n) R (bS hm fun k6 e7 hm=> .ap 10 underlying26 el3 R R (.fr R) e7 (.sa R (.nil (.blkN (.seqN (.reg (.bi R (.mv R (.nil ((h2 _ (oj hm)).sub [(0,10),(1,2),(2,0)] R)))))))))))))
        · intro a7;refine .sv R (.bi R (.ns ?_));exact .cc hm R (fun hm=> .sv R (.lh sl34 R (.an R (.reg (.mv R (.lg [lI x.1,lI x.2] ag70 R (.B R) R (.bf (r:=rE70) ([x]:List (Int×Int)) bs34 R (.c (.p .k .k) .n) R (bS hm fun k7 e8 hm=> .ap 11 underlying34 el70 R R (.fr R) e8 (.sa R (.nil ((a7 _ _ hm).sub [(0,11),(1,0),(2,1)] R))))))))))) fun hm=> .skip ((a7 _ _ hm).sub [(0,2),(1,0),(2,1)] R)
      · intro a6;refine .sv R (.bi R (.ns ?_));refine .cc hm R (fun hm=>?_) fun hm=>?_
        ·refine .seq (.sr (.lg (lx29 p0) ag29 R (.B R) R (.mv R (.mv R (bS hm fun b3 d8 hm=> .c0 (y2q d8) cf93 R (.ln sl26 R (.mv R (.ns (.block (bS hm fun W c9 hm=>?_))))))))));refine .cut1 (z:= .exit 8) W (fun (W:(List (Int×Int)))=>⟨[(17,.h 0),(16,.i t),(104,.i g.1),(103,.i j.length),(102,.h 1),(14,.i m.2),(13,.i l.1),(12,.i e.1),(7,.h 2),(6,.q 3 0),(4,.q 7 0),(3,.q 8 0),(2,.q 9 0)],[(0,ROW rE70 70 W),(1,rwI j),(2,ROW rE70 70 g.2.1),(3,.bx 29 [lF qI v,lI 0,lH 4,lH 5,lH 6]),(4,rwI s.2),(5,rwI o),(6,ROW qT 112 g.2.2),(7,.bx 29 [lN,lI 0,lN,lN,lN]),(8,.bx 29 (lx29 p1)),(9,.bx 29 (lx29 p0))],10⟩) ?_ fun i3=>?_
         · skip
           refine .blkE (.seqN (.sr (.lg (lx29 p1) ag29 R (.B R) R (.mv R (.mv R (bS hm fun b4 d9 hm=> .c0 (y2q d9) cf93 R (.ln sl26 R (.mv R (.ns (.block (bS hm fun X d0 hm=>?_)))))))))));refine .cut1 (z:= .exit 10) X (fun (X:(List (Int×Int)))=>⟨[(17,.h 0),(16,.i t),(104,.i g.1),(103,.i j.length),(102,.h 1),(14,.i m.2),(13,.i l.1),(12,.i e.1),(7,.h 2),(6,.q 3 0),(4,.q 7 0),(3,.q 8 0),(2,.q 9 0)],[(0,ROW rE70 70 X),(1,rwI j),(2,ROW rE70 70 g.2.1),(3,.bx 29 [lF qI v,lI 0,lH 4,lH 5,lH 6]),(4,rwI s.2),(5,rwI o),(6,ROW qT 112 g.2.2),(7,.bx 29 [lN,lI 0,lN,lN,lN]),(8,.bx 29 (lx29 p1)),(9,.bx 29 (lx29 p0))],10⟩) ?_ fun i4=>?_
           · skip
             exact .blkE ((a6 _ hm).s0 R)
           refine .iter (fun (T:Int×(List (Int×Int)))=>⟨[(131,.i T.1),(130,.i b4.length),(129,.f qI b4),(17,.h 0),(16,.i t),(104,.i g.1),(103,.i j.length),(102,.h 1),(14,.i m.2),(13,.i l.1),(12,.i e.1),(7,.h 2),(6,.q 3 0),(4,.q 7 0),(3,.q 8 0),(2,.q 9 0)],[(0,ROW rE70 70 T.2),(1,rwI j),(2,ROW rE70 70 g.2.1),(3,.bx 29 [lF qI v,lI 0,lH 4,lH 5,lH 6]),(4,rwI s.2),(5,rwI o),(6,ROW qT 112 g.2.2),(7,.bx 29 [lN,lI 0,lN,lN,lN]),(8,.bx 29 (lx29 p1)),(9,.bx 29 (lx29 p0))],10⟩) d0 [] R ?_;intro T j8 hm h5 g6;refine .sr (.bi R (.ns (.seq ?_)));exact .cc hm R (fun hm=> .sn (.seq (.block (.sr (bS hm fun c1 e9 hm=> .ix sl26 e9 R (.le nag3 lv3 R (.an R (.reg (.mv R (.mv R (.mv R (.bu [lI l.1,lI c1] pl70 R (.bf (r:=rE70) ([(l.1,c1)]:List (Int×Int)) bs34 R (.c (.p .k .k) .n) R (bS hm fun k8 f0 hm=> .ap 10 underlying34 el70 R R (.fr R) f0 (.sa R (.nil (.blkN (.seqN (.reg (.bi R (.mv R (.nil ((h5 _ (oj hm)).sub [(0,10)] R))))))))))))))))))))))) fun hm=> .xx ((i4 _ (g6 _ (oj hm))).s0 R)
         refine .nlg rE70 70 17 0 R R (.iter (fun (S:Int×(List (Int×Int)))=>⟨[(115,.i S.1),(114,.i b3.length),(113,.f qI b3),(17,.h 0),(16,.i t),(104,.i g.1),(103,.i j.length),(102,.h 1),(14,.i m.2),(13,.i l.1),(12,.i e.1),(7,.h 2),(6,.q 3 0),(4,.q 7 0),(3,.q 8 0),(2,.q 9 0)],[(0,ROW rE70 70 S.2),(1,rwI j),(2,ROW rE70 70 g.2.1),(3,.bx 29 [lF qI v,lI 0,lH 4,lH 5,lH 6]),(4,rwI s.2),(5,rwI o),(6,ROW qT 112 g.2.2),(7,.bx 29 [lN,lI 0,lN,lN,lN]),(8,.bx 29 (lx29 p1)),(9,.bx 29 (lx29 p0))],10⟩) c9 [(0,9),(1,0),(2,1),(3,2),(4,3),(5,4),(6,5),(7,6),(8,7),(9,8)] R ?_);intro S j7 hm h4 g5;refine .sr (.bi R (.ns (.seq ?_)));exact .cc hm R (fun hm=> .sn (.seq (.block (.sr (bS hm fun c2 f1 hm=> .ix sl26 f1 R (.le nag3 lv3 R (.an R (.reg (.mv R (.mv R (.mv R (.bu [lI c2,lI m.2] pl70 R (.bf (r:=rE70) ([(c2,m.2)]:List (Int×Int)) bs34 R (.c (.p .k .k) .n) R (bS hm fun k9 f2 hm=> .ap 10 underlying34 el70 R R (.fr R) f2 (.sa R (.nil (.blkN (.seqN (.reg (.bi R (.mv R (.nil ((h4 _ (oj hm)).sub [(0,10)] R))))))))))))))))))))))) fun hm=> .xx ((i3 _ (g5 _ (oj hm))).s0 R)
        ·refine .sr (.lg (lx29 p0) ag29 R (.B R) R (.mv R (.mv R (bS hm fun H e0 hm=> .c0 (y2q e0) cf93 R (.ln sl26 R (.mv R (.ns (.block (bS hm fun Y d1 hm=>?_)))))))));refine .cut1 (z:= .exit 12) Y (fun (Y:(List (Int×Int)))=>⟨[(17,.h 0),(16,.i t),(104,.i g.1),(103,.i j.length),(102,.h 1),(14,.i m.2),(13,.i l.1),(12,.i e.1),(7,.h 2),(6,.q 3 0),(4,.q 7 0),(3,.q 8 0),(2,.q 9 0)],[(0,ROW rE70 70 Y),(1,rwI j),(2,ROW rE70 70 g.2.1),(3,.bx 29 [lF qI v,lI 0,lH 4,lH 5,lH 6]),(4,rwI s.2),(5,rwI o),(6,ROW qT 112 g.2.2),(7,.bx 29 [lN,lI 0,lN,lN,lN]),(8,.bx 29 (lx29 p1)),(9,.bx 29 (lx29 p0))],10⟩) ?_ fun i5=>?_
         · skip
           exact .blkE ((a6 _ hm).s0 R)
         refine .nlg rE70 70 17 0 R R (.iter (fun (y:Int×(List (Int×Int)))=>⟨[(147,.i y.1),(146,.i H.length),(145,.f qI H),(17,.h 0),(16,.i t),(104,.i g.1),(103,.i j.length),(102,.h 1),(14,.i m.2),(13,.i l.1),(12,.i e.1),(7,.h 2),(6,.q 3 0),(4,.q 7 0),(3,.q 8 0),(2,.q 9 0)],[(0,ROW rE70 70 y.2),(1,rwI j),(2,ROW rE70 70 g.2.1),(3,.bx 29 [lF qI v,lI 0,lH 4,lH 5,lH 6]),(4,rwI s.2),(5,rwI o),(6,ROW qT 112 g.2.2),(7,.bx 29 [lN,lI 0,lN,lN,lN]),(8,.bx 29 (lx29 p1)),(9,.bx 29 (lx29 p0))],10⟩) d1 [(0,9),(1,0),(2,1),(3,2),(4,3),(5,4),(6,5),(7,6),(8,7),(9,8)] R ?_);intro y j9 hm h6 g7;refine .sr (.bi R (.ns (.seq ?_)));refine .cc hm R (fun hm=>?_) fun hm=> .xx ((i5 _ (g7 _ (oj hm))).s0 R);refine .sn (.seq (.block (.sr (bS hm fun a3 f3 hm=> .ix sl26 f3 R (.le nag3 lv3 R (.an R (.sr (.lg (lx29 p1) ag29 R (.B R) R (.mv R (.mv R (bS hm fun b5 e1 hm=> .c0 (y2q e1) cf93 R (.ln sl26 R (.mv R (.ns (.block (bS hm fun a0 d2 hm=>?_))))))))))))))));refine .cut1 (z:= .exit 14) a0 (fun (a0:(List (Int×Int)))=>⟨[(147,.i y.1),(146,.i H.length),(145,.f qI H),(17,.h 0),(16,.i t),(104,.i g.1),(103,.i j.length),(102,.h 1),(14,.i m.2),(13,.i l.1),(12,.i e.1),(7,.h 2),(6,.q 3 0),(4,.q 7 0),(3,.q 8 0),(2,.q 9 0)],[(0,ROW rE70 70 a0),(1,rwI j),(2,ROW rE70 70 g.2.1),(3,.bx 29 [lF qI v,lI 0,lH 4,lH 5,lH 6]),(4,rwI s.2),(5,rwI o),(6,ROW qT 112 g.2.2),(7,.bx 29 [lN,lI 0,lN,lN,lN]),(8,.bx 29 (lx29 p1)),(9,.bx 29 (lx29 p0))],10⟩) ?_ fun i6=>?_
         · skip
           exact .blkE (.blkN (.seqN (.reg (.bi R (.mv R (.nil ((h6 _ (oj hm)).s0 R)))))))
         refine .iter (fun (U:Int×(List (Int×Int)))=>⟨[(156,.i U.1),(155,.i b5.length),(154,.f qI b5),(23,.i a3),(147,.i y.1),(146,.i H.length),(145,.f qI H),(17,.h 0),(16,.i t),(104,.i g.1),(103,.i j.length),(102,.h 1),(14,.i m.2),(13,.i l.1),(12,.i e.1),(7,.h 2),(6,.q 3 0),(4,.q 7 0),(3,.q 8 0),(2,.q 9 0)],[(0,ROW rE70 70 U.2),(1,rwI j),(2,ROW rE70 70 g.2.1),(3,.bx 29 [lF qI v,lI 0,lH 4,lH 5,lH 6]),(4,rwI s.2),(5,rwI o),(6,ROW qT 112 g.2.2),(7,.bx 29 [lN,lI 0,lN,lN,lN]),(8,.bx 29 (lx29 p1)),(9,.bx 29 (lx29 p0))],10⟩) d2 [] R ?_;intro U k0 hm h7 g8;refine .sr (.bi R (.ns (.seq ?_)));exact .cc hm R (fun hm=> .sn (.seq (.block (.sr (bS hm fun c3 f4 hm=> .ix sl26 f4 R (.le nag3 lv3 R (.an R (.reg (.mv R (.mv R (.mv R (.bu [lI a3,lI c3] pl70 R (.bf (r:=rE70) ([(a3,c3)]:List (Int×Int)) bs34 R (.c (.p .k .k) .n) R (bS hm fun l0 f5 hm=> .ap 10 underlying34 el70 R R (.fr R) f5 (.sa R (.nil (.blkN (.seqN (.reg (.bi R (.mv R (.nil ((h7 _ (oj hm)).sub [(0,10)] R))))))))))))))))))))))) fun hm=> .xx ((i6 _ (g8 _ (oj hm))).s0 R)
    · intro a5;refine .sr (.fa y2L R (.lb nag26 R (.mv R (bS hm fun k4 e2 hm=> .c0 (yU e2) cf41 R (.mv R (bS hm fun i8 eb475 hm=>?_))))));refine .cut 5 (fun (a2:Bool)=>i8=a2) (fun a2=>⟨[(92,.b a2),(14,.i m.2),(13,.i l.1),(12,.i e.1),(7,.h 0),(6,.q 1 0),(4,.q 5 0),(3,.q 6 0),(2,.q 7 0)],[(0,ROW rE70 70 e.2.1),(1,.bx 29 [lF qI v,lI 0,lH 2,lH 3,lH 4]),(2,rwI s.2),(3,rwI e.2.2.1),(4,ROW qT 112 e.2.2.2),(5,.bx 29 [lN,lI 0,lN,lN,lN]),(6,.bx 29 (lx29 p1)),(7,.bx 29 (lx29 p0))],8⟩) ?_ ?_
      · rintro _ rfl;exact .ns (.cc hm R (fun hm=> .reg (.fa y2L R (.lb nag26 R (.mv R (.bf (r:=qI) ([e.1]:LI) bs26 R (.c .k .n) R (bS hm fun l1 f6 hm=> .ap 8 underlying26 el3 R R (.fr R) f6 (.fa y2L R (.st nag26.sz R (.nil ((a5 _ hm).sub [(3,8)] R)))))))))) fun hm=> .skip ((a5 _ hm).s0 R))
      · intro b2;rcases ifS eb475 with ⟨hc,hm⟩|⟨hc,hm⟩
        · refine .know (d:=87) R hc ?_;exact .fag y2L R (.lbg nag26 R (.mg R (bS hm fun j3 e3 hm=> .op (O.ca0 (yU e3) cf41 R R (Gu.mk R R) R R R) R (.pT R ((b2 j3 (oj hm)).s0 R)))))
        · refine .know (d:=87) R hc ?_;exact .s2 R R (.s2 R R (.pF R ((b2 false (oj hm)).s0 R)))
  refine .nlg rE70 70 7 0 R R (.nlb qI 3 3 2 R R (.iter (fun (I:Int×(List (Int×Int))×LI)=>⟨[(41,.i I.1),(40,.i p0.2.2.1.length),(39,.f qI p0.2.2.1),(7,.h 0),(6,.q 1 0),(4,.q 3 0),(3,.q 4 0),(2,.q 5 0)],[(0,ROW rE70 70 I.2.1),(1,.bx 29 [lF qI v,lI 0,lH 2,lN,lN]),(2,rwI I.2.2),(3,.bx 29 [lN,lI 0,lN,lN,lN]),(4,.bx 29 (lx29 p1)),(5,.bx 29 (lx29 p0))],6⟩) i9 [(0,4),(1,3),(2,5),(3,2),(4,1),(5,0)] R ?_));intro I k2 hm j1 j0;refine .sr (.bi R (.ns (.seq ?_)));refine .cc hm R (fun hm=>?_) fun hm=> .xx ((j4 _ (j0 _ (oj hm))).s0 R);refine .sn (.seq (.block (.sr (bS hm fun a4 f7 hm=> .ix sl26 f7 R (.le nag3 lv3 R (.an R (.sr (.fa y2K R (.lb nag26 R (.ln sl26 R (.mv R (.ns (.block (bS hm fun P d3 hm=>?_))))))))))))));refine .cut1 (z:= .exit 2) P (fun (P:(List (Int×Int))×LI)=>⟨[(41,.i I.1),(40,.i p0.2.2.1.length),(39,.f qI p0.2.2.1),(7,.h 0),(6,.q 1 0),(4,.q 3 0),(3,.q 4 0),(2,.q 5 0)],[(0,ROW rE70 70 P.1),(1,.bx 29 [lF qI v,lI 0,lH 2,lN,lN]),(2,rwI P.2),(3,.bx 29 [lN,lI 0,lN,lN,lN]),(4,.bx 29 (lx29 p1)),(5,.bx 29 (lx29 p0))],6⟩) ?_ fun i7=>?_
  · skip
    exact .blkE (.blkN (.seqN (.reg (.bi R (.mv R (.nil ((j1 _ (oj hm)).s0 R)))))))
  refine .iter (fun (D:Int×(List (Int×Int))×LI)=>⟨[(48,.i D.1),(47,.i p1.2.2.1.length),(46,.f qI p1.2.2.1),(9,.i a4),(41,.i I.1),(40,.i p0.2.2.1.length),(39,.f qI p0.2.2.1),(7,.h 0),(6,.q 1 0),(4,.q 3 0),(3,.q 4 0),(2,.q 5 0)],[(0,ROW rE70 70 D.2.1),(1,.bx 29 [lF qI v,lI 0,lH 2,lN,lN]),(2,rwI D.2.2),(3,.bx 29 [lN,lI 0,lN,lN,lN]),(4,.bx 29 (lx29 p1)),(5,.bx 29 (lx29 p0))],6⟩) d3 [] R ?_;intro D k1 hm h8 g9;refine .sr (.bi R (.ns (.seq ?_)));refine .cc hm R (fun hm=>?_) fun hm=> .xx ((i7 _ (g9 _ (oj hm))).s0 R);refine .sn (.seq (.block (.sr (bS hm fun c4 f8 hm=> .ix sl26 f8 R (.le nag3 lv3 R (.an R (.sr (.fa y2K R (.lb nag26 R (.mv R (.lh sl34 R (.bf (r:=qI) ([(D.2.1.length:Int)]:LI) bs26 R (.c .k .n) R (bS hm fun l2 f9 hm=> .ap 6 underlying26 el3 R R (.fr R) f9 (.fa y2K R (.st nag26.sz R (.ns (.reg (.mv R (.mv R (.mv R (.bu [lI a4,lI c4] pl70 R (.bf (r:=rE70) ([(a4,c4)]:List (Int×Int)) bs34 R (.c (.p .k .k) .n) R (bS hm fun l4 g0 hm=> .ap 7 underlying34 el70 R R (.fr R) g0 (.sa R (.nil (.blkN (.seqN (.reg (.bi R (.mv R ?_))))))))))))))))))))))))))))));exact .nil ((h8 _ (oj hm)).sub [(0,7),(2,6)] R)
def y2F(p0:List (Int×Int))(p1:List (Int×Int))(a:Int):Option (Int⊕(Unit⊕Unit)):=
 if decide (a<(p0.length:Int)) then
  (idx p0 a).bind fun b=>
  (idx p1 a).bind fun c=>
  if(!(b==c)) then
   some (.inr (.inr (())))
  else
   some (.inl (W (a+1)))
 else
  some (.inr (.inl ()))
def y2m(p0:List (Int×Int))(p1:List (Int×Int)):Option Bool:=
 if((p0.length:Int) != (p1.length:Int)) then
  some false
 else
  (iter (y2F p0 p1) 0).bind fun a=>
  match a with
  | .inl b=>
   some true
  | .inr (c)=>
   some false
theorem y5N{p0:List (Int×Int)}{p1:List (Int×Int)}{r:Bool}(hm:y2m p0 p1=some r):
    F0 29 [.f rE70 p0,.f rE70 p1] [] (.b r) []:=by
  refine Fw.mk2 func29 ntmps29 R (fun C=>?_) R;refine .sr (.an R (.seq (.sv R (.ln sl34 R (.mv R (.ln sl34 R (.bi R (.ns ?_))))))));refine .cc hm R (fun hm=>?_) fun hm=>?_
  ·refine .sr (.an R (.ret (.seqR ?_)));cases hm;exact .r0 results29 (.tmp R .nil) R R
  ·refine .sn (.seq (.sv R (.ln sl34 R (.mv R (.ns (.block (bS hm fun o m hm=>?_)))))));refine .cutU (z:= .exit 0) (fun j=> .inl j=o) (fun (j:Unit)=>⟨[],[],0⟩) ?_ fun K7=>?_
   · rintro j rfl;dsimp only at hm;refine .blkE (.seqN (.sr (.an R (.ret ?_))));cases hm;exact .r0 results29 (.tmp R .nil) R R
   refine .cutU (z:= .ret) (fun k=> .inr (k)=o) (fun (k:Unit)=>⟨[(4,.b false)],[],0⟩) ?_ fun K9=>?_
   · rintro k rfl;dsimp only at hm;refine .blkR (.seqR ?_);cases hm;exact .r0 results29 (.tmp R .nil) R R
   refine .iter (fun (d:Int)=>⟨[(13,.i d),(12,.i p0.length),(0,.f rE70 p0),(1,.f rE70 p1)],[],0⟩) m [] R ?_;intro d p hm n e;refine .sr (.bi R (.ns (.seq ?_)));refine .cc hm R (fun hm=>?_) fun hm=> .xx ((K7 _ (e _ (oj hm))).s0 R);refine .sn (.seq (.block (.sv R (.an R (.seq ?_)))));refine .sub (τ:=⟨[(5,.i d),(13,.i d),(12,.i p0.length),(0,.f rE70 p0),(1,.f rE70 p1)],[],0⟩) ?_ [] R;refine bS hm fun a g hm=>bS hm fun c h hm=>?_;refine .drw [(0,[]),(0,[]),(0,[oT,oT]),(0,tT 3),(0,[]),(0,[]),(0,[oF,oF,oF,oF,oT,oT]),(0,fA 4 (tT 3)),(0,tT 8)] [_,_,_,_,_,_,_,_,_] ⟨[(24,.b (!(a==c))),(13,.i d),(12,.i p0.length),(0,.f rE70 p0),(1,.f rE70 p1)],[],0⟩ ⟨zM R,zM R,O.ix sl34 Z R R g R,O.lg (l':=[lI a.1,lI a.2]) ag70 Z R (.E lv70) R R R,zM R,zM R,O.ix sl34 Z R R h R,O.lg (l':=[lI c.1,lI c.2]) ag70 Z R (.E lv70) R R R,O.nes (us:=[.int .i64 a.1,.int .i64 a.2]) (vs:=[.int .i64 c.1,.int .i64 c.2]) (b:=(a==c)) (Eqs.pr underlying70 (by kernel_rfl) underlying3 (by kernel_rfl) (fun w=>nag3.agg w) a c) (by kernel_rfl) Z R R R R,trivial⟩ (by kernel_rfl) R ?_;exact .seqN (.cc hm R (fun hm=> .sr (.an R (.ret (.blkR (.seqR (.seqR ((K9 _ (e _ (oj hm))).s0 R))))))) fun hm=> .skip (.blkN (.seqN (.reg (.bi R (.mv R (.nil ((n _ (oj hm)).s0 R))))))))
def yM(p0:Int×Int×Int×Int×EdgL)(p1:Int×Int×Int×Int×EdgL):Option Bool:=
 (y3X).bind fun m=>
 if(!m) then
  some false
 else
  (y2B p0).bind fun i=>
  (y2B p1).bind fun j=>
  (y1z i j).bind fun c=>
  (y1Y i j).bind fun a=>
  (if (c.2.2 != 0) then
   some true
  else
   (y2C c.1 a.1).bind fun h=>
   some (!h)).bind fun k=>
  (if k then
   some true
  else
   (y2m c.2.1 a.2).bind fun g=>
   some (!g)).bind fun l=>
  if l then
   some false
  else
   (y2Z a.1).bind fun b=>
   (if (b.2==0) then
    (y1A a.1).bind fun e=>
    (yI b.1 e).bind fun f=>
    some f
   else
    some false).bind fun d=>
   some d
theorem y4p{p0:Int×Int×Int×Int×EdgL}{p1:Int×Int×Int×Int×EdgL}{r:Bool}(hm:yM p0 p1=some r):
    F0 6 [.a (lx24 p0),.a (lx24 p1)] [] (.b r) []:=by
  refine Fw.mk2 func6 ntmps6 R (fun C=>?_) R;refine .sr (.bo 0 R (.bo 1 R (.an R (.seq (.sr (bS hm fun P D hm=> .c0 (y7F D) cf11 R (.no R (.ns ?_))))))));refine .cc hm R (fun hm=>?_) fun hm=>?_
  ·refine .sr (.an R (.ret (.seqR ?_)));cases hm;exact .r0 results6 (.tmp R .nil) R R
  ·refine .sn (.seq ?_);refine .sub (τ:=⟨[(3,.q 1 0),(2,.q 0 0)],[(1,.bx 24 (lx24 p1)),(0,.bx 24 (lx24 p0))],2⟩) ?_ [] R;refine bS hm fun e E hm=>bS hm fun f F hm=>?_;refine .drz 12 [(4,10),(5,11)] [(2,[],[],[]),(2,[oT],[],[]),(2,[],[],[]),(6,tT 3,[],[]),(2,[],[],[]),(2,[],[],[]),(12,tT 6,[],[]),(12,tT 7,[],[(4,10)])] [_,_,_,_,_,_,_,_] ⟨[(6,.q 11 0),(5,.q 10 0)],[(11,.bx 29 [lH 6,lI f.2.1,lH 7,lH 8,lH 9]),(6,rwI f.1),(7,rwI f.2.2.1),(8,rwI f.2.2.2.1),(9,ROW qT 112 f.2.2.2.2),(10,.bx 29 [lH 2,lI e.2.1,lH 3,lH 4,lH 5]),(2,rwI e.1),(3,rwI e.2.2.1),(4,rwI e.2.2.2.1),(5,ROW qT 112 e.2.2.2.2)],12⟩ ⟨O.lg (l':=(lx24 p0)) ag24 Z R (.B R) R R R,O.ca (r':= .g [lH 2,lI e.2.1,lH 3,lH 4,lH 5]) [2,3,4,5] [(0,rwI e.1),(1,rwI e.2.2.1),(2,rwI e.2.2.2.1),(3,ROW qT 112 e.2.2.2.2)] (some 6) (y5d E) cf12 R R Z R R R R ⟨⟨_,R,I4⟩,⟨_,R,I4⟩,⟨_,R,I4⟩,⟨_,R,I4⟩,trivial⟩ I3 R,O.lg (l':=(lx24 p1)) ag24 Z R (.B R) R R R,O.ca (r':= .g [lH 6,lI f.2.1,lH 7,lH 8,lH 9]) [6,7,8,9] [(0,rwI f.1),(1,rwI f.2.2.1),(2,rwI f.2.2.2.1),(3,ROW qT 112 f.2.2.2.2)] (some 10) (y5d F) cf12 R R Z R R R R ⟨⟨_,R,I4⟩,⟨_,R,I4⟩,⟨_,R,I4⟩,⟨_,R,I4⟩,trivial⟩ I3 R,O.al 10 R zz29 R Z R,O.al 11 R zz29 R Z R,O.st ag29.sz Z R R R R R,O.st ag29.sz Z R R R R R,trivial⟩ (by kernel_rfl) R ?_;refine .seqN (.sr (.lg [lH 2,lI e.2.1,lH 3,lH 4,lH 5] ag29 R (.B R) R (.lg [lH 6,lI f.2.1,lH 7,lH 8,lH 9] ag29 R (.B R) R (bS hm fun j G hm=> .op (O.caY (r':= .tp [.a [lH 12,lI j.1.2.1,lH 13,lH 14,lH 15],.h 16,.i j.2.2]) [12,13,14,15,16] [(0,rwI j.1.1),(1,rwI j.1.2.2.1),(2,rwI j.1.2.2.2.1),(3,ROW qT 112 j.1.2.2.2.2),(4,ROW rE70 70 j.2.1)] (some 17) (y4T G) cf14 R R Z R R ⟨⟨R,.hr R,.rf,.hr R,.hr R,.hr R,trivial⟩,⟨R,.hr R,.rf,.hr R,.hr R,.hr R,trivial⟩,trivial⟩ R ⟨.row flr3,.row flr3,.row flr3,.row yep,.row flr70,trivial⟩ (fun _ _ _ _ h=>h) ⟨⟨_,R,I4⟩,⟨_,R,I4⟩,⟨_,R,I4⟩,⟨_,R,I4⟩,⟨_,R,I4⟩,trivial⟩ I3 R) R (.mv R (.ex R (.ex R (.ex R (.al 17 zz29 R (.st ag29.sz R (.sa R (.an R (.sr (.lg [lH 2,lI e.2.1,lH 3,lH 4,lH 5] ag29 R (.B R) R (.lg [lH 6,lI f.2.1,lH 7,lH 8,lH 9] ag29 R (.B R) R (.fz 2 [28] [10] R R fR R R (.fz 3 [28] [10] R R fR R R (.fz 4 [28] [10] R R fR R R (.fz 5 [28] [10] R R fR R R (.fz 6 [29] [11] R R fR R R (.fz 7 [29] [11] R R fR R R (.fz 8 [29] [11] R R fR R R (.fz 9 [29] [11] R R fR R R (bS hm fun c H hm=> .cm (r':= .tp [.a [lF qI c.1.1,lI c.1.2.1,lH 18,lH 19,lH 20],.h 21]) [18,19,20,21] [(0,rwI c.1.2.2.1),(1,rwI c.1.2.2.2.1),(2,ROW qT 112 c.1.2.2.2.2),(3,ROW rE70 70 c.2)] (some 22) (y6N H) cf28 R ⟨⟨_,R,I4⟩,⟨_,R,I4⟩,⟨_,R,I4⟩,⟨_,R,I4⟩,trivial⟩ R (.mv R (.ex R (.ex R (.al 22 zz29 R (.st ag29.sz R (.an R (.seq ?_)))))))))))))))))))))))))))))));refine .sv R (.bi R (.mv R (bS hm fun M eb6 hm=>?_)));refine .cut 5 (fun (x:Bool)=>M=x) (fun x=>⟨[(40,.b x),(11,.h 21),(10,.q 22 0),(8,.h 16)],[(21,ROW rE70 70 c.2),(22,.bx 29 [lF qI c.1.1,lI c.1.2.1,lH 18,lH 19,lH 20]),(18,rwI c.1.2.2.1),(19,rwI c.1.2.2.2.1),(20,ROW qT 112 c.1.2.2.2.2),(16,ROW rE70 70 j.2.1)],23⟩) ?_ ?_
   · rintro _ rfl;refine .mv R (bS hm fun N eb9 hm=>?_);refine .cut 5 (fun (k:Bool)=>N=k) (fun k=>⟨[(46,.b k),(10,.q 22 0)],[(22,.bx 29 [lF qI c.1.1,lI c.1.2.1,lH 18,lH 19,lH 20]),(18,rwI c.1.2.2.1),(19,rwI c.1.2.2.2.1),(20,ROW qT 112 c.1.2.2.2.2)],23⟩) ?_ ?_
     · rintro _ rfl;refine .ns ?_;refine .cc hm R (fun hm=>?_) fun hm=>?_
       ·refine .sr (.an R (.ret (.seqR ?_)));cases hm;exact .r0 results6 (.tmp R .nil) R R
       ·refine .sn (.sr (.lg [lF qI c.1.1,lI c.1.2.1,lH 18,lH 19,lH 20] ag29 R (.B R) R (bS hm fun p s hm=> .op (O.caY (r':= .tp [.h 23,.i p.2]) [23] [(0,rwI p.1)] (some 24) (y7q s) cf15 R R Z R R ⟨⟨R,.rf,.rf,.hr R,.hr R,.hr R,trivial⟩,trivial⟩ R ⟨.row flr3,trivial⟩ (fun _ _ _ _ h=>h) ⟨⟨_,R,I4⟩,trivial⟩ I3 R) R (.mv R (.ex R (.ex R (.sa R (.an R (.sv R (.bi R (.mv R (bS hm fun z eb13 hm=>?_))))))))))));refine .cut 5 (fun (m:Bool)=>z=m) (fun m=>⟨[(59,.b m)],[],25⟩) ?_ ?_
        · rintro _ rfl;refine .an R (.ret ?_);cases hm;exact .r0 results6 (.tmp R .nil) R R
        · intro o;rcases ifS eb13 with ⟨hc,hm⟩|⟨hc,hm⟩
          · refine .know (d:=54) R hc ?_;exact .mg R (.op (O.lg (l':=[lF qI c.1.1,lI c.1.2.1,lH 18,lH 19,lH 20]) ag29 (Gu.mk R R) R (.B R) R R R) R (bS hm fun I t hm=> .op (O.caY (r':= .h 24) [24] [(0,rwI I)] (some 25) (y7H t) cf30 R R (Gu.mk R R) R R ⟨⟨R,.rf,.rf,.hr R,.hr R,.hr R,trivial⟩,trivial⟩ R ⟨.row flr3,trivial⟩ (fun _ _ _ _ h=>h) ⟨⟨_,R,I4⟩,trivial⟩ I3 R) R (bS hm fun J u hm=> .op (O.caZ (y1N u) cf21 R R (Gu.mk R R) R ⟨⟨R,.hr R,trivial⟩,⟨R,.hr R,trivial⟩,trivial⟩ (fun _ _ _ _ _ h=>h) R) R (.pT R ((o J (oj hm)).s0 R)))))
          · refine .know (d:=54) R hc ?_;exact .s2 R R (.s2 R R (.pF R ((o false (oj hm)).s0 R)))
     · intro n;rcases ifS eb9 with ⟨hc,hm⟩|⟨hc,hm⟩
       · refine .know (d:=41) R hc ?_;exact .s2 R R (.s2 R R (.pT R ((n true (oj hm)).s0 R)))
       · refine .know (d:=41) R hc ?_;exact .mg R (.mg R (bS hm fun K v hm=> .op (O.caZ (y5N v) cf29 R R (Gu.mk R R) R ⟨⟨R,.hr R,trivial⟩,⟨R,.hr R,trivial⟩,trivial⟩ (fun _ _ _ _ _ h=>h) R) R (.op (O.not (Gu.mk R R) R R) R (.pF R ((n (!K) (oj hm)).s0 R)))))
   · intro y;rcases ifS eb6 with ⟨hc,hm⟩|⟨hc,hm⟩
     · refine .know (d:=35) R hc ?_;exact .s2 R R (.s2 R R (.pT R ((y true (oj hm)).s0 R)))
     · refine .know (d:=35) R hc ?_;exact .op (O.lg (l':=[lH 12,lI j.1.2.1,lH 13,lH 14,lH 15]) ag29 (Gu.mk R R) R (.B R) R R R) R (.op (O.lg (l':=[lF qI c.1.1,lI c.1.2.1,lH 18,lH 19,lH 20]) ag29 (Gu.mk R R) R (.B R) R R R) R (bS hm fun L w hm=> .op (O.caZ (y6x w) cf26 R R (Gu.mk R R) R ⟨⟨R,.hr R,.rf,.hr R,.hr R,.hr R,trivial⟩,⟨R,.rf,.rf,.hr R,.hr R,.hr R,trivial⟩,trivial⟩ (fun _ _ _ _ _ h=>h) R) R (.op (O.not (Gu.mk R R) R R) R (.pF R ((y (!L) (oj hm)).s0 R)))))
end
end
section
open Go.Proofs.Tryz
def Evs(u:LI):Prop:=∀e∈u,0≤e∧e<32
theorem Evs.snoc{u:LI}{e:Int}(h:Evs u)(h0:0≤e)(h1:e<32):Evs (u++[e]):=by
 intro x hx;rcases yMa.1 hx with h2|h2
 ·exact h x h2
 ·rw [yMs.1 h2];exact⟨h0,h1⟩
theorem Evs.of_snoc{u:LI}{e:Int}(h:Evs (u++[e])):Evs u∧0≤e∧e<32:=
 ⟨fun x hx=>h x (yMl _ hx),h e (by simp)⟩
def Leads(es:List Ed)(perm:Ed→Bool)(s:Int):LI→Int→Prop
 | [],t=>s=t
 | e::u,t=>∃x∈es,x.f=s∧x.e=e∧perm x=true∧Leads es perm x.t u t
theorem Leads.snoc{es:List Ed}{perm:Ed→Bool}:∀{u:LI} {s t:Int},Leads es perm s u t→∀{x:Ed},x∈es→x.f=t→perm x=true→Leads es perm s (u++[x.e]) x.t
 | [],s,t,h,x,hx,hf,hp=>⟨x,hx,by rw [hf];exact h.symm,rfl,hp,rfl⟩
 | e::u,s,t,⟨y,hy,h1,h2,h3,h4⟩,x,hx,hf,hp=>⟨y,hy,h1,h2,h3,h4.snoc hx hf hp⟩
theorem Leads.of_snoc{es:List Ed}{perm:Ed→Bool}{e:Int}:∀{u:LI} {s t:Int},Leads es perm s (u++[e]) t→∃x∈es,Leads es perm s u x.f∧x.e=e∧x.t=t∧perm x=true
 | [],s,t,⟨y,hy,h1,h2,h3,h4⟩=>⟨y,hy,h1.symm,h2,h4,h3⟩
 | a::u,s,t,⟨y,hy,h1,h2,h3,h4⟩=>by
  obtain⟨x,hx,g1,g2,g3,g4⟩:=Leads.of_snoc (u:=u) h4;exact⟨x,hx,⟨y,hy,h1,h2,h3,g1⟩,g2,g3,g4⟩
def EvEs(es:List Ed):Prop:=∀x∈es,0≤x.e∧x.e<32
def edLt(x y:Ed):Prop:=x.f<y.f∨(x.f=y.f∧x.e<y.e)
def ycm(es:List Ed):Prop:=es.Pairwise edLt
def y9J(es:List Ed)(tg:LI):Nat→Int→Prop
 | 0,s=>s∈tg
 | k+1,s=>∃x∈es,x.f=s∧y9J es tg k x.t
end
section
open Go.Proofs.Tryz Go Go.RowKit
noncomputable section
theorem W_of{x:Int}(h0: -9223372036854775808≤x)(h1:x<9223372036854775808):W x=x:=IntWalk.i64_in _ (by omega)
theorem W_nat{k:Nat}(h:k<9223372036854775808):W (k:Int)=k:=W_of (by omega) (by omega)
theorem yg{α:Type}{xs:List α}{i:Nat}(h:i<xs.length):idx xs (i:Int)=some xs[i]:=by rw [yfM,yGe h]
theorem y5o{S O:Type}{f:S→Option (S⊕O)}{s:S}{o:O}{n:Nat}(hn:n≤18446744073709551616)(h:iterF f n s=some o):iter f s=some o:=by
 have mono:∀(n m:Nat) (s:S),n≤m→iterF f n s=some o→iterF f m s=some o:=by
  intro n
  induction n with
  | zero=>intro m s _ h;cases h
  | succ n ih=>
   intro m s hm h;obtain⟨k,rfl⟩:∃k,m=k+1:=⟨m-1,by omega⟩;rw [yn] at h ⊢;split at h
   ·cases h
   ·rename_i h1;exact ih k _ (by omega) h
   ·rename_i h1;exact h
 exact mono n _ s hn h
theorem yo{S O:Type}{f:S→Option (S⊕O)}(P:Nat→S→Prop)(Q:O→Prop):∀(n i:Nat),n<i+18446744073709551616→(∀i s,i<n→P i s→(∃s',f s=some (.inl s')∧P (i+1) s')∨∃o,f s=some (.inr o)∧Q o)→(∀s,P n s→∃o,f s=some (.inr o)∧Q o)→i≤n→
  ∀s,P i s→∃o,iter f s=some o∧Q o:=by
 have key:∀(n:Nat),(∀i s,i<n→P i s→(∃s',f s=some (.inl s')∧P (i+1) s')∨∃o,f s=some (.inr o)∧Q o)→(∀s,P n s→∃o,f s=some (.inr o)∧Q o)→∀(j i:Nat),i+j=n→∀s,P i s→∃o,iterF f (j+1) s=some o∧Q o:=by
  intro n step fin j
  induction j with
  | zero=>
   intro i hi s h;obtain rfl:i=n:=by omega
   obtain⟨o,h1,h2⟩:=fin s h;exact⟨o,by rw [yn,h1],h2⟩
  | succ j ih=>
   intro i hi s h;rcases step i s (by omega) h with ⟨s',h1,h2⟩|⟨o,h1,h2⟩
   ·obtain ⟨o,h3,h4⟩:=ih (i+1) (by omega) s' h2;exact⟨o,by rw [yn,h1];exact h3,h4⟩
   ·exact ⟨o,by rw [yn,h1],h2⟩
 intro n i hn step fin hi s h;obtain⟨o,h1,h2⟩:=key n step fin (n-i) i (by omega) s h;exact⟨o,y5o (by omega) h1,h2⟩
theorem nxt{i:Nat}(h:i<4611686018427387904):W ((i:Int)+1)=((i+1:Nat):Int):=by rw [show (i:Int)+1=((i+1:Nat):Int) by omega,W_nat (by omega)]
theorem ct_lt{i n:Nat}(h:i<n):decide ((i:Int)<(n:Int))=true:=by simp;omega
theorem ct_ge{n:Nat}:¬decide ((n:Int)<(n:Int))=true:=by simp
theorem yfg{xs:LI}(h:xs.length≤4294967296):yi xs=some xs:=by
 rw [yi,ydO (by simpa using h)];rfl
def errO(e:Int):Unit⊕Int:=if e=0 then .inl () else .inr e
theorem ycJ{xs:LI}{n:Int}(hl:xs.length<4611686018427387904):∀(j i:Nat),i+j=xs.length→
  iterF (y1P xs n) (j+1) (i:Int)=some (errO (yh n (y3a xs i) (xs.drop i))):=by
 intro j
 induction j with
 | zero=>
  intro i hi;have e:xs.drop i= []:=List.drop_of_length_le (by omega);rw [yn,y1P,iN (by simp;omega),e];rfl
 | succ j ih=>
  intro i hi;have hlt:i<xs.length:=by omega
  rw [yn,y1P,iP (by simp;omega),yg hlt,yOb];by_cases h1:xs[i]<0∨n≤xs[i]
  ·rw [iP (by simpa using h1),y9Y hlt h1];rfl
  ·rw [iN (by simpa using h1)];by_cases h0:0<i
   ·rw [iP (by simp;omega),show(i:Int)-1=((i-1:Nat):Int) by omega,W_nat (by omega),yg (show i-1<xs.length by omega),yOb,yOb];by_cases h2:xs[i]≤xs[i-1]
    ·rw [iP (by simpa using h2),y9Z hlt h1 h0 h2];rfl
    ·rw [iN (by simpa using h2),show(i:Int)+1=((i+1:Nat):Int) by omega,W_nat (by omega),y5Q hlt h1 (fun _=>by omega)];exact ih (i+1) (by omega)
   ·rw [iN (by simp;omega),yOb,iN (by simp),show(i:Int)+1=((i+1:Nat):Int) by omega,W_nat (by omega),y5Q hlt h1 (fun h=>absurd h h0)];exact ih (i+1) (by omega)
theorem y9W{xs:LI}{n:Int}(hl:xs.length<4611686018427387904):yW xs n=some (yh n none xs):=by
 have h:iter (y1P xs n) 0=some (errO (yh n none xs)):=y5o (by omega) (ycJ (n:=n) hl xs.length 0 (by omega));rw [yW,h,yOb];by_cases h0:yh n none xs=0
 ·rw [h0];rfl
 ·rw [errO,iN h0]
theorem yfh{xs:LI}{x:Int}(hl:xs.length<4611686018427387904):∀(j i:Nat),i+j=xs.length→
  ∃o,iterF (y2n xs x) (j+1) (i:Int)=some o∧((o= .inl ()∧x∉xs.drop i)∨∃k:Nat,i≤k∧o= .inr (k:Int)∧x∈xs.drop i):=by
 intro j
 induction j with
 | zero=>
  intro i hi;have e:xs.drop i= []:=List.drop_of_length_le (by omega);refine⟨.inl (),?_,.inl ⟨rfl,by rw [e];simp⟩⟩;rw [yn,y2n,iN (by simp;omega)]
 | succ j ih=>
  intro i hi;have hlt:i<xs.length:=by omega
  rw [yn,y2n,iP (by simp;omega),yg hlt,yOb];by_cases h1:x=xs[i]
  ·rw [iP (by simpa using h1)];exact⟨_,rfl,.inr ⟨i,yNr _,rfl,by rw [yDc hlt,h1];exact yMc⟩⟩
  ·rw [iN (by simpa using h1),show(i:Int)+1=((i+1:Nat):Int) by omega,W_nat (by omega)];obtain⟨o,h2,h3⟩:=ih (i+1) (by omega);refine⟨o,h2,?_⟩;rw [yDc hlt];rcases h3 with ⟨h4,h5⟩|⟨k,h4,h5,h6⟩
   ·exact .inl ⟨h4,fun hc=>(yMo.1 hc).elim h1 h5⟩
   ·exact .inr ⟨k,by omega,h5,yMm _ h6⟩
theorem y4g{xs:LI}{x:Int}(hl:xs.length<4611686018427387904):ym xs x=some (hasB xs x):=by
 obtain⟨o,h1,h2⟩:=yfh (x:=x) hl xs.length 0 (by omega);have h:iter (y2n xs x) 0=some o:=y5o (by omega) h1;rw [ym,y4C,h,yOb];rcases h2 with ⟨rfl,h4⟩|⟨k,_,rfl,h4⟩
 ·rw [y5s.2 (by simpa using h4)];rfl
 ·rw [yD.2 (by simpa using h4)];show some (decide ((k:Int)≥0))=some true;simp
def edP(x:Ed):Int×Int×Int:=(x.f,x.e,x.t)
def autP(a:Aut):LI×Int×LI×List (Int×Int×Int):=(a.al,a.n,a.ms,a.es.map edP)
def prevE(es:List Ed)(k:Nat):Option Ed:=if k=0 then none else es[k-1]?
theorem ycK{al:LI}{n:Int}{es:List Ed}{k:Nat}(hk:k<es.length):edErr al n (prevE es k) (es.drop k)=
  if(es[k].f<0∨n≤es[k].f∨es[k].t<0∨n≤es[k].t) then 2 else if hasB al es[k].e=false then 9 else if(∃q,prevE es k=some q∧(es[k].f<q.f∨(es[k].f=q.f∧es[k].e≤q.e))) then 5 else edErr al n (prevE es (k+1)) (es.drop (k+1)):=by
 rw [yDc hk,edErr];congr 3;simp [prevE,yGe hk]
theorem yfi{a:Aut}(hl:a.es.length<4611686018427387904)(hal:a.al.length<4611686018427387904):∀(j i:Nat),i+j=a.es.length→
  iterF (y1p (autP a)) (j+1) (i:Int)=some (errO (edErr a.al a.n (prevE a.es i) (a.es.drop i))):=by
 have hlen:(autP a).2.2.2.length=a.es.length:=by simp [autP]
 have hat:∀(i:Nat) (h:i<a.es.length),idx (autP a).2.2.2 (i:Int)=some (edP a.es[i]):=fun i h=>by
  rw [yg (by rw [hlen];exact h)];simp [autP]
 intro j
 induction j with
 | zero=>
  intro i hi;have e:a.es.drop i= []:=List.drop_of_length_le (by omega);rw [yn,y1p,iN (by rw [hlen];simp;omega),e];rfl
 | succ j ih=>
  intro i hi;have hlt:i<a.es.length:=by omega
  have hnext:y1o (i:Int)=some (.inl ((i+1:Nat):Int)):=by
   rw [y1o,show(i:Int)+1=((i+1:Nat):Int) by omega,W_nat (by omega)]
  rw [yn,y1p,iP (by rw [hlen];simp;omega),hat i hlt,yOb,ycK hlt];by_cases h1:a.es[i].f<0∨a.n≤a.es[i].f∨a.es[i].t<0∨a.n≤a.es[i].t
  ·rw [iP (by simp only [Bool.or_eq_true,decide_eq_true_eq];show((a.es[i].f<0∨a.es[i].f≥a.n)∨a.es[i].t<0)∨a.es[i].t≥a.n;omega),iP h1];rfl
  ·rw [iN (by simp only [Bool.or_eq_true,decide_eq_true_eq];show ¬(((a.es[i].f<0∨a.es[i].f≥a.n)∨a.es[i].t<0)∨a.es[i].t≥a.n);omega),iN h1];rw [show ym (autP a).1 (edP a.es[i]).2.1=some (hasB a.al a.es[i].e) from y4g hal,yOb];cases h2:hasB a.al a.es[i].e with
   | false=>rfl
   | true=>
    rw [iN (show ¬(!true)=true by simp),iN (show ¬(true=false) by simp)];by_cases h0:i=0
    ·subst h0;rw [iP (by simp),hnext,iN (by rintro⟨q,hq,_⟩;simp [prevE] at hq)];exact ih 1 (by omega)
    ·have hp:prevE a.es i=some a.es[i-1]:=by rw [prevE,iN h0,yGe (by omega)]
     rw [iN (by simp;omega),show(i:Int)-1=((i-1:Nat):Int) by omega,W_nat (by omega),hat (i-1) (by omega),yOb];by_cases h3:a.es[i].f<a.es[i-1].f∨(a.es[i].f=a.es[i-1].f∧a.es[i].e≤a.es[i-1].e)
     ·rw [iP (by simp only [Bool.or_eq_true,yAe,decide_eq_true_eq,beq_iff_eq];exact h3),iP ⟨_,hp,h3⟩];rfl
     ·rw [iN (by simp only [Bool.or_eq_true,yAe,decide_eq_true_eq,beq_iff_eq];exact h3),hnext,iN (by rintro⟨q,hq,h4⟩;rw [hp] at hq;cases hq;exact h3 h4)];exact ih (i+1) (by omega)
theorem yfj{a:Aut}(hl:a.es.length<4611686018427387904)(hal:a.al.length<4611686018427387904)(hms:a.ms.length<4611686018427387904):y2E (autP a)=some a.err:=by
 have h:iter (y1p (autP a)) 0=some (errO (edErr a.al a.n none a.es)):=y5o (by omega) (yfi hl hal a.es.length 0 (by omega));have he:y2W (autP a)=some (edErr a.al a.n none a.es):=by
  rw [y2W,h,yOb];by_cases h0:edErr a.al a.n none a.es=0
  ·rw [h0];rfl
  ·rw [errO,iN h0]
 rw [y2E,show yW (autP a).1 32=some (yh 32 none a.al) from y9W hal,yOb,Aut.err];by_cases h1:(yh 32 none a.al != 0)=true
 ·rw [iP h1,iP h1]
 ·rw [iN h1,iN h1];by_cases h2:a.n<0
  ·rw [iP (show decide ((autP a).2.1<0)=true from decide_eq_true h2),iP h2]
  ·rw [iN (show ¬decide ((autP a).2.1<0)=true from fun e=>h2 (of_decide_eq_true e)),iN h2];by_cases h3:4096<a.n
   ·rw [iP (show decide ((autP a).2.1>4096)=true from decide_eq_true h3),iP h3]
   ·rw [iN (show ¬decide ((autP a).2.1>4096)=true from fun e=>h3 (of_decide_eq_true e)),iN h3,show yW (autP a).2.2.1 (autP a).2.1=some (yh a.n none a.ms) from y9W hms,yOb];by_cases h4:(yh a.n none a.ms != 0)=true
    ·rw [iP h4,iP h4]
    ·rw [iN h4,iN h4,he];rfl
abbrev Inc(xs:LI):Prop:=xs.Pairwise (· < ·)
theorem ydc{i j:Nat}(h:i+j<9223372036854775808):W ((IntKind.u64.wrap (W ((i:Int)+(j:Int)))).fdiv (2 ^ (min (1:Int).toNat 64)))=(((i+j)/2:Nat):Int):=by
 rw [W_of (x:=(i:Int)+j) (by omega) (by omega),IntWalk.u64_in _ (by omega),show(2:Int) ^ (min (1:Int).toNat 64)=2 from rfl,Int.fdiv_eq_ediv_of_nonneg _ (by omega),W_of (by omega) (by omega)];omega
theorem yg6(x y:Int):y4K x y=some (decide (x<y)):=by
 rw [y4K,show y1n x=some false by rw [y1n];simp,yOb,iN (by simp),yOb,Bool.false_or]
theorem ygB{xs:LI}{t:Int}(hl:xs.length<4294967296)(hs:Inc xs):∀(f i j:Nat),j≤i+f→i≤j→j≤xs.length→(∀k (h:k<xs.length),k<i→xs[k]<t)→(∀k (h:k<xs.length),j≤k→t≤xs[k])→
  ∃p:Nat,iterF (yR xs t) (f+1) ((j:Int),(i:Int))=some (p:Int)∧p≤xs.length∧(∀k (h:k<xs.length),k<p→xs[k]<t)∧(∀k (h:k<xs.length),p≤k→t≤xs[k]):=by
 intro f
 induction f with
 | zero=>
  intro i j h1 h2 h3 h4 h5;refine⟨i,?_,by omega,h4,fun k h hk=>h5 k h (by omega)⟩;rw [yn,yR,iN (by simp;omega)]
 | succ f ih=>
  intro i j h1 h2 h3 h4 h5;rw [yn,yR];dsimp only;by_cases hij:i<j
  ·have hm:(i+j)/2<xs.length:=by omega
   rw [iP (by simp;omega),ydc (by omega),yg hm,yOb,yg6,yOb];have mono:∀(a b:Nat) (ha:a<xs.length) (hb:b<xs.length),a≤b→xs[a]≤xs[b]:=fun a b ha hb hab=>by
    rcases Nat.lt_or_ge a b with h|h
    ·exact Int.le_of_lt (yPg.1 hs a b ha hb h)
    ·have:a=b:=by omega
     subst this;exact Int.le_refl _
   by_cases hc:xs[(i+j)/2]<t
   ·rw [iP (decide_eq_true hc),show(((i+j)/2:Nat):Int)+1=(((i+j)/2+1:Nat):Int) by omega,W_nat (by omega)];exact ih _ j (by omega) (by omega) h3 (fun k h hk=>by have:=mono k _ h hm (by omega);omega) h5
   ·rw [iN (by simpa using hc)];exact ih i _ (by omega) (by omega) (by omega) h4 (fun k h hk=>by have:=mono _ k hm h hk;omega)
  ·rw [iN (by simp;omega)];exact⟨i,rfl,by omega,h4,fun k h hk=>h5 k h (by omega)⟩
theorem y4H{xs:LI}{t:Int}(hl:xs.length<4294967296)(hs:Inc xs):yk xs t=some (hasB xs t):=by
 obtain⟨p,hp,hle,hlo,hhi⟩:=ygB (t:=t) hl hs xs.length 0 xs.length (by omega) (by omega) (by omega) (fun k h hk=>absurd hk (by omega)) (fun k h hk=>absurd hk (by omega));have hi:iter (yR xs t) ((xs.length:Int),0)=some (p:Int):=y5o (by omega) hp;rw [yk,y3j,hi,yOb];by_cases hlt:p<xs.length
 ·rw [iP (by simpa using hlt),yg hlt,yOb];by_cases he:xs[p]=t
  ·rw [iP (by simpa using he)];show some true=_;rw [yD.2 (he▸yGm hlt)]
  ·rw [iN (by simpa using he),yOb,show y3b xs[p]=some false by rw [y3b];simp,yOb,iN (by simp)];show some false=_;rw [y5s.2];intro hm;obtain⟨k,hk,hk2⟩:=List.getElem_of_mem hm;rcases Nat.lt_trichotomy k p with h|h|h
   ·have:=hlo k hk h;omega
   ·subst h;exact he hk2
   ·have:=hhi p hlt (yNr _);have:=yPg.1 hs p k hlt hk h;omega
 ·rw [iN (by simpa using hlt)];show some false=_;rw [y5s.2];intro hm;obtain⟨k,hk,hk2⟩:=List.getElem_of_mem hm;have:=hlo k hk (by omega);omega
theorem y9v{n:Int}:∀{p:Option Int} {xs:LI},xs.Pairwise (· < ·)→(∀x∈xs,0≤x∧x<n)→(∀q,p=some q→∀x∈xs,q<x)→yh n p xs=0
 | _,[],_,_,_=>rfl
 | p,x::xs,h,hr,hp=>by
  obtain⟨h1,h2⟩:=yPc.1 h;have h3:=hr x (yMc ..);rw [yh,iN (by omega),iN ?_]
  ·exact y9v h2 (fun y hy=>hr y (yMm _ hy)) (fun q hq y hy=>by cases hq;exact h1 y hy)
  ·rintro ⟨q,hq,hle⟩;have:=hp q hq x (yMc ..);omega
theorem ycn{al:LI}{n:Int}:∀{p:Option Ed} {es:List Ed},ycm es→(∀x∈es,0≤x.f∧x.f<n∧0≤x.t∧x.t<n∧hasB al x.e=true)→(∀q,p=some q→∀x∈es,edLt q x)→edErr al n p es=0
 | _,[],_,_,_=>rfl
 | p,x::xs,h,hr,hp=>by
  obtain⟨h1,h2⟩:=yPc.1 h;have h3:=hr x (yMc ..);rw [edErr,iN (by omega),iN (by rw [h3.2.2.2.2];simp),iN ?_]
  ·exact ycn h2 (fun y hy=>hr y (yMm _ hy)) (fun q hq y hy=>by cases hq;exact h1 y hy)
  ·rintro ⟨q,hq,hle⟩;have:=hp q hq x (yMc ..);unfold edLt at this;omega
theorem ydB(a:AutT):autP (toAut a)=a:=by
 obtain⟨x,y,z,es⟩:=a;simp only [autP,toAut,List.map_map];rw [show (edP∘toEd)=id from rfl,List.map_id]
structure Right (a:AutT) (n:Nat):Prop where
 nn:a.2.1=(n:Int)
 nl:n≤4096
 ali:Inc a.1
 alr:∀x∈a.1,0≤x∧x<32
 msi:Inc a.2.2.1
 msr:∀x∈a.2.2.1,0≤x∧x<(n:Int)
 es:∀x∈a.2.2.2,0≤x.1∧x.1<(n:Int)∧0≤x.2.2∧x.2.2<(n:Int)∧x.2.1∈a.1
 so:a.2.2.2.Pairwise fun x y=>x.1<y.1∨(x.1=y.1∧x.2.1<y.2.1)
 l1:a.1.length≤1000000
 l2:a.2.2.1.length≤1000000
 l3:a.2.2.2.length≤1000000
namespace Right
variable{a:AutT}{n:Nat}
theorem sorted(h:Right a n):ycm (a.2.2.2.map toEd):=by
 unfold ycm;rw [List.pairwise_map];exact h.so
theorem evs(h:Right a n):EvEs (a.2.2.2.map toEd):=fun x hx=>by
 obtain⟨y,hy,rfl⟩:=List.mem_map.1 hx;exact h.alr _ (h.es y hy).2.2.2.2
theorem err(h:Right a n):(toAut a).err=0:=by
 have h1:yh 32 none (toAut a).al=0:=y9v h.ali h.alr (fun q hq=>by cases hq);have hn:(toAut a).n=n:=h.nn;have h2:yh (toAut a).n none (toAut a).ms=0:=by rw [hn];exact y9v h.msi h.msr (fun q hq=>by cases hq)
 have h3:edErr (toAut a).al (toAut a).n none (toAut a).es=0:=by
  rw [hn];refine ycn h.sorted (fun x hx=>?_) (fun q hq=>by cases hq);obtain⟨y,hy,rfl⟩:=List.mem_map.1 hx;have:=h.es y hy;exact⟨this.1,this.2.1,this.2.2.1,this.2.2.2.1,yD.2 this.2.2.2.2⟩
 have:=h.nl;unfold Aut.err;rw [h1,if_neg (by decide),if_neg (by rw [hn];omega),if_neg (by rw [hn];omega),h2,if_neg (by decide),h3]
theorem check(h:Right a n):y2E a=some 0:=by
 have h1:=h.l1;have h2:=h.l2;have h3:=h.l3;have:=yfj (a:=toAut a) (by simp [toAut];omega) (by simp [toAut];omega) (by simp [toAut];omega);rwa [ydB,h.err] at this
end Right
theorem y5e{α:Type}(a:α)(us:List α):idx (a::us) 0=some a:=rfl
theorem y8x{α:Type}(a:α)(us:List α):slc (a::us) 1 ((a::us).length:Int)=some us:=by
 rw [slc,if_pos ⟨by omega,by simp;omega,by omega⟩];simp
theorem y6k :∀(N:Nat) (l:List Nat),l.Nodup→(∀x∈l,x<N)→l.length≤N
 | 0,[],_,_=>Nat.le_refl _
 | 0,x::l,_,h=>absurd (h x (List.mem_cons_self ..)) (by omega)
 | N+1,l,hn,h=>by
  by_cases hm:N∈l
  ·have h1:=y6k N (l.erase N) (hn.erase N) (fun x hx=>by
    have h2:=(hn.mem_erase_iff).1 hx;have:=h x h2.2;omega)
   rw [List.length_erase_of_mem hm] at h1;omega
  ·have h1:=y6k N l hn (fun x hx=>by
    have:=h x hx;have:x≠N:=fun e=>hm (e▸hx);omega)
   omega
theorem y9J.snoc{es:List Ed}:∀{k:Nat} {x:Int} {e:Ed},e∈es→y9J es [e.f] k x→y9J es [e.t] (k+1) x
 | 0,x,e,he,h=>⟨e,he,(yMs.1 h).symm,yMs.2 rfl⟩
 | k+1,x,e,he,⟨y,hy,h1,h2⟩=>⟨y,hy,h1,h2.snoc he⟩
def dd{α:Type}[DecidableEq α]:List α→List α
 | []=> []
 | [x]=> [x]
 | x::y::l=>if x=y then dd (y::l) else x::dd (y::l)
section
variable{α:Type}[DecidableEq α]
theorem ydd(x y:α):∀l:List α,dd (l++[x,y])=if x=y then dd (l++[x]) else dd (l++[x])++[y]
 | []=>by simp only [List.nil_append,dd];split <;> simp_all
 | [z]=>by
  show dd (z::x::[y])=if x=y then dd [z,x] else dd [z,x]++[y]
  simp only [dd];by_cases h1:z=x <;> by_cases h2:x=y <;> simp [h1,h2]
 | z::w::l=>by
  have ih:=ydd x y (w::l);show dd (z::w::(l++[x,y]))=if x=y then dd (z::w::(l++[x])) else dd (z::w::(l++[x]))++[y]
  have ih:dd (w::(l++[x,y]))=if x=y then dd (w::(l++[x])) else dd (w::(l++[x]))++[y]:=ih
  simp only [dd,ih];by_cases h1:z=w <;> by_cases h2:x=y <;> simp [h1,h2]
theorem ybe{xs:List α}{k:Nat}(h:k+1<xs.length):dd (xs.take (k+2))=if xs[k]=xs[k+1] then dd (xs.take (k+1)) else dd (xs.take (k+1))++[xs[k+1]]:=by
 have h1:xs.take (k+1)=xs.take k++[xs[k]]:=by rw [yTs]
 have h2:xs.take (k+2)=xs.take k++[xs[k],xs[k+1]]:=by rw [yTs h,h1,List.append_assoc];rfl
 rw [h2,h1,ydd]
theorem yfk{xs:List α}(h:0<xs.length):dd (xs.take 1)=xs.take 1:=by
 cases xs with
 | nil=>simp at h
 | cons x l=>rfl
theorem ybf{xs:List α}:∀{k:Nat},k≤xs.length→(∀i (h:i+1<xs.length),i+1<k→xs[i]≠xs[i+1])→dd (xs.take k)=xs.take k
 | 0,_,_=>rfl
 | 1,h,_=>yfk (by omega)
 | k+2,h,hn=>by
  rw [ybe (by omega),if_neg (hn k (by omega) (by omega)),ybf (k:=k+1) (by omega) fun i h1 h2=>hn i h1 (by omega),yTs (i:=k+1) (by omega)]
theorem yaE :∀{xs:List α} {x:α},x∈dd xs↔x∈xs
 | [],_=>Iff.rfl
 | [_],_=>Iff.rfl
 | y::z::l,x=>by
  have ih:=yaE (xs:=z::l) (x:=x);unfold dd;split
  ·rename_i e;subst e;rw [ih];simp
  ·rw [List.mem_cons,ih,List.mem_cons (a:=x) (b:=y)]
theorem yaF :∀(xs:List α),(dd xs).length≤xs.length
 | []=>Nat.le_refl _
 | [_]=>Nat.le_refl _
 | y::z::l=>by
  have ih:=yaF (z::l);unfold dd;split
  ·simp only [List.length_cons] at *;omega
  ·simp only [List.length_cons] at *;omega
/-! The loops, for any elements. -/
def cpL2(k:Int)(st:List α×Int×Int):Option ((List α×Int×Int)⊕(List α×Int)):=
 if decide (st.2.1<((st.1.length-k.toNat:Nat):Int))=true then
  (idxV st.1 k.toNat st.2.1).bind fun x=>(idxV st.1 k.toNat (W (st.2.1-1))).bind fun y=>
  if x≠y then(idxV st.1 k.toNat st.2.1).bind fun z=>(idx st.1 st.2.2).bind fun _=>(upd st.1 st.2.2 z).bind fun l=>some (.inl (l,W (st.2.1+1),W (st.2.2+1)))
  else some (.inl (st.1,W (st.2.1+1),st.2.2))
 else some (.inr (st.1,st.2.2))
def cpL1(z0:α)(p0:List α)(st:Int):Option (Int⊕(Unit⊕List α)):=
 if decide (st<(p0.length:Int))=true then
  (idx p0 st).bind fun x=>(idx p0 (W (st-1))).bind fun y=>
  if x=y then(slc p0 st (p0.length:Int)).bind fun _=>(iter (cpL2 st) (p0,1,st)).bind fun o=>(slc o.1 o.2 (o.1.length:Int)).bind fun _=>
   (slc (o.1.take o.2.toNat++List.replicate (o.1.length-o.2.toNat) z0) 0 o.2).bind fun x=>some (.inr (.inr x))
  else some (.inl (W (st+1)))
 else some (.inr (.inl ()))
def cpL(z0:α)(p0:List α):Option (List α):=
 if decide ((p0.length:Int)<2)=true then some p0
 else(iter (cpL1 z0 p0) 1).bind fun o=>match o with
  | .inl _=>some p0
  | .inr u=>some u
end
theorem yaG{α:Type}{xs:List α}{i j:Nat}(h1:i≤j)(h2:j≤xs.length):slc xs (i:Int) (j:Int)=some ((xs.take j).drop i):=by
 unfold slc;rw [if_pos (by omega)];simp
section
variable{α:Type}[DecidableEq α]
omit [DecidableEq α] in
theorem yde{xs:List α}{k j:Nat}(h:k+j<xs.length):idxV xs k (j:Int)=some xs[k+j]:=by
 unfold idxV;rw [if_pos (by omega),show((k:Nat):Int)+(j:Int)=((k+j:Nat):Int) by omega,yg h]
theorem yfl{xs:List α}(hl:xs.length≤4294967296){k:Nat}(hkn:k<xs.length)(hd:dd (xs.take (k+1))=xs.take k):∃(row:List α) (m:Nat),iter (cpL2 (k:Int)) (xs,1,(k:Int))=some (row,(m:Int))∧row.length=xs.length∧m≤xs.length∧row.take m=dd xs:=by
 obtain⟨o,h1,row,m,rfl,h2,h3,h4⟩:=yo (f:=cpL2 (k:Int))
  (fun j (st:List α×Int×Int)=>∃(row:List α) (m:Nat),st=(row,((j+1:Nat):Int),(m:Int))∧row.length=xs.length∧m≤k+j∧row.take m=dd (xs.take (k+j+1))∧∀i,k+j≤i→row[i]? =xs[i]?)
  (fun o=>∃(row:List α) (m:Nat),o=(row,(m:Int))∧row.length=xs.length∧m≤xs.length∧row.take m=dd xs)
  (xs.length-k-1) 0 (by omega) (fun j st hj ⟨row,m,e,g1,g2,g3,g4⟩=>by
   subst e;have hx:idxV row k (((j+1:Nat):Int))=some xs[k+j+1]:=by
    rw [yde (by omega)];have:=g4 (k+(j+1)) (by omega);rw [yGe (by omega),yGe (by omega)] at this;rw [Option.some.inj this];rfl
   have hy:idxV row k (W (((j+1:Nat):Int)-1))=some xs[k+j]:=by
    rw [show ((j+1:Nat):Int)-1=(j:Int) by omega,W_nat (by omega),yde (by omega)];have:=g4 (k+j) (by omega);rw [yGe (by omega),yGe (by omega)] at this;rw [Option.some.inj this]
   have hdd:=ybe (xs:=xs) (k:=k+j) (by omega);refine .inl ?_;unfold cpL2;rw [if_pos (by simp;omega)];simp only [Int.toNat_natCast,hx,hy,yOb];by_cases he:xs[k+j]=xs[k+j+1]
   ·rw [if_neg (by simpa using he.symm)];refine⟨_,rfl,row,m,?_,g1,by omega,?_,fun i hi=>g4 i (by omega)⟩
    ·simp only [nxt (show j+1<4611686018427387904 by omega)]
    ·rw [g3];rw [if_pos he] at hdd;exact hdd.symm
   ·rw [if_pos (fun e=>he e.symm),yg (show m<row.length by omega),yOb];have hu:upd row (m:Int) xs[k+j+1]=some (row.set m xs[k+j+1]):=by unfold upd;rw [if_pos (by omega)];simp
    rw [hu,yOb];refine⟨_,rfl,row.set m xs[k+j+1],m+1,?_,by simpa using g1,by omega,?_,fun i hi=>?_⟩
    ·simp only [nxt (show j+1<4611686018427387904 by omega),nxt (show m<4611686018427387904 by omega)]
    ·rw [if_neg he] at hdd;rw [show k+(j+1)+1=k+j+2 by omega,hdd,←g3,yTs (by simp;omega),List.getElem_set_self];congr 1;rw [List.take_set];exact List.set_eq_of_length_le (by rw [List.length_take];omega)
    ·rw [List.getElem?_set_ne (by omega)];exact g4 i (by omega))
  (fun st ⟨row,m,e,g1,g2,g3,_⟩=>by
   subst e;refine⟨_,?_,row,m,rfl,g1,by omega,?_⟩
   ·unfold cpL2;rw [if_neg (by simp;omega)]
   ·rw [g3,show k+(xs.length-k-1)+1=xs.length by omega,List.take_length])
  (by omega) (xs,1,(k:Int)) ⟨xs,k,rfl,rfl,by omega,hd.symm,fun _ _=>rfl⟩
 exact⟨row,m,h1,h2,h3,h4⟩
theorem cp_eq(z0:α){xs:List α}(hl:xs.length≤4294967296):cpL z0 xs=some (dd xs):=by
 unfold cpL;by_cases h2:xs.length<2
 ·rw [if_pos (by simp;omega)]
  match xs,h2 with
  | [],_=>rfl
  | [_],_=>rfl
 rw [if_neg (by simp;omega)];obtain⟨o,h1,ho⟩:=yo (f:=cpL1 z0 xs)
  (fun j (st:Int)=>st=((j+1:Nat):Int)∧∀i (h:i+1<xs.length),i+1<j+1→xs[i]≠xs[i+1])
  (fun o=>o= .inl ()∧dd xs=xs∨o= .inr (dd xs)) (xs.length-1) 0 (by omega) (fun j st hj ⟨e,hn⟩=>by
   subst e;have hx:idx xs (((j+1:Nat):Int))=some xs[j+1]:=yg (by omega);have hy:idx xs (W (((j+1:Nat):Int)-1))=some xs[j]:=by rw [show ((j+1:Nat):Int)-1=(j:Int) by omega,W_nat (by omega),yg (by omega)]
   unfold cpL1;rw [if_pos (by simp;omega),hx,hy];simp only [yOb];by_cases he:xs[j+1]=xs[j]
   ·right;have hd:dd (xs.take (j+1+1))=xs.take (j+1):=by
     rw [ybe (by omega),if_pos he.symm];exact ybf (by omega) fun i h h'=>hn i h (by omega)
    obtain⟨row,m,k1,k2,k3,k4⟩:=yfl hl (k:=j+1) (by omega) hd;have hs1:slc xs (((j+1:Nat):Int)) (xs.length:Int)=some ((xs.take xs.length).drop (j+1)):=yaG (by omega) (Nat.le_refl _);have hs2:slc row (m:Int) (row.length:Int)=some ((row.take row.length).drop m):=yaG (by omega) (Nat.le_refl _);have hs3:slc (row.take m++List.replicate (row.length-m) z0) ((0:Nat):Int) (m:Int)=some (((row.take m++List.replicate (row.length-m) z0).take m).drop 0):=yaG (by omega) (by simp;omega);rw [if_pos he,hs1,yOb,k1,yOb];simp only [Int.toNat_natCast];rw [hs2,yOb];have hs3':=hs3;simp only [Int.natCast_zero] at hs3';rw [hs3',yOb];refine⟨_,rfl,.inr ?_⟩;rw [List.drop_zero,List.take_append_of_le_length (by simp;omega),List.take_of_length_le (by simp;omega),k4]
   ·left;rw [if_neg he];refine⟨_,rfl,?_,fun i h h'=>?_⟩
    ·rw [nxt (by omega)]
    ·by_cases hij:i=j
     ·subst hij;exact fun e=>he e.symm
     ·exact hn i h (by omega))
  (fun st ⟨e,hn⟩=>by
   subst e;refine⟨.inl (),?_,.inl ⟨rfl,?_⟩⟩
   ·unfold cpL1;rw [if_neg (by simp;omega)]
   ·have:=ybf (xs:=xs) (k:=xs.length) (Nat.le_refl _) fun i h h'=>hn i h (by omega);rwa [List.take_length] at this)
  (by omega) 1 ⟨rfl,fun i h h'=>by omega⟩
 rw [h1,yOb];rcases ho with ⟨rfl,hd⟩|rfl
 ·show some xs=_;rw [hd]
 ·rfl
end
theorem ycL{xs:List Int}(hl:xs.length≤4294967296):y1M xs=some (dd xs):=by
 rw [←cp_eq (0:Int) hl];have h2:∀k,y3C k=cpL2 k:=fun k=>funext fun st=>by
  unfold y3C cpL2 y2G;simp only [bne_iff_ne,ne_eq]
 have h1:y3D xs=cpL1 0 xs:=funext fun st=>by
  unfold y3D cpL1;simp only [h2,beq_iff_eq]
 unfold y1M cpL;rw [h1];split
 ·rfl
 ·congr 1;funext o;cases o <;> rfl
theorem y9X{xs:List (Int×Int)}(hl:xs.length≤4294967296):yz xs=some (dd xs):=by
 rw [←cp_eq ((0:Int),(0:Int)) hl];have h2:∀k,y2s k=cpL2 k:=fun k=>funext fun st=>by
  unfold y2s cpL2 y1f;simp only [Bool.not_eq_true',beq_eq_false_iff_ne,ne_eq]
 have h1:y2t xs=cpL1 ((0:Int),(0:Int)) xs:=funext fun st=>by
  unfold y2t cpL1;simp only [h2,beq_iff_eq]
 unfold yz cpL;rw [h1];split
 ·rfl
 ·congr 1;funext o;cases o <;> rfl
theorem y9K(a b:Int):yp a b=some (if a<b then -1 else if a>b then 1 else 0):=by
 have hn:∀x,y1n x=some false:=fun x=>by rw [y1n];simp
 rw [yp,hn,yOb,hn,yOb,if_neg (by simp),if_neg (by simp)];by_cases h1:a<b
 ·rw [if_pos (by simpa using h1),if_pos h1]
 ·rw [if_neg (by simpa using h1),if_neg h1];by_cases h2:a>b
  ·rw [if_pos (by simpa using h2),if_pos h2]
  ·rw [if_neg (by simpa using h2),if_neg h2]
def cmpG :List Int→List Int→Int
 | [],[]=>0
 | [],_::_=> -1
 | _::_,[]=>1
 | a::u,b::v=>if a<b then -1 else if a>b then 1 else cmpG u v
theorem yg7{u v:List Int}(hb:u.length≤4294967296)(hv:v.length≤4294967296):y2x u v=some (cmpG u v):=by
 obtain⟨o,h1,h2⟩:=yo (f:=y2H u v) (fun i s=>s=(i:Int)∧i≤v.length∧cmpG u v=cmpG (u.drop i) (v.drop i)) (fun o=>(match o with
   | .inl _=>(if decide ((u.length:Int)<(v.length:Int))=true then -1 else 0)
   | .inr r=>r)=cmpG u v) u.length 0 (by omega) (fun i s hi ⟨e1,g0,g1⟩=>by
   subst e1;rw [y2H,if_pos (ct_lt hi),yg hi,yOb];by_cases hi2:v.length≤i
   ·rw [if_pos (by simp;omega)];refine .inr ⟨_,rfl,?_⟩;rw [List.drop_eq_getElem_cons hi,List.drop_of_length_le hi2] at g1;exact g1.symm
   have hi2:i<v.length:=by omega
   rw [List.drop_eq_getElem_cons hi,List.drop_eq_getElem_cons hi2,cmpG] at g1;rw [if_neg (by simp;omega),yg hi2,yOb,y9K,yOb];by_cases h1:u[i]<v[i]
   ·rw [if_pos h1] at g1 ⊢;rw [if_pos (by rfl)];exact .inr ⟨_,rfl,g1.symm⟩
   ·rw [if_neg h1] at g1 ⊢;by_cases h2:u[i]>v[i]
    ·rw [if_pos h2] at g1 ⊢;rw [if_pos (by rfl)];exact .inr ⟨_,rfl,g1.symm⟩
    ·rw [if_neg h2] at g1 ⊢;rw [if_neg (by simp)];exact .inl ⟨_,rfl,nxt (by omega),by omega,g1⟩)
  (fun s ⟨e1,g0,g1⟩=>by
   subst e1;rw [y2H,if_neg ct_ge];refine⟨_,rfl,?_⟩;rw [g1,List.drop_length];by_cases hl:u.length<v.length
   ·rw [List.drop_eq_getElem_cons hl];simp [hl,cmpG]
   ·rw [List.drop_of_length_le (by omega)];simp [hl,cmpG]) (by omega) 0 ⟨rfl,by omega,rfl⟩
 rw [y2x,h1,yOb];cases o with
 | inl _=>
  dsimp only at h2 ⊢;rw [←h2];split <;> rfl
 | inr r=>exact congrArg some h2
def y5O(l:List Int):Int:=(l.find? fun x=>x != 0).getD 0
theorem or_eq{l:List Int}(hb:l.length≤4294967296):y3R l=some (y5O l):=by
 obtain⟨o,h1,h2⟩:=yo (f:=y4i l) (fun i s=>s=(i:Int)∧y5O l=y5O (l.drop i)) (fun o=>(match o with
   | .inl _=>0
   | .inr r=>r)=y5O l) l.length 0 (by omega) (fun i s hi ⟨e1,g1⟩=>by
   subst e1;rw [y4i,if_pos (ct_lt hi),yg hi,yOb];rw [List.drop_eq_getElem_cons hi] at g1;unfold y5O at g1 ⊢;rw [List.find?_cons] at g1;cases hx:l[i] != 0 with
   | true=>
    rw [hx] at g1;rw [if_pos rfl];exact .inr ⟨_,rfl,g1.symm⟩
   | false=>
    rw [hx] at g1;rw [if_neg (by simp)];exact .inl ⟨_,rfl,nxt (by omega),g1⟩)
  (fun s ⟨e1,g1⟩=>by
   subst e1;rw [y4i,if_neg ct_ge];refine⟨_,rfl,?_⟩;rw [g1,List.drop_length];rfl) (by omega) 0 ⟨rfl,rfl⟩
 rw [y3R,h1,yOb];cases o with
 | inl _=>exact congrArg some h2
 | inr r=>exact congrArg some h2
theorem yg8{α:Type}[DecidableEq α]{f:α→α→Option Int}{xs:List α}(lt:α→α→Prop)(hf:∀x∈xs,∀y∈xs,∃z,f x y=some z∧(z<0↔lt x y))(ha:∀x∈xs,∀y∈xs,lt x y→¬lt y x)(he:∀x∈xs,∀y∈xs,¬lt x y→¬lt y x→x=y)(ht:∀x∈xs,∀y∈xs,∀z∈xs,¬lt x y→¬lt y z→¬lt x z):cmpB f xs=true:=by
 have hl:∀x∈xs,∀y∈xs,(ltf f x y=true↔lt x y):=fun x hx y hy=>by
  obtain⟨z,h1,h2⟩:=hf x hx y hy;unfold ltf;rw [h1];simpa using h2
 unfold cmpB;rw [yAt];intro x hx;rw [yAt];intro y hy;obtain⟨z,h1,_⟩:=hf x hx y hy;have hn:∀x∈xs,∀y∈xs,(ltf f x y=false↔ ¬lt x y):=fun x hx y hy=>by rw [←hl x hx y hy];simp
 simp only [Bool.and_eq_true];refine⟨⟨⟨by rw [h1];rfl,?_⟩,?_⟩,?_⟩
 ·cases g1:ltf f x y with
  | false=>rfl
  | true=>
   have:=ha x hx y hy ((hl x hx y hy).1 g1);rw [(hn y hy x hx).2 this];rfl
 ·cases g1:ltf f x y with
  | true=>rfl
  | false=>
   cases g2:ltf f y x with
   | true=>rfl
   | false=>simp [he x hx y hy ((hn x hx y hy).1 g1) ((hn y hy x hx).1 g2)]
 ·rw [yAt];intro w hw;cases g1:ltf f x y with
  | true=>simp
  | false=>
   cases g2:ltf f y w with
   | true=>simp
   | false=>simp [(hn x hx w hw).2 (ht x hx y hy w hw ((hn x hx y hy).1 g1) ((hn y hy w hw).1 g2))]
/-! Pairs. -/
def ltP(p q:Int×Int):Prop:=p.1<q.1∨p.1=q.1∧p.2<q.2
theorem yex(p q:Int×Int):∃z,yd p q=some z∧(z<0↔ltP p q):=by
 refine⟨cmpG [p.1,p.2] [q.1,q.2],?_,?_⟩
 ·rw [yd,yg7 (by simp) (by simp)];rfl
 ·unfold ltP;simp only [cmpG];by_cases h1:p.1<q.1 <;> by_cases h2:p.1>q.1 <;> by_cases h3:p.2<q.2 <;> by_cases h4:p.2>q.2 <;> simp [h1,h2,h3,h4] <;> omega
theorem yey(xs:List (Int×Int)):cmpB yd xs=true:=yg8 ltP (fun x _ y _=>yex x y) (fun x _ y _ h=>by unfold ltP at *;omega) (fun x _ y _ h1 h2=>by
  unfold ltP at *;exact Prod.ext (by omega) (by omega)) (fun x _ y _ z _ h1 h2=>by unfold ltP at *;omega)
theorem yco{xs:List (Int×Int)}(hl:xs.length≤4294967296):yJ yd xs=some (srtL (ltf yd) xs):=by
 unfold yJ srtF;rw [if_pos ⟨hl,yey xs⟩]
theorem yfm :y3n=yd:=rfl
abbrev E3 :=Int×Int×Int
abbrev NdT :=List Int×Int×List Int×List Int×List E3
def ltE3(x y:E3):Prop:=x.1<y.1∨x.1=y.1∧(x.2.1<y.2.1∨x.2.1=y.2.1∧x.2.2<y.2.2)
instance (x y:E3):Decidable (ltE3 x y):=by unfold ltE3;infer_instance
theorem yaf(x y:E3):∃z,yj x y=some z∧(z<0↔ltE3 x y)∧(z≥0↔ ¬ltE3 x y):=by
 refine⟨y5O [if x.1<y.1 then -1 else if x.1>y.1 then 1 else 0,if x.2.1<y.2.1 then -1 else if x.2.1>y.2.1 then 1 else 0,if x.2.2<y.2.2 then -1 else if x.2.2>y.2.2 then 1 else 0],?_,?_⟩
 ·rw [yj,y9K,yOb,y9K,yOb,y9K,yOb,or_eq (by simp)];rfl
 ·have h:∀z:Int,(z<0↔ltE3 x y)→(z<0↔ltE3 x y)∧(z≥0↔ ¬ltE3 x y):=fun z hz=>⟨hz,by rw [←hz];omega⟩;apply h;unfold ltE3 y5O;by_cases h1:x.1<y.1
  ·simp [h1]
  by_cases h2:x.1>y.1
  ·simp [h1,h2];omega
  have e1:x.1=y.1:=by omega
  by_cases h3:x.2.1<y.2.1
  ·simp [e1,h3]
  by_cases h4:x.2.1>y.2.1
  ·simp [e1,h3,h4];omega
  have e2:x.2.1=y.2.1:=by omega
  by_cases h5:x.2.2<y.2.2
  ·simp [e1,e2,h5]
  by_cases h6:x.2.2>y.2.2
  ·simp [e1,e2,h5,h6]
  ·simp [e1,e2,h5,h6]
theorem tgtC :y3E=yj:=rfl
structure NdOk (a:NdT):Prop where
 al:a.1.Pairwise (· < ·)
 alr:∀x∈a.1,0≤x∧x<32
 n0:0≤a.2.1
 n1:a.2.1≤4096
 ini:a.2.2.1.Pairwise (· < ·)
 inr:∀x∈a.2.2.1,0≤x∧x<a.2.1
 mks:a.2.2.2.1.Pairwise (· < ·)
 mkr:∀x∈a.2.2.2.1,0≤x∧x<a.2.1
 es:a.2.2.2.2.Pairwise ltE3
 esr:∀x∈a.2.2.2.2,0≤x.1∧x.1<a.2.1∧0≤x.2.2∧x.2.2<a.2.1∧(x.2.1= -1∨x.2.1∈a.1)
 la:a.1.length≤1000000
 li:a.2.2.1.length≤1000000
 lm:a.2.2.2.1.length≤1000000
 le:a.2.2.2.2.length≤65536
def tgtL(es:List E3)(s e:Int):List Int:=(es.filter fun x=>x.1==s&&x.2.1==e).map (·.2.2)
theorem yaH{x y z:E3}(h1:ltE3 x y)(h2:ltE3 y z):ltE3 x z:=by unfold ltE3 at *;omega
theorem ygC{xs:List E3}{t:E3}(hl:xs.length<4294967296)(hs:xs.Pairwise ltE3):∀(f i j:Nat),j≤i+f→i≤j→j≤xs.length→(∀k (h:k<xs.length),k<i→ltE3 xs[k] t)→(∀k (h:k<xs.length),j≤k→¬ltE3 xs[k] t)→
  ∃p:Nat,iterF (yc xs t yj) (f+1) ((j:Int),(i:Int))=some (p:Int)∧p≤xs.length∧(∀k (h:k<xs.length),k<p→ltE3 xs[k] t)∧(∀k (h:k<xs.length),p≤k→¬ltE3 xs[k] t):=by
 intro f
 induction f with
 | zero=>
  intro i j h1 h2 h3 h4 h5;refine⟨i,?_,by omega,h4,fun k h hk=>h5 k h (by omega)⟩;rw [yn,yc,if_neg (by simp;omega)]
 | succ f ih=>
  intro i j h1 h2 h3 h4 h5;rw [yn,yc];dsimp only;by_cases hij:i<j
  ·have hm:(i+j)/2<xs.length:=by omega
   obtain⟨z,hz1,hz2,_⟩:=yaf xs[(i+j)/2] t;rw [if_pos (by simp;omega),ydc (by omega),yg hm,yOb,hz1,yOb];have mono:∀(a b:Nat) (ha:a<xs.length) (hb:b<xs.length),a≤b→xs[a]=xs[b]∨ltE3 xs[a] xs[b]:=fun a b ha hb hab=>by
    rcases Nat.lt_or_ge a b with h|h
    ·exact .inr (List.pairwise_iff_getElem.1 hs a b ha hb h)
    ·have:a=b:=by omega
     subst this;exact .inl rfl
   by_cases hc:z<0
   ·rw [if_pos (decide_eq_true hc),show(((i+j)/2:Nat):Int)+1=(((i+j)/2+1:Nat):Int) by omega,W_nat (by omega)];refine ih _ j (by omega) (by omega) h3 (fun k h hk=>?_) h5;rcases mono k _ h hm (by omega) with he|he
    ·rw [he];exact hz2.1 hc
    ·exact yaH he (hz2.1 hc)
   ·rw [if_neg (by simpa using hc)];refine ih i _ (by omega) (by omega) (by omega) h4 (fun k h hk hlt=>?_);rcases mono _ k hm h hk with he|he
    ·rw [←he] at hlt;exact hc (hz2.2 hlt)
    ·exact hc (hz2.2 (yaH he hlt))
  ·rw [if_neg (by simp;omega)];exact⟨i,rfl,by omega,h4,fun k h hk=>h5 k h (by omega)⟩
theorem ygD{xs:List E3}{t:E3}(hl:xs.length<4294967296)(hs:xs.Pairwise ltE3):∃(p:Nat) (b:Bool),ye xs t yj=some ((p:Int),b)∧p≤xs.length∧(∀x∈xs.take p,ltE3 x t)∧(∀x∈xs.drop p,¬ltE3 x t):=by
 obtain⟨p,hp,hle,hlo,hhi⟩:=ygC (t:=t) hl hs xs.length 0 xs.length (by omega) (by omega) (by omega) (fun k h hk=>absurd hk (by omega)) (fun k h hk=>absurd hk (by omega));have hi:iter (yc xs t yj) ((xs.length:Int),0)=some (p:Int):=y5o (by omega) hp;have h2:(∀x∈xs.take p,ltE3 x t)∧∀x∈xs.drop p,¬ltE3 x t:=by
  refine⟨fun x hx=>?_,fun x hx=>?_⟩
  ·obtain ⟨k,hk,rfl⟩:=List.mem_iff_getElem.1 hx;rw [List.length_take] at hk;rw [List.getElem_take];exact hlo k (by omega) (by omega)
  ·obtain ⟨k,hk,rfl⟩:=List.mem_iff_getElem.1 hx;rw [List.length_drop] at hk;rw [List.getElem_drop];exact hhi _ (by omega) (by omega)
 rw [ye,hi,yOb];by_cases hlt:p<xs.length
 ·obtain ⟨z,hz,_⟩:=yaf xs[p] t;rw [if_pos (by simpa using hlt),yg hlt,yOb,hz,yOb];exact⟨p,_,rfl,hle,h2⟩
 ·rw [if_neg (by simpa using hlt)];exact⟨p,_,rfl,hle,h2⟩
theorem ybE{s e:Int}:∀{l:List E3},l.Pairwise ltE3→(∀x∈l,¬ltE3 x (s,e,-1))→l.takeWhile (fun x=>x.1==s&&x.2.1==e)=l.filter fun x=>x.1==s&&x.2.1==e
 | [],_,_=>rfl
 | x::l,hs,hl=>by
  have hs':=List.pairwise_cons.1 hs;cases hx:x.1==s&&x.2.1==e with
  | true=>
   rw [List.takeWhile_cons,List.filter_cons];simp only [hx,if_true];rw [ybE hs'.2 fun y hy=>hl y (.tail _ hy)]
  | false=>
   rw [List.takeWhile_cons,List.filter_cons];simp only [hx,Bool.false_eq_true,if_false];symm;rw [List.filter_eq_nil_iff];intro y hy hm;have h1:=hs'.1 y hy;have h2:=hl x (.head _);simp only [Bool.and_eq_true,beq_iff_eq,Bool.and_eq_false_iff,beq_eq_false_iff_ne,ne_eq] at hx hm;unfold ltE3 at h1 h2;dsimp only at h2;omega
theorem ycM{s e:Int}{l:List E3}(h0:∀x∈l,0≤x.2.2)(hl:∀x∈l,ltE3 x (s,e,-1)):l.filter (fun x=>x.1==s&&x.2.1==e)= []:=by
 rw [List.filter_eq_nil_iff];intro y hy hm;have h1:=hl y hy;have h2:=h0 y hy;simp only [Bool.and_eq_true,beq_iff_eq] at hm;unfold ltE3 at h1;dsimp only at h1;omega
theorem yez{es:List E3}{s e:Int}{p:Nat}(hs:es.Pairwise ltE3)(h0:∀x∈es,0≤x.2.2)(h1:∀x∈es.take p,ltE3 x (s,e,-1))(h2:∀x∈es.drop p,¬ltE3 x (s,e,-1)):tgtL es s e=((es.drop p).takeWhile fun x=>x.1==s&&x.2.1==e).map (·.2.2):=by
 unfold tgtL;rw [ybE (hs.sublist (List.drop_sublist _ _)) h2]
 conv=>lhs;rw [←List.take_append_drop p es,List.filter_append,ycM (fun x hx=>h0 x ((List.take_sublist _ _).subset hx)) h1,List.nil_append]
theorem ycp{α:Type}{l:List α}{f:α→Bool}{p:Nat}(h:p<l.length):(l.drop p).takeWhile f=if f l[p]=true then l[p]::(l.drop (p+1)).takeWhile f else []:=by
 rw [List.drop_eq_getElem_cons h,List.takeWhile_cons]
theorem ycq{a:NdT}(ha:NdOk a)(s e:Int):y2o a s e=some (tgtL a.2.2.2.2 s e):=by
 obtain⟨p,b,h1,h2,h3,h4⟩:=ygD (t:=(s,e,-1)) (by have:=ha.le;omega) ha.es;rw [y2o,tgtC,h1,yOb];have hle:=ha.le;rw [yez ha.es (fun x hx=>(ha.esr x hx).2.2.1) h3 h4];obtain⟨o,ho,he⟩:=yo (f:=y2w a s e) (fun j (st:List Int×Int)=>∃out,st=(out,((p+j:Nat):Int))∧out.length≤j∧out++((a.2.2.2.2.drop (p+j)).takeWhile fun x=>x.1==s&&x.2.1==e).map (·.2.2)=((a.2.2.2.2.drop p).takeWhile fun x=>x.1==s&&x.2.1==e).map (·.2.2))
  (fun o=>o=((a.2.2.2.2.drop p).takeWhile fun x=>x.1==s&&x.2.1==e).map (·.2.2)) (a.2.2.2.2.length-p) 0 (by omega) (fun j st hj ⟨out,e1,g1,g2⟩=>by
   subst e1;have hp:p+j<a.2.2.2.2.length:=by omega
   rw [ycp hp] at g2;unfold y2w;simp only [ct_lt hp,if_true,yg hp,yOb];cases hx:a.2.2.2.2[p+j].1==s with
   | false=>
    refine .inr ⟨out,by simp,?_⟩;rw [if_neg (by simp [hx]),List.map_nil,List.append_nil] at g2;exact g2
   | true=>
    cases hy:a.2.2.2.2[p+j].2.1==e with
    | false=>
     refine .inr ⟨out,by simp,?_⟩;rw [if_neg (by simp [hy]),List.map_nil,List.append_nil] at g2;exact g2
    | true=>
     refine .inl ⟨(out++[a.2.2.2.2[p+j].2.2],((p+(j+1):Nat):Int)),?_,_,rfl,by simp;omega,?_⟩
     ·have happ:app out [a.2.2.2.2[p+j].2.2]=some (out++[a.2.2.2.2[p+j].2.2]):=by unfold app;rw [if_pos (by simp;omega)]
      have hw:W ((p:Int)+(j:Int)+1)=(p:Int)+(j:Int)+1:=W_of (by omega) (by omega);simp [happ,hw];omega
     ·rw [if_pos (by simp [hx,hy])] at g2;rw [←g2];simp [Nat.add_assoc])
  (fun st ⟨out,e1,g1,g2⟩=>by
   subst e1;have hp:p+(a.2.2.2.2.length-p)=a.2.2.2.2.length:=by omega
   rw [hp] at g2 ⊢;rw [List.drop_length] at g2;refine⟨out,?_,by simpa using g2⟩;unfold y2w;simp) (by omega) ([],(p:Int)) ⟨[],rfl,yZl _,rfl⟩
 rw [ho,he];rfl
theorem y1K{α:Type}{xs ys:List α}(h:xs.length+ys.length≤4294967296):app xs ys=some (xs++ys):=by unfold app;rw [if_pos h]
theorem y8X(es:List E3)(s e:Int):(tgtL es s e).length≤es.length:=by
 unfold tgtL;rw [List.length_map];exact List.length_filter_le _ _
theorem y7N{a:NdT}(ha:NdOk a)(s e:Int):yl a s e=some (if e≠ -1∧hasB a.1 e=false then [s] else tgtL a.2.2.2.2 s e):=by
 have hle:=ha.le;have hla:=ha.la;have hloop:iter (yZ a s e) (0,([]:List Int))=some (tgtL a.2.2.2.2 s e):=by
  obtain⟨o,ho,he⟩:=yo (f:=yZ a s e) (fun j (st:Int×List Int)=>st=((j:Int),tgtL (a.2.2.2.2.take j) s e)) (fun o=>o=tgtL a.2.2.2.2 s e) a.2.2.2.2.length 0 (by omega) (fun j st hj e1=>by
    subst e1;refine .inl ⟨_,?_,rfl⟩;have ht:tgtL (a.2.2.2.2.take (j+1)) s e=if(a.2.2.2.2[j].1==s&&a.2.2.2.2[j].2.1==e)=true then tgtL (a.2.2.2.2.take j) s e++[a.2.2.2.2[j].2.2] else tgtL (a.2.2.2.2.take j) s e:=by
     unfold tgtL;rw [yTs hj,List.filter_append,List.map_append];split
     ·rename_i h;rw [List.filter_cons];simp [h]
     ·rename_i h;rw [List.filter_cons];simp [h]
    have hlen:=y8X (a.2.2.2.2.take j) s e;rw [List.length_take] at hlen;unfold yZ;simp only [ct_lt hj,if_true,yg hj,yOb];rw [ht];split
    ·rename_i h;rw [y1K (by simp;omega),yOb,yY];simp only [nxt (show j<4611686018427387904 by omega)]
    ·rw [yY];simp only [nxt (show j<4611686018427387904 by omega)])
   (fun st e1=>by
    subst e1;refine⟨_,?_,rfl⟩;unfold yZ;simp) (by omega) (0,([]:List Int)) rfl
  rw [ho,he]
 rw [yl];by_cases h1:e= -1
 ·subst h1;simp [hloop]
 ·rw [if_pos (by simpa using h1),y4g (by omega),yOb,yOb];cases h2:hasB a.1 e with
  | true=>simp [hloop]
  | false=>simp [h1]
def ya(xs ys:List Int):List (Int×Int):=xs.flatMap fun x=>ys.map fun y=>(x,y)
theorem y4M(xs ys:List Int):(ya xs ys).length=xs.length*ys.length:=by
 induction xs with
 | nil=>simp [ya]
 | cons x xs ih=>
  unfold ya at *;rw [List.flatMap_cons,List.length_append,ih,List.length_map,List.length_cons,Nat.succ_mul,Nat.add_comm]
theorem y5p{β γ:Type}{xs:List β}(f:Int×List γ→Option ((Int×List γ)⊕List γ))(h:β→γ)(out:List γ)(hl:xs.length+out.length≤4294967296)
  (step:∀j (hj:j<xs.length) (o:List γ),f ((j:Int),o)=(app o [h xs[j]]).bind fun x=>some (.inl (W ((j:Int)+1),x))) (last:∀o:List γ,f ((xs.length:Int),o)=some (.inr o)):iter f (0,out)=some (out++xs.map h):=by
 obtain⟨o,ho,he⟩:=yo (f:=f) (fun j (st:Int×List γ)=>st=((j:Int),out++(xs.take j).map h)) (fun o=>o=out++xs.map h) xs.length 0 (by omega) (fun j st hj e1=>by
   subst e1;refine .inl ⟨_,?_,rfl⟩;rw [step j hj,y1K (by simp;omega),yOb,nxt (by omega),yTs hj,List.map_append,List.append_assoc];rfl)
  (fun st e1=>by
   subst e1;exact⟨_,last _,by rw [List.take_length]⟩) (by omega) (0,out) (by simp)
 rw [ho,he]
theorem yfn{ys:List Int}(x:Int)(out:List (Int×Int))(hl:ys.length+out.length≤4294967296):iter (y2X ys x) (0,out)=some (out++ys.map fun y=>(x,y)):=
 y5p _ _ out hl (fun j hj o=>by
  unfold y2X;simp only [ct_lt hj,if_true,yg hj,yOb]) fun o=>by
  unfold y2X;simp
theorem y9w{β γ:Type}{xs:List β}(f:Int×List γ→Option ((Int×List γ)⊕List γ))(h:β→List γ)(out:List γ)(hx:xs.length≤4294967296)(hl:(xs.flatMap h).length+out.length≤4294967296)
  (step:∀j (hj:j<xs.length) (o:List γ),(h xs[j]).length+o.length≤4294967296→f ((j:Int),o)=some (.inl (((j+1:Nat):Int),o++h xs[j]))) (last:∀o:List γ,f ((xs.length:Int),o)=some (.inr o)):iter f (0,out)=some (out++xs.flatMap h):=by
 obtain⟨o,ho,he⟩:=yo (f:=f) (fun j (st:Int×List γ)=>st=((j:Int),out++(xs.take j).flatMap h)) (fun o=>o=out++xs.flatMap h) xs.length 0 (by omega) (fun j st hj e1=>by
   subst e1;have h2:(xs.take (j+1)).flatMap h=(xs.take j).flatMap h++h xs[j]:=by rw [yTs hj,List.flatMap_append];simp
   have h3:((xs.take (j+1)).flatMap h).length≤(xs.flatMap h).length:=by
    conv=>rhs;rw [←List.take_append_drop (j+1) xs,List.flatMap_append,List.length_append]
    omega
   rw [h2,List.length_append] at h3;refine .inl ⟨_,step j hj _ (by simp only [List.length_append];omega),?_⟩;rw [h2,List.append_assoc])
  (fun st e1=>by
   subst e1;exact⟨_,last _,by rw [List.take_length]⟩) (by omega) (0,out) (by simp)
 rw [ho,he]
theorem y5P{xs ys:List Int}(hx:xs.length≤65536)(hy:ys.length≤65536):yC xs ys=some (ya xs ys):=by
 have hm:xs.length*ys.length≤65536*65536:=Nat.mul_le_mul hx hy;have hc:=y4M xs ys;rw [yC,y9w (y2Y xs ys) (fun x=>ys.map fun y=>(x,y)) [] (xs:=xs) (by omega) (by unfold ya at hc;rw [hc];simp;omega) (fun j hj o ho=>by
  unfold y2Y;simp only [ct_lt hj,if_true,yg hj,yOb];rw [yfn _ _ (by simpa using ho),yOb,nxt (by omega)]) fun o=>by
  unfold y2Y;simp]
 rfl
def tsL(a:NdT)(s e:Int):List Int:=if e≠ -1∧hasB a.1 e=false then [s] else tgtL a.2.2.2.2 s e
theorem y6U{a:NdT}(ha:NdOk a)(s e:Int):(tsL a s e).length≤65536:=by
 unfold tsL;have:=y8X a.2.2.2.2 s e;have:=ha.le;split
 ·simp
 ·omega
def rawL(a b:NdT)(p:Int×Int)(e:Int):List (Int×Int):=
 if e= -1 then ya (tsL a p.1 (-1)) [p.2]++ya [p.1] (tsL b p.2 (-1)) else ya (tsL a p.1 e) (tsL b p.2 e)
theorem yag{a b:NdT}(ha:NdOk a)(hb:NdOk b)(p:Int×Int)(e:Int):(rawL a b p e).length≤4294967296:=by
 unfold rawL;split
 ·have:=y6U ha p.1 (-1);have:=y6U hb p.2 (-1);rw [List.length_append,y4M,y4M];simp;omega
 ·rw [y4M];exact Nat.mul_le_mul (y6U ha _ _) (y6U hb _ _)
def stpL(a b:NdT)(p:Int×Int)(e:Int):List (Int×Int):=dd (srtL (ltf yd) (rawL a b p e))
theorem yfo{a b:NdT}{p q:Int×Int}{e:Int}:q∈stpL a b p e↔q∈rawL a b p e:=by
 unfold stpL;rw [yaE,(y3Z _ _).mem_iff]
theorem yaI{xs:List (Int×Int)}(hl:xs.length≤4294967296):((yJ yd xs).bind fun r7=>(yz r7).bind fun r8=>some r8)=some (dd (srtL (ltf yd) xs)):=by
 rw [yco hl,yOb,y9X (by rw [(y3Z _ _).length_eq];exact hl),yOb]
theorem yfp{a b:NdT}(ha:NdOk a)(hb:NdOk b)(p:Int×Int){e:Int}(he:e= -1∨e∈a.1∨e∈b.1):y3z a b p e=some (stpL a b p e):=by
 have la:=y8X a.2.2.2.2 p.1 e;have lb:=y8X b.2.2.2.2 p.2 e;have ka:=ha.le;have kb:=hb.le;have hr:=yag ha hb p e;have hna:=ha.la;have hnb:=hb.la;rw [y3z,ycq ha,yOb,ycq hb,yOb,y4H (by omega) ha.al,yOb,y4H (by omega) hb.al,yOb];unfold stpL;by_cases h1:e= -1
 ·subst h1;rw [if_pos (by decide),y5P (by omega) (by simp),yOb,y5P (by simp) (by omega),yOb];have hraw:rawL a b p (-1)=ya (tgtL a.2.2.2.2 p.1 (-1)) [p.2]++ya [p.1] (tgtL b.2.2.2.2 p.2 (-1)):=by
   unfold rawL tsL;simp
  rw [y1K (by rw [hraw,List.length_append] at hr;exact hr),yOb,←hraw];exact yaI hr
 ·rw [if_neg (by simpa using h1)];have hraw:rawL a b p e=ya (tsL a p.1 e) (tsL b p.2 e):=by unfold rawL;rw [if_neg h1]
  cases h2:hasB a.1 e with
  | true=>
   have e1:tsL a p.1 e=tgtL a.2.2.2.2 p.1 e:=by unfold tsL;simp [h2]
   cases h3:hasB b.1 e with
   | true=>
    have e2:tsL b p.2 e=tgtL b.2.2.2.2 p.2 e:=by unfold tsL;simp [h3]
    rw [e1,e2] at hraw;rw [if_pos rfl,y5P (by omega) (by omega),yOb,←hraw];exact yaI hr
   | false=>
    have e2:tsL b p.2 e= [p.2]:=by unfold tsL;simp [h1,h3]
    rw [e1,e2] at hraw;rw [if_neg (by simp),if_pos rfl,y5P (by omega) (by simp),yOb,←hraw];exact yaI hr
  | false=>
   have e1:tsL a p.1 e= [p.1]:=by unfold tsL;simp [h1,h2]
   have h3:hasB b.1 e=true:=by
    rw [yD];rcases he with h|h|h
    ·exact absurd h h1
    ·rw [y5s] at h2;exact absurd h h2
    ·exact h
   have e2:tsL b p.2 e=tgtL b.2.2.2.2 p.2 e:=by unfold tsL;simp [h3]
   rw [e1,e2] at hraw;rw [if_neg (by simp),if_neg (by simp),y5P (by simp) (by omega),yOb,←hraw];exact yaI hr
/-! The numbers of pairs. -/
def numb :Nat→List (Int×Int)→List ((Int×Int)×Int)
 | _,[]=> []
 | k,p::l=>(p,(k:Int))::numb (k+1) l
theorem ycr :∀(k:Nat) (l:List (Int×Int)),(numb k l).length=l.length
 | _,[]=>rfl
 | k,p::l=>by rw [numb,List.length_cons,ycr,List.length_cons]
theorem ycs :∀(k:Nat) (l:List (Int×Int)),(numb k l).map (·.1)=l
 | _,[]=>rfl
 | k,p::l=>by rw [numb,List.map_cons,ycs]
theorem yct :∀(k:Nat) (l:List (Int×Int)) (p:Int×Int),kget (numb k l) p=if p∈l then some (((k+l.idxOf p:Nat):Int)) else none
 | _,[],p=>by simp [numb,kget]
 | k,q::l,p=>by
  have ih:=yct (k+1) l p;unfold kget at ih ⊢;rw [numb,List.find?_cons];by_cases h:p=q
  ·subst h;simp
  ·have h':(p==q)=false:=by simpa using h
   simp only [h'];rw [ih];have h2:¬q=p:=fun e=>h e.symm;by_cases hm:p∈l
   ·rw [if_pos hm,if_pos (by simp [hm]),List.idxOf_cons];have h3:(q==p)=false:=by simpa using h2
    rw [h3];simp;omega
   ·rw [if_neg hm,if_neg (by simp [hm,h])]
theorem ybF :∀(k:Nat) (l:List (Int×Int)) (p:Int×Int),numb k (l++[p])=numb k l++[(p,((k+l.length:Nat):Int))]
 | k,[],p=>by simp [numb]
 | k,q::l,p=>by
  rw [List.cons_append,numb,ybF (k+1) l p,numb,List.cons_append,List.length_cons];congr 4;omega
theorem yfq{κ:Type}[BEq κ][LawfulBEq κ]{ks:List κ}{k:κ}(h:k∉ks):kidx ks k=ks.length:=by
 unfold kidx;rw [List.findIdx_eq_length];intro x hx;cases he:k==x with
 | false=>rfl
 | true=>exact absurd ((eq_of_beq he)▸hx) h
theorem yfr{l:List (Int×Int)}{p:Int×Int}(h:p∉l):kput (numb 0 l) p (l.length:Int)=numb 0 (l++[p]):=by
 unfold kput;rw [if_neg (by rw [ycs,yfq h,ycr];omega),ybF];simp
def fnd(l:List (Int×Int))(p:Int×Int):Int×List (Int×Int):=if p∈l then((l.idxOf p:Int),l) else((l.length:Int),l++[p])
theorem ydf{l:List (Int×Int)}(hl:l.length<4294967296)(p:Int×Int):y1Q (numb 0 l) l p=some ((fnd l p).1,numb 0 (fnd l p).2,(fnd l p).2):=by
 rw [y1Q,yct];unfold fnd;by_cases h:p∈l
 ·rw [if_pos h,if_pos h];simp [y2e]
 ·rw [if_neg h,if_neg h];simp only [Option.isSome_none,Bool.not_false,if_true];rw [y1K (by simp;omega),yOb,yfr h];rfl
theorem yfs{l:List (Int×Int)}(hl:l.length<4294967296)(p:Int×Int):y2f l p=some (if p∈l then(l.idxOf p:Int) else -1):=by
 obtain⟨o,h1,h2⟩:=yo (f:=y1B l p) (fun i s=>s=(i:Int)∧∀k (h:k<l.length),k<i→l[k]≠p) (fun o=>o=(if p∈l then .inr (l.idxOf p:Int) else .inl ())) l.length 0 (by omega) (fun i s hi ⟨e1,g1⟩=>by
   subst e1;rw [y1B,if_pos (ct_lt hi),yg hi,yOb];by_cases hx:p=l[i]
   ·rw [if_pos (by simpa using hx)];refine .inr ⟨_,rfl,?_⟩;have hm:p∈l:=hx▸yGm hi;rw [if_pos hm];have:l.idxOf p=i:=by
     have hlt:=List.idxOf_lt_length_of_mem hm;have he:=List.getElem_idxOf hlt;rcases Nat.lt_trichotomy (l.idxOf p) i with h|h|h
     ·exact absurd he (g1 _ hlt h)
     ·exact h
     ·exact absurd hx.symm (by
       intro e;have:=List.not_of_lt_findIdx (p:=(· == p)) (xs:=l) (i:=i) h;simp [e] at this)
    rw [this]
   ·rw [if_neg (by simpa using hx)];refine .inl ⟨_,rfl,nxt (by omega),fun k h hk e=>?_⟩;by_cases hki:k=i
    ·subst hki;exact hx e.symm
    ·exact g1 k h (by omega) e)
  (fun s ⟨e1,g1⟩=>by
   subst e1;rw [y1B,if_neg ct_ge];refine⟨_,rfl,?_⟩;rw [if_neg];intro hm;obtain⟨k,hk,e⟩:=List.mem_iff_getElem.1 hm;exact g1 k hk hk e) (by omega) 0 ⟨rfl,fun k h hk=>by omega⟩
 rw [y2f,h1,yOb,h2];by_cases hm:p∈l
 ·rw [if_pos hm,if_pos hm]
 ·rw [if_neg hm,if_neg hm]
def rowS(st:List Int×List (Int×Int))(p:Int×Int):List Int×List (Int×Int):=(st.1++[(fnd st.2 p).1],(fnd st.2 p).2)
def rowF(nx l:List (Int×Int)):List Int×List (Int×Int):=nx.foldl rowS ([],l)
theorem yg9(l:List (Int×Int))(p:Int×Int):∃t,(fnd l p).2=l++t∧∀q∈t,q=p:=by
 unfold fnd;split
 ·exact ⟨[],by simp,by simp⟩
 ·exact ⟨[p],rfl,by simp⟩
theorem ybG(nx l:List (Int×Int))(p:Int×Int):rowF (nx++[p]) l=rowS (rowF nx l) p:=by unfold rowF;rw [List.foldl_append];rfl
theorem y5q :∀(nx:List (Int×Int)) (st:List Int×List (Int×Int)),(nx.foldl rowS st).1.length=st.1.length+nx.length∧∃t,(nx.foldl rowS st).2=st.2++t∧∀q∈t,q∈nx
 | [],st=>⟨rfl,[],by simp,by simp⟩
 | p::nx,st=>by
  obtain⟨h1,t,h2,h3⟩:=y5q nx (rowS st p);obtain⟨u,h4,h5⟩:=yg9 st.2 p;refine⟨by rw [List.foldl_cons,h1];simp [rowS];omega,u++t,?_,fun q hq=>?_⟩
  ·rw [List.foldl_cons,h2];show(fnd st.2 p).2++t=_;rw [h4,List.append_assoc]
  ·rcases yMa.1 hq with h|h
   ·rw [h5 q h];exact .head _
   ·exact .tail _ (h3 q h)
theorem y7s(nx l:List (Int×Int)):(rowF nx l).1.length=nx.length:=by
 have:=(y5q nx ([],l)).1;simpa [rowF] using this
theorem yah(nx l:List (Int×Int)):∃t,(rowF nx l).2=l++t∧∀q∈t,q∈nx:=(y5q nx ([],l)).2
theorem y7O(nx l:List (Int×Int))(j:Nat):(rowF (nx.take j) l).2.length≤(rowF nx l).2.length:=by
 have h:rowF nx l=(nx.drop j).foldl rowS (rowF (nx.take j) l):=by unfold rowF;rw [←List.foldl_append,List.take_append_drop]
 obtain⟨t,h2,_⟩:=(y5q (nx.drop j) (rowF (nx.take j) l)).2;rw [h,h2,List.length_append];omega
theorem yga{nx l:List (Int×Int)}(hn:nx.length≤4294967296)(hl:(rowF nx l).2.length≤4096):iter (y1C nx) (0,([]:List Int),numb 0 l,l)=some (.inl ((rowF nx l).1,numb 0 (rowF nx l).2,(rowF nx l).2)):=by
 obtain⟨o,ho,he⟩:=yo (f:=y1C nx) (fun j st=>st=((j:Int),(rowF (nx.take j) l).1,numb 0 (rowF (nx.take j) l).2,(rowF (nx.take j) l).2)) (fun o=>o= .inl ((rowF nx l).1,numb 0 (rowF nx l).2,(rowF nx l).2)) nx.length 0 (by omega) (fun j st hj e1=>by
   subst e1;have hs:rowF (nx.take (j+1)) l=rowS (rowF (nx.take j) l) nx[j]:=by rw [yTs hj,ybG]
   have h1:=y7O nx l (j+1);have h2:=y7O nx l j;have h3:=y7s (nx.take j) l;rw [List.length_take] at h3;refine .inl ⟨_,?_,rfl⟩;unfold y1C;simp only [ct_lt hj,if_true,yg hj,yOb];rw [ydf (by omega),yOb];rw [y1K (by simp;omega),yOb];rw [hs] at h1;have h4:(fnd (rowF (nx.take j) l).2 nx[j]).2.length≤(rowF nx l).2.length:=h1;rw [if_neg (by simp;omega),hs,nxt (by omega)];rfl)
  (fun st e1=>by
   subst e1;refine⟨_,?_,rfl⟩;unfold y1C;simp) (by omega) (0,([]:List Int),numb 0 l,l) rfl
 rw [ho,he]
theorem ygb{nx l:List (Int×Int)}(hn:nx.length≤4294967296)(hl:(rowF nx l).2.length≤4096):iter (y1b nx) (0,([]:List Int),l)=some (rowF nx l):=by
 obtain⟨o,ho,he⟩:=yo (f:=y1b nx) (fun j st=>st=((j:Int),(rowF (nx.take j) l).1,(rowF (nx.take j) l).2)) (fun o=>o=rowF nx l) nx.length 0 (by omega) (fun j st hj e1=>by
   subst e1;have hs:rowF (nx.take (j+1)) l=rowS (rowF (nx.take j) l) nx[j]:=by rw [yTs hj,ybG]
   have h1:=y7O nx l (j+1);have h2:=y7O nx l j;have h3:=y7s (nx.take j) l;rw [List.length_take] at h3;refine .inl ⟨_,?_,rfl⟩;unfold y1b;simp only [ct_lt hj,if_true,yg hj,yOb];rw [yfs (by omega),yOb,hs];unfold rowS fnd;by_cases hm:nx[j]∈(rowF (nx.take j) l).2
   ·rw [if_pos hm,if_neg (by simp),y1a,y1K (by simp;omega),yOb,if_pos hm];simp only [nxt (show j<4611686018427387904 by omega)]
   ·rw [if_neg hm,if_pos (by decide),y1K (by simp;omega),yOb,y1a,y1K (by simp;omega),yOb,if_neg hm];simp only [nxt (show j<4611686018427387904 by omega)])
  (fun st e1=>by
   subst e1;refine⟨_,?_,rfl⟩;unfold y1b;simp) (by omega) (0,([]:List Int),l) rfl
 rw [ho,he]
def evS(i:Int)(st:List (Int×Int)×List E3)(e:Int)(nx:List (Int×Int)):List (Int×Int)×List E3:=((rowF nx st.1).2,st.2++(isL (rowF nx st.1).1).map fun k=>(i,e,k))
theorem yai{xs:List Int}(h:xs.length≤4294967296):yy xs=some (isL xs):=by
 unfold yy;rw [if_pos h]
theorem yeA{st:Int×(List KeyT)×(List (Int×Int))×List Int×EdgL}{e:Int}{ks:List Int}{es:List E3}(h:ks.length+es.length≤4294967296):iter (y2y st e ks) (0,es)=some (es++ks.map fun k=>(st.1,e,k)):=
 y5p _ _ es h (fun j hj o=>by
  unfold y2y;simp only [ct_lt hj,if_true,yg hj,yOb]) fun o=>by
  unfold y2y;simp
theorem yeB{st:Int×(List (Int×Int))×List Int×EdgL}{e:Int}{ks:List Int}{es:List E3}(h:ks.length+es.length≤4294967296):iter (y2g st e ks) (0,es)=some (es++ks.map fun k=>(st.1,e,k)):=
 y5p _ _ es h (fun j hj o=>by
  unfold y2g;simp only [ct_lt hj,if_true,yg hj,yOb]) fun o=>by
  unfold y2g;simp
theorem y9x{α:Type}[DecidableEq α]{lt:α→α→Prop}(he:∀x y,¬lt x y→¬lt y x→x=y):∀{l:List α},l.Pairwise (fun a b=>¬lt b a)→(dd l).Pairwise lt
 | [],_=> .nil
 | [_],_=>List.pairwise_singleton _ _
 | x::y::l,h=>by
  have h1:=List.pairwise_cons.1 h;have ih:=y9x he (l:=y::l) h1.2;unfold dd;split
  ·exact ih
  ·rename_i hxy;refine List.Pairwise.cons (fun z hz=>?_) ih;have hz:=yaE.1 hz;refine Classical.byContradiction fun hn=>?_;have hxz:x=z:=he _ _ hn (h1.1 z hz);subst hxz;rcases List.mem_cons.1 hz with e|hz
   ·exact hxy e
   ·exact hxy (he _ _ ((List.pairwise_cons.1 h1.2).1 x hz) (h1.1 y (.head _)))
theorem ltfP{x y:Int×Int}:ltf yd x y=true↔ltP x y:=by
 obtain⟨z,h1,h2⟩:=yex x y;unfold ltf;rw [h1];simpa using h2
theorem ygc(xs:List (Int×Int)):(srtL (ltf yd) xs).Pairwise fun a b=>¬ltP b a:=
 (ybb (ycf (yey xs)) xs fun _ h=>h).imp fun h=>by rw [←ltfP];simp [h]
theorem ygd(a b:NdT)(p:Int×Int)(e:Int):(stpL a b p e).Pairwise ltP:=y9x (fun x y h1 h2=>by
 unfold ltP at h1 h2;exact Prod.ext (by omega) (by omega)) (ygc _)
theorem ydg(a b:NdT)(p:Int×Int)(e:Int):(stpL a b p e).Nodup:=(ygd a b p e).imp fun h e=>by subst e;unfold ltP at h;omega
def InG(a b:NdT)(q:Int×Int):Prop:=(0≤q.1∧q.1<a.2.1)∧0≤q.2∧q.2<b.2.1
theorem y3o{xs ys:List Int}{q:Int×Int}:q∈ya xs ys↔q.1∈xs∧q.2∈ys:=by
 unfold ya;simp only [List.mem_flatMap,List.mem_map];constructor
 ·rintro ⟨x,hx,y,hy,rfl⟩;exact⟨hx,hy⟩
 ·rintro ⟨h1,h2⟩;exact⟨_,h1,_,h2,rfl⟩
theorem ycu{es:List E3}{s e t:Int}:t∈tgtL es s e↔(s,e,t)∈es:=by
 unfold tgtL;simp only [List.mem_map,List.mem_filter,Bool.and_eq_true,beq_iff_eq];constructor
 ·rintro ⟨⟨f,v,t⟩,⟨h1,rfl,rfl⟩,rfl⟩;exact h1
 ·intro h;exact⟨_,⟨h,rfl,rfl⟩,rfl⟩
theorem yaJ{a:NdT}(ha:NdOk a){s e t:Int}(hs:0≤s∧s<a.2.1)(h:t∈tsL a s e):0≤t∧t<a.2.1:=by
 unfold tsL at h;split at h
 ·rw [yMs.1 h];exact hs
 ·exact ⟨(ha.esr _ (ycu.1 h)).2.2.1,(ha.esr _ (ycu.1 h)).2.2.2.1⟩
theorem yge{a b:NdT}(ha:NdOk a)(hb:NdOk b){p q:Int×Int}{e:Int}(hp:InG a b p)(h:q∈rawL a b p e):InG a b q:=by
 unfold rawL at h;split at h
 ·rcases yMa.1 h with h|h
  ·have:=y3o.1 h;exact⟨yaJ ha hp.1 this.1,by rw [yMs.1 this.2];exact hp.2⟩
  ·have:=y3o.1 h;exact⟨by rw [yMs.1 this.1];exact hp.1,yaJ hb hp.2 this.2⟩
 ·have:=y3o.1 h;exact⟨yaJ ha hp.1 this.1,yaJ hb hp.2 this.2⟩
theorem y9L{a b:NdT}(ha:NdOk a)(hb:NdOk b){p q:Int×Int}{e:Int}(hp:InG a b p)(h:q∈stpL a b p e):InG a b q:=yge ha hb hp (yfo.1 h)
theorem ycv{a b:NdT}{l:List (Int×Int)}(hn:l.Nodup)(hl:∀q∈l,InG a b q):l.length≤a.2.1.toNat*b.2.1.toNat:=by
 have h1:=y6k (a.2.1.toNat*b.2.1.toNat) (l.map fun q=>q.1.toNat*b.2.1.toNat+q.2.toNat) ?_ ?_
 ·simpa using h1
 ·unfold List.Nodup;rw [List.pairwise_map];refine List.Pairwise.imp_of_mem (fun {x y} hx hy hne h=>hne ?_) hn;obtain⟨⟨x1,x2⟩,x3,x4⟩:=hl x hx;obtain⟨⟨y1,y2⟩,y3,y4⟩:=hl y hy;have hb:0<b.2.1.toNat:=by omega
  have hx2:x.2.toNat<b.2.1.toNat:=by omega
  have hy2:y.2.toNat<b.2.1.toNat:=by omega
  have e1:x.1.toNat=y.1.toNat:=by
   have:=congrArg (· / b.2.1.toNat) h;simp only [Nat.mul_comm _ b.2.1.toNat,Nat.mul_add_div hb,Nat.div_eq_of_lt hx2,Nat.div_eq_of_lt hy2,Nat.add_zero] at this;exact this
  have e2:x.2.toNat=y.2.toNat:=by
   rw [e1] at h;omega
  exact Prod.ext (by omega) (by omega)
 ·intro k hk;obtain⟨q,hq,rfl⟩:=List.mem_map.1 hk;obtain⟨⟨x1,x2⟩,x3,x4⟩:=hl q hq;have h3:q.1.toNat+1≤a.2.1.toNat:=by omega
  have h4:=Nat.mul_le_mul_right b.2.1.toNat h3;rw [Nat.add_mul,Nat.one_mul] at h4;omega
theorem yaj{a b:NdT}(ha:NdOk a)(hb:NdOk b){p:Int×Int}{e:Int}(hp:InG a b p):(stpL a b p e).length≤a.2.1.toNat*b.2.1.toNat:=ycv (ydg a b p e) fun _ h=>y9L ha hb hp h
theorem ygE{l:List (Int×Int)}{p:Int×Int}(h:l.Nodup):(fnd l p).2.Nodup:=by
 unfold fnd;split
 ·exact h
 ·rename_i hn;rw [List.nodup_append];exact⟨h,by simp,fun x hx y hy e=>by rw [yMs.1 hy] at e;exact hn (e▸hx)⟩
theorem ygf{nx l:List (Int×Int)}(h:l.Nodup):(rowF nx l).2.Nodup:=by
 have:∀(nx:List (Int×Int)) (st:List Int×List (Int×Int)),st.2.Nodup→(nx.foldl rowS st).2.Nodup:=by
  intro nx
  induction nx with
  | nil=>intro st h;exact h
  | cons p nx ih=>intro st h;exact ih _ (ygE h)
 exact this nx ([],l) h
def evF(a b:NdT)(i:Int)(p:Int×Int)(ev:List Int)(st:List (Int×Int)×List E3):List (Int×Int)×List E3:=ev.foldl (fun st e=>evS i st e (stpL a b p e)) st
theorem ycw(a b:NdT)(i:Int)(p:Int×Int)(ev:List Int)(e:Int)(st:List (Int×Int)×List E3):evF a b i p (ev++[e]) st=evS i (evF a b i p ev st) e (stpL a b p e):=by unfold evF;rw [List.foldl_append];rfl
theorem yft(xs:List Int)(y:Int):ya xs [y]=xs.map fun x=>(x,y):=by
 induction xs with
 | nil=>rfl
 | cons x xs ih=>unfold ya at *;rw [List.flatMap_cons,ih];rfl
theorem yfu(x:Int)(ys:List Int):ya [x] ys=ys.map fun y=>(x,y):=by
 unfold ya;simp
structure PsOk (a b:NdT) (l:List (Int×Int)):Prop where
 nd:l.Nodup
 ing:∀q∈l,InG a b q
theorem PsOk.len{a b:NdT}{l:List (Int×Int)}(h:PsOk a b l):l.length≤a.2.1.toNat*b.2.1.toNat:=ycv h.nd h.ing
theorem PsOk.row{a b:NdT}{l nx:List (Int×Int)}(h:PsOk a b l)(hn:∀q∈nx,InG a b q):PsOk a b (rowF nx l).2:=⟨ygf h.nd,fun q hq=>by
 obtain⟨t,h1,h2⟩:=yah nx l;rw [h1] at hq;rcases yMa.1 hq with h3|h3
 ·exact h.ing q h3
 ·exact hn q (h2 q h3)⟩
theorem yaK{a b:NdT}(ha:NdOk a)(hb:NdOk b){i:Int}{p:Int×Int}(hp:InG a b p):∀(ev:List Int) {st:List (Int×Int)×List E3},PsOk a b st.1→PsOk a b (evF a b i p ev st).1∧(evF a b i p ev st).2.length≤st.2.length+ev.length*(a.2.1.toNat*b.2.1.toNat)
 | [],st,h=>⟨h,by simp [evF]⟩
 | e::ev,st,h=>by
  have h1:=h.row (nx:=stpL a b p e) fun q hq=>y9L ha hb hp hq;obtain⟨h2,h3⟩:=yaK ha hb (i:=i) hp ev (st:=evS i st e (stpL a b p e)) h1;refine⟨h2,?_⟩;show(evF a b i p ev (evS i st e (stpL a b p e))).2.length≤_;have h4:(evS i st e (stpL a b p e)).2.length=st.2.length+(stpL a b p e).length:=by
   unfold evS;rw [List.length_append,List.length_map,(y2v _).length_eq,y7s]
  have h5:=yaj ha hb (e:=e) hp;rw [h4] at h3;rw [List.length_cons,Nat.succ_mul];omega
section
variable{a b:NdT}(ha:NdOk a)(hb:NdOk b)(hN:a.2.1.toNat*b.2.1.toNat≤4096)
include ha hb hN
theorem ydC{st0:Int×(List KeyT)×(List (Int×Int))×List Int×EdgL}{p:Int×Int}{ev:List Int}{l:List (Int×Int)}{es:List E3}(hp:InG a b p)(hl:PsOk a b l)(hev:∀e∈ev,e= -1∨e∈a.1∨e∈b.1)(hes:es.length+ev.length*4096≤4294967296):
  iter (y1D a b st0 p ev) (0,numb 0 l,l,es)=some (.inl (numb 0 (evF a b st0.1 p ev (l,es)).1,evF a b st0.1 p ev (l,es))):=by
 obtain⟨o,ho,he⟩:=yo (f:=y1D a b st0 p ev) (fun j st=>st=((j:Int),numb 0 (evF a b st0.1 p (ev.take j) (l,es)).1,(evF a b st0.1 p (ev.take j) (l,es)).1,(evF a b st0.1 p (ev.take j) (l,es)).2)) (fun o=>o= .inl (numb 0 (evF a b st0.1 p ev (l,es)).1,evF a b st0.1 p ev (l,es))) ev.length 0 (by omega) (fun j st hj e1=>by
   subst e1;obtain⟨k1,k2⟩:=yaK ha hb (i:=st0.1) hp (ev.take j) (st:=(l,es)) hl;have hs:evF a b st0.1 p (ev.take (j+1)) (l,es)=evS st0.1 (evF a b st0.1 p (ev.take j) (l,es)) ev[j] (stpL a b p ev[j]):=by rw [yTs hj,ycw]
   generalize evF a b st0.1 p (ev.take j) (l,es)=S at hs k1 k2;have k3:=k1.row (nx:=stpL a b p ev[j]) fun q hq=>y9L ha hb hp hq;have k4:=k3.len;have k5:=yaj ha hb (e:=ev[j]) hp;have k6:=y7s (stpL a b p ev[j]) S.1;rw [List.length_take] at k2;have k7:min j ev.length*(a.2.1.toNat*b.2.1.toNat)≤ev.length*4096-4096:=by
    have:=Nat.mul_le_mul (show min j ev.length≤ev.length-1 by omega) hN;rw [Nat.sub_mul] at this;omega
   have k8:4096≤ev.length*4096:=Nat.le_mul_of_pos_left _ (by omega);refine .inl ⟨_,?_,rfl⟩;unfold y1D;simp only [ct_lt hj,if_true,yg hj,yOb];rw [yfp ha hb p (hev _ (yGm hj)),yOb,yga (by omega) (by omega),yOb];simp only;rw [yai (by omega),yOb,yeA (by rw [(y2v _).length_eq];dsimp only at k2;omega),yOb,nxt (by omega),hs];rfl)
  (fun st e1=>by
   subst e1;refine⟨_,?_,rfl⟩;unfold y1D;simp) (by omega) (0,numb 0 l,l,es) rfl
 rw [ho,he]
omit hN in
theorem ygg(st0:Int×(List (Int×Int))×List Int×EdgL)(st:Int×(List (Int×Int))×EdgL)(p:Int×Int)(ev:List Int)(e:Int)(hj:decide (st.1<(ev.length:Int))=true)(hx:idx ev st.1=some e):yH a b st0 p p ev st=y1c st0 st e (rawL a b p e):=by
 have la:=y6U ha p.1 e;have lb:=y6U hb p.2 e;have hr:=yag ha hb p e;unfold yH;rw [if_pos hj,hx,yOb];by_cases h1:e= -1
 ·subst h1;have hraw:rawL a b p (-1)=ya (tsL a p.1 (-1)) [p.2]++ya [p.1] (tsL b p.2 (-1)):=by unfold rawL;simp
  rw [if_pos (by decide),show yl a p.1 (-1)=some (tsL a p.1 (-1)) from y7N ha _ _,yOb];rw [y5p (xs:=tsL a p.1 (-1)) (y2i p (tsL a p.1 (-1))) (fun x=>(x,p.2)) [] (by simp;omega) (fun j hj o=>by
   unfold y2i;simp only [ct_lt hj,if_true,yg hj,yOb]) fun o=>by
   unfold y2i;simp]
  rw [yOb,show yl b p.2 (-1)=some (tsL b p.2 (-1)) from y7N hb _ _,yOb];rw [y5p (xs:=tsL b p.2 (-1)) (y2h p (tsL b p.2 (-1))) (fun x=>(p.1,x)) _ (by simp;omega) (fun j hj o=>by
   unfold y2h;simp only [ct_lt hj,if_true,yg hj,yOb]) fun o=>by
   unfold y2h;simp]
  rw [yOb,hraw,yft,yfu];rfl
 ·have hraw:rawL a b p e=ya (tsL a p.1 e) (tsL b p.2 e):=by unfold rawL;rw [if_neg h1]
  rw [if_neg (by simpa using h1),show yl a p.1 e=some (tsL a p.1 e) from y7N ha _ _,yOb];rw [y9w (xs:=tsL a p.1 e) (y2k b p e (tsL a p.1 e)) (fun x=>(tsL b p.2 e).map fun y=>(x,y)) [] (by omega) (by
   show(ya (tsL a p.1 e) (tsL b p.2 e)).length+0≤_;rw [←hraw];omega) (fun j hj o ho=>by
   unfold y2k;simp only [ct_lt hj,if_true,yg hj,yOb];rw [show yl b p.2 e=some (tsL b p.2 e) from y7N hb _ _,yOb];rw [y5p (xs:=tsL b p.2 e) (y2j (tsL a p.1 e)[j] (tsL b p.2 e)) (fun y=>((tsL a p.1 e)[j],y)) o (by simpa using ho) (fun j hj o=>by
    unfold y2j;simp only [ct_lt hj,if_true,yg hj,yOb]) fun o=>by
    unfold y2j;simp]
   rw [yOb,nxt (by omega)]) fun o=>by
   unfold y2k;simp]
  rw [yOb,hraw];rfl
end
theorem ydD{a b:NdT}(ha:NdOk a)(hb:NdOk b)(hN:a.2.1.toNat*b.2.1.toNat≤4096){st0:Int×(List (Int×Int))×List Int×EdgL}{p:Int×Int}{ev:List Int}{l:List (Int×Int)}{es:List E3}(hp:InG a b p)(hl:PsOk a b l)(hes:es.length+ev.length*4096≤4294967296):
  iter (yH a b st0 p p ev) (0,l,es)=some (evF a b st0.1 p ev (l,es)):=by
 obtain⟨o,ho,he⟩:=yo (f:=yH a b st0 p p ev) (fun j st=>st=((j:Int),evF a b st0.1 p (ev.take j) (l,es))) (fun o=>o=evF a b st0.1 p ev (l,es)) ev.length 0 (by omega) (fun j st hj e1=>by
   subst e1;obtain⟨k1,k2⟩:=yaK ha hb (i:=st0.1) hp (ev.take j) (st:=(l,es)) hl;have hs:evF a b st0.1 p (ev.take (j+1)) (l,es)=evS st0.1 (evF a b st0.1 p (ev.take j) (l,es)) ev[j] (stpL a b p ev[j]):=by rw [yTs hj,ycw]
   rw [ygg ha hb st0 _ p ev ev[j] (ct_lt hj) (yg hj)];generalize evF a b st0.1 p (ev.take j) (l,es)=S at hs k1 k2 ⊢;have k3:=k1.row (nx:=stpL a b p ev[j]) fun q hq=>y9L ha hb hp hq;have k4:=k3.len;have k5:=yaj ha hb (e:=ev[j]) hp;have k6:=y7s (stpL a b p ev[j]) S.1;rw [List.length_take] at k2;have k7:min j ev.length*(a.2.1.toNat*b.2.1.toNat)≤ev.length*4096-4096:=by
    have:=Nat.mul_le_mul (show min j ev.length≤ev.length-1 by omega) hN;rw [Nat.sub_mul] at this;omega
   have k8:4096≤ev.length*4096:=Nat.le_mul_of_pos_left _ (by omega);have hr:=yag ha hb p ev[j];refine .inl ⟨_,?_,rfl⟩;rw [y1c,yfm,yco hr,yOb,y9X (by rw [(y3Z _ _).length_eq];exact hr),yOb];have hrow:=ygb (nx:=stpL a b p ev[j]) (l:=S.1) (by omega) (by omega);unfold stpL at hrow;rw [hrow,yOb];have e2:rowF (dd (srtL (ltf yd) (rawL a b p ev[j]))) S.1=rowF (stpL a b p ev[j]) S.1:=rfl;rw [e2,yai (by omega),yOb,yeB (by rw [(y2v _).length_eq];dsimp only at k2 ⊢;omega),yOb];simp only [nxt (show j<4611686018427387904 by omega)];rw [hs];rfl)
  (fun st e1=>by
   subst e1;refine⟨evF a b st0.1 p ev (l,es),?_,rfl⟩;rw [List.take_length];unfold yH;simp) (by omega) (0,l,es) rfl
 rw [ho,he]
def prS(a b:NdT)(ev:List Int)(i:Nat)(S:List (Int×Int)×List Int×List E3):List (Int×Int)×List Int×List E3:=
 let p:=S.1.getD i (0,0)
 let r:=evF a b i p ev (S.1,S.2.2)
 (r.1,if(hasB a.2.2.2.1 p.1&&hasB b.2.2.2.1 p.2)=true then S.2.1++[(i:Int)] else S.2.1,r.2)
def prN(a b:NdT)(ev:List Int)(l:List (Int×Int)):Nat→List (Int×Int)×List Int×List E3
 | 0=>(l,[],[])
 | i+1=>prS a b ev i (prN a b ev l i)
section
variable{a b:NdT}(ha:NdOk a)(hb:NdOk b)(hN:a.2.1.toNat*b.2.1.toNat≤4096){ev:List Int}{l:List (Int×Int)}(hl:PsOk a b l)
include ha hb hl
theorem yaL :∀i,(∀j,j<i→j<(prN a b ev l j).1.length)→PsOk a b (prN a b ev l i).1∧(prN a b ev l i).2.1.length≤i∧(prN a b ev l i).2.2.length≤i*(ev.length*(a.2.1.toNat*b.2.1.toNat))
 | 0,_=>⟨hl,Nat.le_refl _,by simp [prN]⟩
 | i+1,h=>by
  obtain⟨h1,h2,h3⟩:=yaL i fun j hj=>h j (by omega);have hi:=h i (by omega);unfold prN;generalize prN a b ev l i=S at h1 h2 h3 hi;have hp:S.1.getD i (0,0)=S.1[i]:=by rw [List.getD_eq_getElem?_getD,yGe hi];rfl
  obtain⟨k1,k2⟩:=yaK ha hb (i:=(i:Int)) (h1.ing _ (yGm hi)) ev (st:=(S.1,S.2.2)) h1;unfold prS;rw [hp];refine⟨k1,?_,?_⟩
  ·dsimp only;split
   ·rw [List.length_append];simp;omega
   ·omega
  ·dsimp only at k2 ⊢;rw [Nat.succ_mul];omega
theorem ygh :∃n,n≤a.2.1.toNat*b.2.1.toNat∧(∀j,j<n→j<(prN a b ev l j).1.length)∧(prN a b ev l n).1.length≤n:=by
 refine Classical.byContradiction fun hn=>?_;have:∀i,i≤a.2.1.toNat*b.2.1.toNat+1→∀j,j<i→j<(prN a b ev l j).1.length:=by
  intro i
  induction i with
  | zero=>intro _ j hj;omega
  | succ i ih=>
   intro hi j hj;by_cases hji:j=i
   ·subst hji;refine Classical.byContradiction fun hlt=>hn ⟨j,by omega,ih (by omega),by omega⟩
   ·exact ih (by omega) j (by omega)
 have h1:=this _ (Nat.le_refl _);have h2:=h1 (a.2.1.toNat*b.2.1.toNat) (by omega);have h3:=(yaL ha hb hl (ev:=ev) (a.2.1.toNat*b.2.1.toNat) fun j hj=>h1 j (by omega)).1.len;omega
end
section
variable{a b:NdT}(ha:NdOk a)(hb:NdOk b)(hN:a.2.1.toNat*b.2.1.toNat≤4096){un:List Int}(hu:un.length≤64){l:List (Int×Int)}(hl:PsOk a b l)
include ha hb hN hu hl
theorem yeC{n:Nat}(hn:n≤4096)(hj:∀j,j<n→j<(prN a b (-1::un) l j).1.length){i:Nat}(hi:i<n):∃p,(prN a b (-1::un) l i).1[i]? =some p∧InG a b p∧PsOk a b (prN a b (-1::un) l i).1∧(prN a b (-1::un) l i).2.1.length≤4096∧(prN a b (-1::un) l i).2.2.length≤65*4096*4096:=by
 obtain⟨h1,h2,h3⟩:=yaL ha hb hl (ev:= -1::un) i fun j hj'=>hj j (by omega);have hlt:=hj i hi;refine⟨_,yGe hlt,h1.ing _ (yGm hlt),h1,by omega,Nat.le_trans h3 ?_⟩;have h4:(-1::un).length*(a.2.1.toNat*b.2.1.toNat)≤65*4096:=Nat.mul_le_mul (by simp;omega) hN
 calc i*((-1::un).length*(a.2.1.toNat*b.2.1.toNat))≤4096*(65*4096):=Nat.mul_le_mul (by omega) h4
  _=65*4096*4096:=by omega
theorem ydE(hun:∀e∈un,e∈a.1∨e∈b.1){n:Nat}(hn:n≤4096)(hj:∀j,j<n→j<(prN a b (-1::un) l j).1.length)(he:(prN a b (-1::un) l n).1.length≤n):
  iter (y2z a b un) (0,numb 0 l,l,([]:List Int),([]:List E3))=some (.inl (prN a b (-1::un) l n)):=by
 refine ybT (fun i=>((i:Int),numb 0 (prN a b (-1::un) l i).1,prN a b (-1::un) l i)) n (by omega) (fun i hi=>?_) ?_
 ·obtain ⟨p,hp,k1,k2,k3,k4⟩:=yeC ha hb hN hu hl hn hj hi;have hlt:=hj i hi;have hget:(prN a b (-1::un) l i).1.getD i (0,0)=p:=by rw [List.getD_eq_getElem?_getD,hp];rfl
  have hs:prN a b (-1::un) l (i+1)=prS a b (-1::un) i (prN a b (-1::un) l i):=rfl;rw [hs];unfold prS;rw [hget];generalize prN a b (-1::un) l i=S at hp k2 k3 k4 hlt;have hx:S.1[i]=p:=by rw [yGe hlt] at hp;exact Option.some.inj hp
  unfold y2z;simp only [ct_lt hlt,if_true,yg hlt,yOb,hx];have hma:=ha.lm;have hmb:=hb.lm;rw [y4H (by omega) ha.mks,yOb];have hb2:(if hasB a.2.2.2.1 p.1=true then(yk b.2.2.2.1 p.2).bind fun r=>some r else some false)=some (hasB a.2.2.2.1 p.1&&hasB b.2.2.2.1 p.2):=by
   rw [y4H (by omega) hb.mks];cases hasB a.2.2.2.1 p.1 <;> simp
  rw [hb2,yOb];have hev:∀mk:List Int,y1E a b un ((i:Int),numb 0 S.1,S) p mk=some (.inl (((i+1:Nat):Int),numb 0 (evF a b i p (-1::un) (S.1,S.2.2)).1,(evF a b i p (-1::un) (S.1,S.2.2)).1,mk,(evF a b i p (-1::un) (S.1,S.2.2)).2)):=fun mk=>by
   rw [y1E,y1K (by simp;omega),yOb];have:=ydC ha hb hN (st0:=((i:Int),numb 0 S.1,S)) (p:=p) (ev:= -1::un) (l:=S.1) (es:=S.2.2) k1 k2 (fun e he=>by
    rcases List.mem_cons.1 he with h|h
    ·exact .inl h
    ·exact .inr (hun e h)) (by simp;omega)
   rw [show ([-1]:List Int)++un= -1::un from rfl,this,yOb];simp only [nxt (show i<4611686018427387904 by omega)]
  split
  ·rw [y1K (by simp;omega),yOb,hev]
  ·rw [hev]
 ·unfold y2z;rw [if_neg (by simp;omega)]
theorem ydF{n:Nat}(hn:n≤4096)(hj:∀j,j<n→j<(prN a b (-1::un) l j).1.length)(he:(prN a b (-1::un) l n).1.length≤n):
  iter (y2l a b un) (0,l,([]:List Int),([]:List E3))=some (prN a b (-1::un) l n):=by
 refine ybT (fun i=>((i:Int),prN a b (-1::un) l i)) n (by omega) (fun i hi=>?_) ?_
 ·obtain ⟨p,hp,k1,k2,k3,k4⟩:=yeC ha hb hN hu hl hn hj hi;have hlt:=hj i hi;have hget:(prN a b (-1::un) l i).1.getD i (0,0)=p:=by rw [List.getD_eq_getElem?_getD,hp];rfl
  have hs:prN a b (-1::un) l (i+1)=prS a b (-1::un) i (prN a b (-1::un) l i):=rfl;rw [hs];unfold prS;rw [hget];generalize prN a b (-1::un) l i=S at hp k2 k3 k4 hlt;have hx:S.1[i]=p:=by rw [yGe hlt] at hp;exact Option.some.inj hp
  unfold y2l;simp only [ct_lt hlt,if_true,yg hlt,yOb,hx];have hma:=ha.lm;have hmb:=hb.lm;rw [y4g (by omega),yOb];have hb2:(if hasB a.2.2.2.1 p.1=true then(ym b.2.2.2.1 p.2).bind fun r=>some r else some false)=some (hasB a.2.2.2.1 p.1&&hasB b.2.2.2.1 p.2):=by
   rw [y4g (by omega)];cases hasB a.2.2.2.1 p.1 <;> simp
  rw [hb2,yOb];have hev:∀mk:List Int,y1d a b un ((i:Int),S) p p mk=some (.inl (((i+1:Nat):Int),(evF a b i p (-1::un) (S.1,S.2.2)).1,mk,(evF a b i p (-1::un) (S.1,S.2.2)).2)):=fun mk=>by
   rw [y1d,y1K (by simp;omega),yOb];have:=ydD ha hb hN (st0:=((i:Int),S)) (p:=p) (ev:= -1::un) (l:=S.1) (es:=S.2.2) k1 k2 (by simp;omega);rw [show ([-1]:List Int)++un= -1::un from rfl,this,yOb];simp only [nxt (show i<4611686018427387904 by omega)]
  split
  ·rw [y1K (by simp;omega),yOb,hev]
  ·rw [hev]
 ·unfold y2l;rw [if_neg (by simp;omega)]
end
def numsL(n:Nat):List Int:=(List.range n).map fun i:Nat=>(i:Int)
theorem yaM(n:Nat):numsL (n+1)=numsL n++[(n:Int)]:=by unfold numsL;rw [List.range_succ,List.map_append];rfl
theorem y9y(n:Nat):(numsL n).length=n:=by simp [numsL]
theorem ygF{ys:List Int}(x:Int)(l:List (Int×Int))(hl:ys.length+l.length≤4096):iter (yv ([],0,ys,[],[]) x) (0,l,numsL l.length)=some (l++ys.map (fun y=>(x,y)),numsL (l.length+ys.length)):=by
 obtain⟨o,ho,he⟩:=yo (f:=yv ([],0,ys,[],[]) x) (fun j st=>st=((j:Int),l++(ys.take j).map (fun y=>(x,y)),numsL (l.length+j))) (fun o=>o=(l++ys.map (fun y=>(x,y)),numsL (l.length+ys.length))) ys.length 0 (by omega) (fun j st hj e1=>by
   subst e1;refine .inl ⟨_,?_,rfl⟩;unfold yv;simp only [ct_lt hj,if_true,yg hj,yOb];rw [y1K (by simp [y9y];omega),yOb,y1K (by simp;omega),yOb,nxt (by omega)];have h1:(l++(ys.take j).map fun y=>(x,y)).length=l.length+j:=by simp;omega
   rw [h1,show l.length+(j+1)=(l.length+j)+1 by omega,yaM,yTs hj,List.map_append,List.append_assoc];rfl)
  (fun st e1=>by
   subst e1;refine⟨_,?_,rfl⟩;unfold yv;simp) (by omega) (0,l,numsL l.length) (by simp)
 rw [ho,he]
theorem yfv{a b:NdT}(h:a.2.2.1.length*b.2.2.1.length≤4096)(h2:a.2.2.1.length≤1000000):iter (y1e a b) (0,([]:List (Int×Int)),([]:List Int))=some (ya a.2.2.1 b.2.2.1,numsL (ya a.2.2.1 b.2.2.1).length):=by
 obtain⟨o,ho,he⟩:=yo (f:=y1e a b) (fun j st=>st=((j:Int),ya (a.2.2.1.take j) b.2.2.1,numsL (ya (a.2.2.1.take j) b.2.2.1).length)) (fun o=>o=(ya a.2.2.1 b.2.2.1,numsL (ya a.2.2.1 b.2.2.1).length)) a.2.2.1.length 0 (by omega) (fun j st hj e1=>by
   subst e1;refine .inl ⟨_,?_,rfl⟩;have hs:ya (a.2.2.1.take (j+1)) b.2.2.1=ya (a.2.2.1.take j) b.2.2.1++b.2.2.1.map fun y=>(a.2.2.1[j],y):=by
    unfold ya;rw [yTs hj,List.flatMap_append];simp
   have hb:b.2.2.1.length+(ya (a.2.2.1.take j) b.2.2.1).length≤4096:=by
    rw [y4M,List.length_take,Nat.min_eq_left (by omega)];have:=Nat.mul_le_mul_right b.2.2.1.length (show j+1≤a.2.2.1.length by omega);rw [Nat.succ_mul] at this;omega
   unfold y1e;simp only [ct_lt hj,if_true,yg hj,yOb];have:=ygF (ys:=b.2.2.1) a.2.2.1[j] (ya (a.2.2.1.take j) b.2.2.1) hb;have e2:yv b a.2.2.1[j]=yv ([],0,b.2.2.1,[],[]) a.2.2.1[j]:=rfl;rw [e2,this,yOb,nxt (by omega),hs,List.length_append,List.length_map])
  (fun st e1=>by
   subst e1;refine⟨(ya a.2.2.1 b.2.2.1,numsL (ya a.2.2.1 b.2.2.1).length),?_,rfl⟩;rw [List.take_length];unfold y1e;simp) (by omega) (0,[],[]) rfl
 rw [ho,he]
theorem yfw{r:List (Int×Int)}(hn:r.Nodup)(hl:r.length≤4096):iter (y1F r) (0,([]:List KeyT),([]:List (Int×Int)),([]:List Int))=some (.inl (numb 0 r,r,numsL r.length)):=by
 obtain⟨o,ho,he⟩:=yo (f:=y1F r) (fun j st=>st=((j:Int),numb 0 (r.take j),r.take j,numsL j)) (fun o=>o= .inl (numb 0 r,r,numsL r.length)) r.length 0 (by omega) (fun j st hj e1=>by
   subst e1;refine .inl ⟨_,?_,rfl⟩;have hlen:(r.take j).length=j:=by rw [List.length_take];omega
   have hm:r[j]∉r.take j:=fun hm=>by
    obtain⟨k,hk,e⟩:=List.mem_iff_getElem.1 hm;rw [List.getElem_take] at e;exact List.pairwise_iff_getElem.1 hn k j (by omega) hj (by omega) e
   have hf:fnd (r.take j) r[j]=((j:Int),r.take (j+1)):=by
    unfold fnd;rw [if_neg hm,hlen,yTs hj]
   unfold y1F;simp only [ct_lt hj,if_true,yg hj,yOb];rw [ydf (by omega),yOb,hf];simp only;rw [y1K (by simp [y9y];omega),yOb,if_neg (by simp;omega),nxt (by omega),yaM])
  (fun st e1=>by
   subst e1;refine⟨.inl (numb 0 r,r,numsL r.length),?_,rfl⟩;rw [List.take_length];unfold y1F;simp) (by omega) (0,[],[],[]) rfl
 rw [ho,he]
theorem yeD{xs ys:List Int}(h:xs.length+ys.length≤1000000):y3f xs ys=some (dd (isL (xs++ys))):=by
 rw [y3f,yi,y1K (by simp;omega),yOb,yOb,List.nil_append,y1K (by omega),yOb,yai (by simp;omega),yOb,ycL (by rw [(y2v _).length_eq];simp;omega),yOb]
theorem y9z(xs:List Int):(dd (isL xs)).Pairwise (· < ·):=y9x (lt:=fun a b:Int=>a<b) (fun x y h1 h2=>by omega) ((yay xs).imp fun h=>by omega)
theorem y9A{xs:List Int}{x:Int}:x∈dd (isL xs)↔x∈xs:=by rw [yaE,(y2v xs).mem_iff]
def mg(kp:Bool→Bool→Bool):List Int→List Int→List Int
 | [],[]=> []
 | [],b::vs=>if kp false true=true then b::mg kp [] vs else mg kp [] vs
 | a::us,[]=>if kp true false=true then a::mg kp us [] else mg kp us []
 | a::us,b::vs=>if a<b then(if kp true false=true then a::mg kp us (b::vs) else mg kp us (b::vs)) else if b<a then(if kp false true=true then b::mg kp (a::us) vs else mg kp (a::us) vs) else(if kp true true=true then b::mg kp us vs else mg kp us vs)
termination_by us vs=>us.length+vs.length
theorem y8y{kp:Bool→Bool→Bool}{h:Int}{us vs us' vs' r:List Int}{bu bv:Bool}(hr:Inc r∧∀x,x∈r↔((x∈us'∨x∈vs')∧kp (hasB us' x) (hasB vs' x)=true))
  (hu:∀x,x∈us↔(x=h∧bu=true)∨x∈us') (hv:∀x,x∈vs↔(x=h∧bv=true)∨x∈vs') (gu:∀x∈us',h<x) (gv:∀x∈vs',h<x) (hb:bu=true∨bv=true):
  Inc (if kp bu bv=true then h::r else r)∧∀x,x∈(if kp bu bv=true then h::r else r)↔((x∈us∨x∈vs)∧kp (hasB us x) (hasB vs x)=true):=by
 have e1:hasB us h=bu:=by
  rw [Bool.eq_iff_iff,yD,hu];exact⟨fun e=>e.elim (fun e=>e.2) (fun e=>by have:=gu _ e;omega),fun e=> .inl ⟨rfl,e⟩⟩
 have e2:hasB vs h=bv:=by
  rw [Bool.eq_iff_iff,yD,hv];exact⟨fun e=>e.elim (fun e=>e.2) (fun e=>by have:=gv _ e;omega),fun e=> .inl ⟨rfl,e⟩⟩
 have e3:∀x,x≠h→hasB us x=hasB us' x:=fun x hx=>by
  rw [Bool.eq_iff_iff,yD,yD,hu];exact⟨fun e=>e.elim (fun e=>absurd e.1 hx) id,.inr⟩
 have e4:∀x,x≠h→hasB vs x=hasB vs' x:=fun x hx=>by
  rw [Bool.eq_iff_iff,yD,yD,hv];exact⟨fun e=>e.elim (fun e=>absurd e.1 hx) id,.inr⟩
 have hgt:∀x∈r,h<x:=fun x hx=>((hr.2 x).1 hx).1.elim (gu x) (gv x);have hne:∀x,x≠h→(x∈r↔((x∈us∨x∈vs)∧kp (hasB us x) (hasB vs x)=true)):=fun x hx=>by
  rw [hr.2 x,e3 x hx,e4 x hx,hu,hv];constructor
  ·rintro ⟨h1|h1,h2⟩
   ·exact ⟨.inl (.inr h1),h2⟩
   ·exact ⟨.inr (.inr h1),h2⟩
  ·rintro ⟨(h1|h1)|(h1|h1),h2⟩
   ·exact absurd h1.1 hx
   ·exact ⟨.inl h1,h2⟩
   ·exact absurd h1.1 hx
   ·exact ⟨.inr h1,h2⟩
 have hh:(h∈us∨h∈vs):=hb.elim (fun e=> .inl ((hu h).2 (.inl ⟨rfl,e⟩))) (fun e=> .inr ((hv h).2 (.inl ⟨rfl,e⟩)));cases hk:kp bu bv with
 | true=>
  rw [if_pos rfl];refine⟨List.pairwise_cons.2 ⟨hgt,hr.1⟩,fun x=>?_⟩;rw [List.mem_cons];by_cases hx:x=h
  ·subst hx;exact⟨fun _=>⟨hh,by rw [e1,e2,hk]⟩,fun _=> .inl rfl⟩
  ·rw [←hne x hx];exact⟨fun e=>e.resolve_left hx,.inr⟩
 | false=>
  rw [if_neg (by simp)];refine⟨hr.1,fun x=>?_⟩;by_cases hx:x=h
  ·subst hx;refine⟨fun e=>absurd (hgt x e) (by omega),fun e=>?_⟩;rw [e1,e2,hk] at e;cases e.2
  ·exact hne x hx
theorem y6V(kp:Bool→Bool→Bool):∀(us vs:List Int),Inc us→Inc vs→Inc (mg kp us vs)∧∀x,x∈mg kp us vs↔((x∈us∨x∈vs)∧kp (hasB us x) (hasB vs x)=true)
 | [],[],_,_=>by
  rw [mg];exact⟨List.Pairwise.nil,fun x=>⟨fun h=>(by cases h),fun h=>(by rcases h.1 with h|h <;> cases h)⟩⟩
 | [],b::vs,_,hv=>by
  obtain⟨v1,v2⟩:=List.pairwise_cons.1 hv;rw [mg];exact y8y (bu:=false) (bv:=true) (y6V kp [] vs List.Pairwise.nil v2) (fun x=>by simp) (fun x=>by simp) (fun x hx=>by cases hx) v1 (.inr rfl)
 | a::us,[],hu,_=>by
  obtain⟨u1,u2⟩:=List.pairwise_cons.1 hu;rw [mg];exact y8y (bu:=true) (bv:=false) (y6V kp us [] u2 List.Pairwise.nil) (fun x=>by simp) (fun x=>by simp) u1 (fun x hx=>by cases hx) (.inl rfl)
 | a::us,b::vs,hu,hv=>by
  obtain⟨u1,u2⟩:=List.pairwise_cons.1 hu;obtain⟨v1,v2⟩:=List.pairwise_cons.1 hv;rw [mg];by_cases h1:a<b
  ·rw [if_pos h1];refine y8y (bu:=true) (bv:=false) (y6V kp us (b::vs) u2 hv) (fun x=>by simp) (fun x=>by simp) u1 (fun x hx=>?_) (.inl rfl);rcases List.mem_cons.1 hx with rfl|hx
   ·exact h1
   ·have:=v1 x hx;omega
  ·rw [if_neg h1];by_cases h2:b<a
   ·rw [if_pos h2];refine y8y (bu:=false) (bv:=true) (y6V kp (a::us) vs hu v2) (fun x=>by simp) (fun x=>by simp) (fun x hx=>?_) v1 (.inr rfl);rcases List.mem_cons.1 hx with rfl|hx
    ·exact h2
    ·have:=u1 x hx;omega
   ·obtain rfl:a=b:=by omega
    rw [if_neg h2];exact y8y (bu:=true) (bv:=true) (y6V kp us vs u2 v2) (fun x=>by simp) (fun x=>by simp) u1 v1 (.inl rfl)
termination_by us vs=>us.length+vs.length
theorem ydG{kp:Bool→Bool→Bool}{f:Bool→Bool→Option Bool}(hf:∀a b,f a b=some (kp a b)){out us vs:List Int}(hl:out.length≤4000000)(hne:0<us.length+vs.length):
  ∃o u v,y1k f (out,us,vs)=some (.inl (o,u,v))∧o++mg kp u v=out++mg kp us vs∧o.length≤out.length+1∧u.length+v.length+1≤us.length+vs.length:=by
 have ho:∀a:Int,app out ([a]:List Int)=some (out++[a]):=fun a=>ydO (by simp;omega);have fin:∀(bu bv:Bool) (h:Int) (u v:List Int),∃o,y2M f (out,us,vs) bu bv u v h=some (.inl (o,u,v))∧o++mg kp u v=out++(if kp bu bv=true then h::mg kp u v else mg kp u v)∧o.length≤out.length+1:=fun bu bv h u v=>by
  rw [y2M,hf,yOb];dsimp only;cases kp bu bv with
  | true=>rw [if_pos rfl,ho,yOb];exact⟨_,rfl,by simp,by simp⟩
  | false=>rw [if_neg (by simp)];exact⟨_,rfl,by simp,by omega⟩
 cases us with
 | nil=>
  cases vs with
  | nil=>simp at hne
  | cons b vs=>
   obtain⟨o,h1,h2,h3⟩:=fin false true b [] vs;refine⟨o,[],vs,?_,by rw [h2,mg],h3,by simp⟩;rw [y1k];dsimp only;rw [if_pos (by simp),if_neg (by simp),y1j];dsimp only;rw [if_pos (by simp),if_pos (by simp),yP,if_neg (by simp),yO,if_pos rfl];dsimp only;rw [y5e,yOb,y8x,yOb];exact h1
 | cons a us=>
  cases vs with
  | nil=>
   obtain⟨o,h1,h2,h3⟩:=fin true false a us [];refine⟨o,us,[],?_,by rw [h2,mg],h3,by simp⟩;rw [y1k];dsimp only;rw [if_pos (by simp),if_pos (by simp),if_pos (by simp),y1j];dsimp only;rw [if_neg (by simp),yP,if_pos rfl];dsimp only;rw [y5e,yOb,y8x,yOb,yO,if_neg (by simp)];exact h1
  | cons b vs=>
   have e0:y1k f (out,a::us,b::vs)=yP f (out,a::us,b::vs) (decide (a≤b)) (decide (b≤a)):=by
    rw [y1k];dsimp only;rw [if_pos (by simp),if_pos (by simp),if_neg (by simp;omega),y5e,yOb,y5e,yOb,y1j];dsimp only;rw [if_pos (by simp),if_neg (by simp;omega),y5e,yOb,y5e,yOb]
   rw [e0,yP];dsimp only;by_cases h1:a<b
   ·obtain ⟨o,g1,g2,g3⟩:=fin true false a us (b::vs);refine⟨o,us,b::vs,?_,by rw [g2,mg,if_pos h1],g3,by simp;omega⟩;rw [show decide (a≤b)=true by simp;omega,show decide (b≤a)=false by simp;omega,if_pos rfl,y5e,yOb,y8x,yOb,yO,if_neg (by simp)];exact g1
   ·by_cases h2:b<a
    ·obtain ⟨o,g1,g2,g3⟩:=fin false true b (a::us) vs;refine⟨o,a::us,vs,?_,by rw [g2,mg,if_neg h1,if_pos h2],g3,by simp;omega⟩;rw [show decide (a≤b)=false by simp;omega,show decide (b≤a)=true by simp;omega,if_neg (by simp),yO,if_pos rfl];dsimp only;rw [y5e,yOb,y8x,yOb];exact g1
    ·obtain ⟨o,g1,g2,g3⟩:=fin true true b us vs;refine⟨o,us,vs,?_,by rw [g2,mg,if_neg h1,if_neg h2],g3,by simp;omega⟩;rw [show decide (a≤b)=true by simp;omega,show decide (b≤a)=true by simp;omega,if_pos rfl,y5e,yOb,y8x,yOb,yO,if_pos rfl];dsimp only;rw [y5e,yOb,y8x,yOb];exact g1
theorem yfx{kp:Bool→Bool→Bool}{f:Bool→Bool→Option Bool}(hf:∀a b,f a b=some (kp a b)){us vs:List Int}(hu:us.length≤1000000)(hv:vs.length≤1000000):y2T us vs f=some (mg kp us vs):=by
 obtain⟨o,h1,h2⟩:=yo (f:=y1k f) (fun i s=>s.1++mg kp s.2.1 s.2.2=mg kp us vs∧s.1.length≤i∧s.2.1.length+s.2.2.length+i≤us.length+vs.length) (fun o=>o=mg kp us vs) (us.length+vs.length) 0 (by omega) (fun i s hi ⟨g1,g0,g2⟩=>by
   obtain⟨out,u,v⟩:=s;dsimp only at g1 g0 g2;by_cases hne:0<u.length+v.length
   ·obtain ⟨o,u',v',e,g3,g5,g4⟩:=ydG hf (out:=out) (by omega) hne;exact .inl ⟨_,e,by rw [←g1];exact g3,by dsimp only;omega,by dsimp only;omega⟩
   ·have e1:u= []:=List.eq_nil_of_length_eq_zero (by omega);have e2:v= []:=List.eq_nil_of_length_eq_zero (by omega);subst e1;subst e2;rw [mg,List.append_nil] at g1;exact .inr ⟨out,rfl,g1⟩) (fun s ⟨g1,g0,g2⟩=>by
   obtain⟨out,u,v⟩:=s;dsimp only at g1 g2;have e1:u= []:=List.eq_nil_of_length_eq_zero (by omega);have e2:v= []:=List.eq_nil_of_length_eq_zero (by omega);subst e1;subst e2;rw [mg,List.append_nil] at g1;exact⟨out,rfl,g1⟩) (yZl _) ([],us,vs) ⟨rfl,by simp,by dsimp only;omega⟩
 rw [y2T,h1,h2];rfl
theorem yeE{us vs:List Int}(hu:us.length≤1000000)(hv:vs.length≤1000000):y2U us vs=some (mg (fun a b=>a||b) us vs):=by
 rw [y2U,yfx (f:=y4D) (kp:=fun a b=>a||b) (fun a b=>rfl) hu hv];rfl
theorem ybg{xs:List Int}{n:Int}(hi:xs.Pairwise (· < ·))(hr:∀x∈xs,0≤x∧x<n)(hl:xs.length≤1000000):y1i xs n=some 0:=by
 obtain⟨o,ho,he⟩:=yo (f:=y2V xs n) (fun j st=>st=(j:Int)) (fun o=>o= .inl ()) xs.length 0 (by omega) (fun j st hj e1=>by
   subst e1;refine .inl ⟨_,?_,rfl⟩;have h1:=hr _ (yGm hj);unfold y2V;rw [if_pos (ct_lt hj),yg hj,yOb,if_neg (by simp;omega)];by_cases h0:j=0
   ·subst h0;rw [if_neg (by simp),yOb,if_neg (by simp)];rfl
   ·rw [if_pos (by simp;omega),show(j:Int)-1=((j-1:Nat):Int) by omega,W_nat (by omega),yg (show j-1<xs.length by omega),yOb,yOb];have h2:=List.pairwise_iff_getElem.1 hi (j-1) j (by omega) hj (by omega);rw [if_neg (by simpa using h2),nxt (by omega)])
  (fun st e1=>by
   subst e1;refine⟨.inl (),?_,rfl⟩;unfold y2V;rw [if_neg ct_ge]) (by omega) 0 rfl
 rw [y1i,ho,he];rfl
theorem y8Y{a:NdT}(ha:NdOk a):yu a=some 0:=by
 have hn0:=ha.n0;have hn1:=ha.n1;have hle:=ha.le;have hla:=ha.la;have h1:iter (yt a) 0=some (.inl ()):=y5o (n:=3) (by omega) (by
  have e0:yt a 0=some (.inl 1):=by
   unfold yt;rw [if_pos (by decide),show idx [a.2.2.1,a.2.2.2.1] 0=some a.2.2.1 from rfl,yOb,ybg ha.ini ha.inr ha.li];rfl
  have e1:yt a 1=some (.inl 2):=by
   unfold yt;rw [if_pos (by decide),show idx [a.2.2.1,a.2.2.2.1] 1=some a.2.2.2.1 from rfl,yOb,ybg ha.mks ha.mkr ha.lm];rfl
  have e2:yt a 2=some (.inr (.inl ())):=rfl;rw [yn,e0];dsimp only;rw [yn,e1];dsimp only;rw [yn,e2])
 obtain⟨o,ho,he⟩:=yo (f:=y2a a) (fun j st=>st=(j:Int)) (fun o=>o= .inl ()) a.2.2.2.2.length 0 (by omega) (fun j st hj e1=>by
   subst e1;refine .inl ⟨_,?_,rfl⟩;obtain⟨g1,g2,g3,g4,g5⟩:=ha.esr _ (yGm hj);unfold y2a;rw [if_pos (ct_lt hj),yg hj,yOb,if_neg (by simp;omega)];have hc:(if (a.2.2.2.2[j].2.1 != -1)=true then(yk a.1 a.2.2.2.2[j].2.1).bind fun r51=>some (!r51) else some false)=some false:=by
    rcases g5 with h|h
    ·rw [if_neg (by simp [h])]
    ·split
     ·rw [y4H (by omega) ha.al,yD.2 h];rfl
     ·rfl
   rw [hc,yOb,if_neg (by simp)];by_cases h0:j=0
   ·subst h0;rw [if_neg (by simp)];rfl
   ·rw [if_pos (by simp;omega),show(j:Int)-1=((j-1:Nat):Int) by omega,W_nat (by omega),yg (show j-1<a.2.2.2.2.length by omega),yOb];have h2:=List.pairwise_iff_getElem.1 ha.es (j-1) j (by omega) hj (by omega);obtain⟨z,z1,z2,z3⟩:=yaf a.2.2.2.2[j-1] a.2.2.2.2[j];rw [z1,yOb,y1Z,if_neg (by
     have:=z2.2 h2;simp;omega),nxt (by omega)])
  (fun st e1=>by
   subst e1;refine⟨.inl (),?_,rfl⟩;unfold y2a;rw [if_neg ct_ge]) (by omega) 0 rfl
 rw [yu,if_neg (by simp;omega),if_neg (by simp;omega),ybg ha.al ha.alr ha.la,yOb,if_neg (by simp),h1,yOb,ho,he];rfl
theorem incE :∀{xs ys:List Int},Inc xs→Inc ys→(∀x,x∈xs↔x∈ys)→xs=ys
 | [],[],_,_,_=>rfl
 | [],y::ys,_,_,h=>by have:=(h y).2 (List.mem_cons_self ..);cases this
 | x::xs,[],_,_,h=>by have:=(h x).1 (List.mem_cons_self ..);cases this
 | x::xs,y::ys,hx,hy,h=>by
  obtain⟨x1,x2⟩:=List.pairwise_cons.1 hx;obtain⟨y1,y2⟩:=List.pairwise_cons.1 hy;have e:x=y:=by
   rcases List.mem_cons.1 ((h x).1 (List.mem_cons_self ..)) with h1|h1
   ·exact h1
   ·rcases List.mem_cons.1 ((h y).2 (List.mem_cons_self ..)) with h2|h2
    ·exact h2.symm
    ·have:=x1 y h2;have:=y1 x h1;omega
  subst e;rw [incE x2 y2 (fun z=>?_)];constructor
  ·intro hz;rcases List.mem_cons.1 ((h z).1 (List.mem_cons_of_mem _ hz)) with h1|h1
   ·have:=x1 z hz;omega
   ·exact h1
  ·intro hz;rcases List.mem_cons.1 ((h z).2 (List.mem_cons_of_mem _ hz)) with h1|h1
   ·have:=y1 z hz;omega
   ·exact h1
theorem ydH{xs ys:List Int}(hx:xs.Pairwise (· < ·))(hy:ys.Pairwise (· < ·))(lx:xs.length≤1000000)(ly:ys.length≤1000000):y2U xs ys=some (dd (isL (xs++ys))):=by
 rw [yeE lx ly];obtain⟨h1,h2⟩:=y6V (fun a b=>a||b) xs ys hx hy;rw [incE h1 (y9z _) fun x=>by
  rw [h2,y9A,yMa];constructor
  ·exact fun h=>h.1
  ·intro h;refine⟨h,?_⟩;rcases h with h|h
   ·rw [yD.2 h];rfl
   ·rw [yD.2 h];simp]
theorem ybH{xs ys:List Int}(hx:xs.Nodup)(hy:ys.Nodup):(ya xs ys).Nodup:=by
 induction xs with
 | nil=>exact .nil
 | cons x xs ih=>
  have h:=List.nodup_cons.1 hx;have e:ya (x::xs) ys=ys.map (fun y=>(x,y))++ya xs ys:=by unfold ya;rw [List.flatMap_cons]
  rw [e,List.nodup_append];refine⟨?_,ih h.2,fun p hp q hq e=>?_⟩
  ·unfold List.Nodup;rw [List.pairwise_map];exact hy.imp fun hne e=>hne (congrArg Prod.snd e)
  ·subst e;obtain⟨y,_,rfl⟩:=List.mem_map.1 hp;exact h.1 (y3o.1 hq).1
theorem ydI{a b:NdT}(ha:NdOk a)(hb:NdOk b)(hN:a.2.1.toNat*b.2.1.toNat≤4096)(lu:a.1.length+b.1.length≤64):∃n,n≤4096∧(∀j,j<n→j<(prN a b (-1::dd (isL (a.1++b.1))) (ya a.2.2.1 b.2.2.1) j).1.length)∧(prN a b (-1::dd (isL (a.1++b.1))) (ya a.2.2.1 b.2.2.1) n).1.length≤n∧
  PsOk a b (ya a.2.2.1 b.2.2.1)∧
  y1Y a b=some ((dd (isL (a.1++b.1)),((prN a b (-1::dd (isL (a.1++b.1))) (ya a.2.2.1 b.2.2.1) n).1.length:Int),numsL (ya a.2.2.1 b.2.2.1).length,(prN a b (-1::dd (isL (a.1++b.1))) (ya a.2.2.1 b.2.2.1) n).2),(prN a b (-1::dd (isL (a.1++b.1))) (ya a.2.2.1 b.2.2.1) n).1)∧
  y1z a b=some ((dd (isL (a.1++b.1)),((prN a b (-1::dd (isL (a.1++b.1))) (ya a.2.2.1 b.2.2.1) n).1.length:Int),numsL (ya a.2.2.1 b.2.2.1).length,(prN a b (-1::dd (isL (a.1++b.1))) (ya a.2.2.1 b.2.2.1) n).2),(prN a b (-1::dd (isL (a.1++b.1))) (ya a.2.2.1 b.2.2.1) n).1,0):=by
 have na:a.2.2.1.Nodup:=ha.ini.imp fun h=>by omega
 have nb:b.2.2.1.Nodup:=hb.ini.imp fun h=>by omega
 have hps:PsOk a b (ya a.2.2.1 b.2.2.1):=⟨ybH na nb,fun q hq=>⟨ha.inr _ (y3o.1 hq).1,hb.inr _ (y3o.1 hq).2⟩⟩;have hlen:=hps.len;have hu:(dd (isL (a.1++b.1))).length≤64:=by
  have:=yaF (isL (a.1++b.1));rw [(y2v _).length_eq,List.length_append] at this;omega
 have hcl:=y4M a.2.2.1 b.2.2.1;obtain⟨n,h1,h2,h3⟩:=ygh ha hb hps (ev:= -1::dd (isL (a.1++b.1)));have li:=ha.li;have lj:=hb.li;have hla:=ha.la;have hlb:=hb.la;refine⟨n,by omega,h2,h3,hps,?_,?_⟩
 ·rw [y1Y,yeD (by omega),yOb,yfv (by omega) (by omega),yOb,ydF ha hb hN hu hps (by omega) h2 h3,yOb]
 ·have hc1:iter (yB a b) 0=some (.inl ()):=y5o (n:=3) (by omega) (by
   have e0:yB a b 0=some (.inl 1):=by
    unfold yB;rw [if_pos (by decide),show idx [a,b] 0=some a from rfl,yOb,y8Y ha];rfl
   have e1:yB a b 1=some (.inl 2):=by
    unfold yB;rw [if_pos (by decide),show idx [a,b] 1=some b from rfl,yOb,y8Y hb];rfl
   have e2:yB a b 2=some (.inr (.inl ())):=rfl;rw [yn,e0];dsimp only;rw [yn,e1];dsimp only;rw [yn,e2])
  have hia:a.2.2.1.length≤4096:=by
   have h4:(a.2.2.1.map Int.toNat).length≤a.2.1.toNat:=y6k _ _ (by
    unfold List.Nodup;rw [List.pairwise_map];exact List.Pairwise.imp_of_mem (fun {x y} hx hy h e=>by
     have:=ha.inr x hx;have:=ha.inr y hy;omega) ha.ini) (fun k hk=>by
    obtain⟨x,hx,rfl⟩:=List.mem_map.1 hk;have:=ha.inr x hx;omega)
   have:=ha.n1;rw [List.length_map] at h4;omega
  have hib:b.2.2.1.length≤4096:=by
   have h4:(b.2.2.1.map Int.toNat).length≤b.2.1.toNat:=y6k _ _ (by
    unfold List.Nodup;rw [List.pairwise_map];exact List.Pairwise.imp_of_mem (fun {x y} hx hy h e=>by
     have:=hb.inr x hx;have:=hb.inr y hy;omega) hb.ini) (fun k hk=>by
    obtain⟨x,hx,rfl⟩:=List.mem_map.1 hk;have:=hb.inr x hx;omega)
   have:=hb.n1;rw [List.length_map] at h4;omega
  rw [y1z,hc1,yOb];simp only;rw [ydH ha.al hb.al ha.la hb.la,yOb,y5P (by omega) (by omega),yOb,yfw (ybH na nb) (by omega),yOb];simp only;rw [ydE ha hb hN hu hps (fun e he=>yMa.1 (y9A.1 he)) (by omega) h2 h3,yOb]
theorem y6l{l t:List (Int×Int)}{p:Int×Int}(h:p∈l):(l++t).idxOf p=l.idxOf p:=by
 rw [List.idxOf_append,if_pos h]
theorem ydh(l:List (Int×Int))(p:Int×Int):p∈(fnd l p).2∧((fnd l p).2.idxOf p:Int)=(fnd l p).1:=by
 unfold fnd;split
 ·rename_i h;exact⟨h,rfl⟩
 ·rename_i h;refine⟨by simp,?_⟩;rw [List.idxOf_append,if_neg h];simp
theorem ybI :∀(nx:List (Int×Int)) (st:List Int×List (Int×Int)),(nx.foldl rowS st).1=st.1++nx.map fun p=>((nx.foldl rowS st).2.idxOf p:Int)
 | [],st=>by simp
 | p::nx,st=>by
  have ih:=ybI nx (rowS st p);obtain⟨t,h1,_⟩:=(y5q nx (rowS st p)).2;obtain⟨h2,h3⟩:=ydh st.2 p;rw [List.foldl_cons,ih,List.map_cons,h1];show st.1++[(fnd st.2 p).1]++_=_;have h4:(rowS st p).2=(fnd st.2 p).2:=rfl;rw [h4,y6l h2,h3,List.append_assoc];rfl
theorem y6m :∀(nx:List (Int×Int)) (st:List Int×List (Int×Int)),∀p∈nx,p∈(nx.foldl rowS st).2
 | q::nx,st,p,h=>by
  rcases List.mem_cons.1 h with rfl|h
  ·obtain ⟨t,h1,_⟩:=(y5q nx (rowS st p)).2;rw [List.foldl_cons,h1];exact List.mem_append_left _ (ydh st.2 p).1
  ·exact y6m nx _ p h
theorem yak(nx l:List (Int×Int)):(rowF nx l).1=nx.map fun p=>((rowF nx l).2.idxOf p:Int):=by
 have:=ybI nx ([],l);rw [List.nil_append] at this;exact this
theorem yfy{nx l:List (Int×Int)}(hn:nx.Nodup):(isL (rowF nx l).1).Pairwise (· < ·)∧∀k∈isL (rowF nx l).1,0≤k∧k<((rowF nx l).2.length:Int):=by
 have hnd:(rowF nx l).1.Nodup:=by
  rw [yak];unfold List.Nodup;rw [List.pairwise_map];refine List.Pairwise.imp_of_mem (fun {x y} hx hy hne e=>hne ?_) hn;have hx:=y6m nx ([],l) x hx;have hy:=y6m nx ([],l) y hy;have e2:(rowF nx l).2.idxOf x=(rowF nx l).2.idxOf y:=by omega
  have h1:=List.getElem_idxOf (List.idxOf_lt_length_of_mem hx);have h2:=List.getElem_idxOf (List.idxOf_lt_length_of_mem hy);rw [←h1,←h2];congr 1
 refine⟨?_,fun k hk=>?_⟩
 ·have h1:=yay (rowF nx l).1;have h2:(isL (rowF nx l).1).Nodup:=(y2v _).nodup_iff.2 hnd;exact h1.imp₂ (fun _ _ h h'=>by omega) h2
 ·rw [(y2v _).mem_iff,yak] at hk;obtain⟨p,hp,rfl⟩:=List.mem_map.1 hk;have:=List.idxOf_lt_length_of_mem (y6m nx ([],l) p hp);exact⟨by omega,by show(((rowF nx l).2.idxOf p:Nat):Int)<_;have h3:(rowF nx l).2.idxOf p<(rowF nx l).2.length:=this;omega⟩
theorem y9B(a b:NdT)(i:Int)(p:Int×Int):∀(ev:List Int) (st:List (Int×Int)×List E3),ev.Pairwise (· < ·)→∃new,(evF a b i p ev st).2=st.2++new∧new.Pairwise ltE3∧(∀x∈new,x.1=i∧x.2.1∈ev∧0≤x.2.2∧x.2.2<((evF a b i p ev st).1.length:Int))∧∃t,(evF a b i p ev st).1=st.1++t
 | [],st,_=>⟨[],by simp [evF],.nil,by simp,[],by simp [evF]⟩
 | e::ev,st,h=>by
  have hp:=List.pairwise_cons.1 h;obtain⟨new,h1,h2,h3,t,h4⟩:=y9B a b i p ev (evS i st e (stpL a b p e)) hp.2;obtain⟨u,h5,_⟩:=yah (stpL a b p e) st.1;obtain⟨k1,k2⟩:=yfy (l:=st.1) (ydg a b p e);have e1:evF a b i p (e::ev) st=evF a b i p ev (evS i st e (stpL a b p e)):=rfl;have e2:(evS i st e (stpL a b p e)).2=st.2++(isL (rowF (stpL a b p e) st.1).1).map fun k=>(i,e,k):=rfl;have e3:(evS i st e (stpL a b p e)).1=(rowF (stpL a b p e) st.1).2:=rfl;refine⟨(isL (rowF (stpL a b p e) st.1).1).map (fun k=>(i,e,k))++new,?_,?_,fun x hx=>?_,u++t,?_⟩
  ·rw [e1,h1,e2,List.append_assoc]
  ·rw [List.pairwise_append];refine⟨?_,h2,fun x hx y hy=>?_⟩
   ·rw [List.pairwise_map];exact k1.imp fun h=>by unfold ltE3;simp;exact h
   ·obtain ⟨k,_,rfl⟩:=List.mem_map.1 hx;obtain⟨g1,g2,_⟩:=h3 y hy;have:=hp.1 _ g2;unfold ltE3;dsimp only;omega
  ·rw [e1];rcases yMa.1 hx with hx|hx
   ·obtain ⟨k,hk,rfl⟩:=List.mem_map.1 hx;have:=k2 k hk;refine⟨rfl,.head _,this.1,?_⟩;rw [h4,e3,List.length_append];dsimp only;omega
   ·obtain ⟨g1,g2,g3⟩:=h3 x hx;exact⟨g1,.tail _ g2,g3⟩
  ·rw [e1,h4,e3,h5,List.append_assoc]
end
end
section
open Go.Proofs.Tryz
inductive Star {S:Type} (R:S→S→Prop):S→S→Prop
 | refl (s:S):Star R s s
 | tail {s t u:S}:Star R s t→R t u→Star R s u
namespace Star
variable{S T:Type}{R:S→S→Prop}{s t u:S}
theorem one(h:R s t):Star R s t:= .tail (.refl _) h
theorem trans(h:Star R s t)(h2:Star R t u):Star R s u:=by
 induction h2 with
 | refl=>exact h
 | tail _ g ih=>exact .tail ih g
theorem head(h:R s t)(h2:Star R t u):Star R s u:=(one h).trans h2
theorem map{Q:T→T→Prop}(f:S→T)(hf:∀a b,R a b→Q (f a) (f b))(h:Star R s t):Star Q (f s) (f t):=by
 induction h with
 | refl=>exact .refl _
 | tail _ g ih=>exact .tail ih (hf _ _ g)
theorem mono{Q:S→S→Prop}(hf:∀a b,R a b→Q a b)(h:Star R s t):Star Q s t:=h.map id hf
end Star
structure Lts (S:Type) where
 ini:S→Prop
 fin:S→Prop
 st:Int→S→S→Prop
 ev:Int→Prop
namespace Lts
variable{S S' T U:Type}
def nxt1(L:Lts S)(s t:S):Prop:=∃e,L.st e s t
def tau(L:Lts S):S→S→Prop:=Star (L.st (-1))
def wk(L:Lts S)(e:Int)(s t:S):Prop:=(e= -1∧L.tau s t)∨(e≠ -1∧∃a b,L.tau s a∧L.st e a b∧L.tau b t)
structure Same (A:Lts S) (B:Lts T) (R:S→T→Prop):Prop where
 i1:∀s,A.ini s→∃t,B.ini t∧R s t
 i2:∀t,B.ini t→∃s,A.ini s∧R s t
 s1:∀s t s',R s t→A.nxt1 s s'→∃t',B.nxt1 t t'∧R s' t'
 s2:∀s t t',R s t→B.nxt1 t t'→∃s',A.nxt1 s s'∧R s' t'
 m:∀s t,R s t→(A.fin s↔B.fin t)
theorem Same.symm{A:Lts S}{B:Lts T}{R:S→T→Prop}(h:Same A B R):Same B A fun x y=>R y x:=
 ⟨h.i2,h.i1,fun s t s' hr=>h.s2 t s s' hr,fun s t t' hr=>h.s1 t s t' hr,fun s t hr=>(h.m t s hr).symm⟩
def unit :Lts (List Int) where
 ini v:=v= []
 fin v:=v= []
 st _ _ _:=False
 ev _:=False
/-! Tuples. -/
end Lts
namespace Lts
def mks(L:Lts Int)(s:Int):Prop:=∃m,L.tau s m∧L.fin m
end Lts
end
section
open Go.Proofs.Tryz Go Go.RowKit
variable{α:Type}{a:NdT}{γ:Type}{al:LI}{d:Int×Int×Int×Int×List E3}{td:List α}
def ltsN(a:NdT):Lts Int:=⟨fun s=>s∈a.2.2.1,fun s=>s∈a.2.2.2.1,fun e s t=>(s,e,t)∈a.2.2.2.2,fun e=>e∈a.1⟩
theorem ydi(a b:NdT)(i:Int)(p:Int×Int):∀(ev:LI) (st:List (Int×Int)×List E3),(∃t,(evF a b i p ev st).1=st.1++t)∧(∀e∈ev,∀q∈stpL a b p e,q∈(evF a b i p ev st).1)∧
  ∀x:E3,x∈(evF a b i p ev st).2↔x∈st.2∨∃e∈ev,∃q∈stpL a b p e,x=(i,e,((evF a b i p ev st).1.idxOf q:Int))
 | [],st=>⟨⟨[],by simp [evF]⟩,fun e he=>(by cases he),fun x=>by simp [evF]⟩
 | e::ev,st=>by
  obtain⟨⟨t,h1⟩,h2,h3⟩:=ydi a b i p ev (evS i st e (stpL a b p e));obtain⟨u,h5,_⟩:=yah (stpL a b p e) st.1;have e1:evF a b i p (e::ev) st=evF a b i p ev (evS i st e (stpL a b p e)):=rfl;have e2:(evS i st e (stpL a b p e)).2=st.2++(isL (rowF (stpL a b p e) st.1).1).map fun k=>(i,e,k):=rfl;have e3:(evS i st e (stpL a b p e)).1=(rowF (stpL a b p e) st.1).2:=rfl;have hm:∀q∈stpL a b p e,q∈(rowF (stpL a b p e) st.1).2:=fun q hq=>y6m (stpL a b p e) ([],st.1) q hq;rw [e1];rw [e3] at h1;refine⟨⟨u++t,by rw [h1,h5,yAa]⟩,fun e' he' q hq=>?_,fun x=>?_⟩
  ·rcases yMo.1 he' with rfl|he'
   ·rw [h1];exact yMl _ (hm q hq)
   ·exact h2 e' he' q hq
  ·rw [h3 x,e2,yMa,yMp];have hix:∀q∈stpL a b p e,(((evF a b i p ev (evS i st e (stpL a b p e))).1.idxOf q:Nat):Int)=(((rowF (stpL a b p e) st.1).2.idxOf q:Nat):Int):=fun q hq=>by rw [h1,y6l (hm q hq)]
   have hrow:∀k,k∈isL (rowF (stpL a b p e) st.1).1↔ ∃q∈stpL a b p e,(((rowF (stpL a b p e) st.1).2.idxOf q:Nat):Int)=k:=fun k=>by
    rw [(y2v _).mem_iff,yak,yMp]
   constructor
   ·rintro ((h|⟨k,hk,rfl⟩)|⟨e',he',q,hq,rfl⟩)
    ·exact .inl h
    ·obtain ⟨q,hq,rfl⟩:=(hrow k).1 hk;exact .inr ⟨e,.head _,q,hq,by rw [hix q hq]⟩
    ·exact .inr ⟨e',.tail _ he',q,hq,rfl⟩
   ·rintro (h|⟨e',he',q,hq,rfl⟩)
    ·exact .inl (.inl h)
    ·rcases yMo.1 he' with rfl|he'
     ·exact .inl (.inr ⟨_,(hrow _).2 ⟨q,hq,rfl⟩,by rw [hix q hq]⟩)
     ·exact .inr ⟨e',he',q,hq,rfl⟩
theorem yeF{l t:List α}{i:Nat}(h:i<l.length):(l++t)[i]? =l[i]? :=yAl h
structure PrI (a b:NdT) (ev:LI) (i:Nat) (S:List (Int×Int)×LI×List E3):Prop where
 m:∀x:Int,x∈S.2.1↔ ∃(m:Nat) (p:Int×Int),x=m∧m<i∧S.1[m]? =some p∧p.1∈a.2.2.2.1∧p.2∈b.2.2.2.1
 e:∀x:E3,x∈S.2.2↔ ∃(m:Nat) (p q:Int×Int),m<i∧S.1[m]? =some p∧q∈S.1∧x.2.1∈ev∧q∈stpL a b p x.2.1∧x.1=m∧x.2.2=(S.1.idxOf q:Int)
 q:∀(m:Nat) (p:Int×Int),m<i→S.1[m]? =some p→∀e∈ev,∀q∈stpL a b p e,q∈S.1
theorem yeG(a b:NdT)(ev:LI)(l:List (Int×Int)):∀i:Nat,(∀j,j<i→j<(prN a b ev l j).1.length)→PrI a b ev i (prN a b ev l i)
 | 0,_=>⟨fun x=>by simp [prN],fun x=>by simp [prN],fun m p hm=>by omega⟩
 | i+1,h=>by
  have ih:=yeG a b ev l i fun j hj=>h j (by omega);have hi:=h i (by omega);have e0:prN a b ev l (i+1)=prS a b ev i (prN a b ev l i):=rfl;rw [e0];unfold prS;generalize prN a b ev l i=S at ih hi;obtain⟨p0,hp0⟩:∃p,S.1[i]? =some p:=⟨S.1[i],yGe hi⟩;have hd:S.1.getD i (0,0)=p0:=by rw [yGd,hp0];rfl
  rw [hd];obtain⟨⟨t,h1⟩,h2,h3⟩:=ydi a b (i:Int) p0 ev (S.1,S.2.2);dsimp only at h1 h3 ⊢;generalize evF a b (i:Int) p0 ev (S.1,S.2.2)=r at h1 h2 h3;have hat:∀m:Nat,m≤i→r.1[m]? =S.1[m]? :=fun m hm=>by rw [h1];exact yeF (by omega)
  refine⟨fun x=>?_,fun x=>?_,fun m p hm hp e he q hq=>?_⟩
  ·dsimp only;have hold:x∈S.2.1↔ ∃(m:Nat) (p:Int×Int),x=m∧m<i∧r.1[m]? =some p∧p.1∈a.2.2.2.1∧p.2∈b.2.2.2.1:=by
    rw [ih.m x];constructor
    ·rintro ⟨m,p,h1,h2,h3,h4⟩;exact⟨m,p,h1,h2,by rw [hat m (by omega)];exact h3,h4⟩
    ·rintro ⟨m,p,h1,h2,h3,h4⟩;exact⟨m,p,h1,h2,by rw [←hat m (by omega)];exact h3,h4⟩
   split
   ·rename_i hb;rw [yAe,yD,yD] at hb;rw [yMa,hold,yMs];constructor
    ·rintro (⟨m,p,h1,h2,h3⟩|rfl)
     ·exact ⟨m,p,h1,by omega,h3⟩
     ·exact ⟨i,p0,rfl,by omega,by rw [hat i (by omega)];exact hp0,hb⟩
    ·rintro ⟨m,p,h1,h2,h3⟩;by_cases hm:m<i
     ·exact .inl ⟨m,p,h1,hm,h3⟩
     ·have:m=i:=by omega
      subst this;exact .inr h1
   ·rename_i hb;rw [yAe,yD,yD] at hb;rw [hold];constructor
    ·rintro ⟨m,p,h1,h2,h3⟩;exact⟨m,p,h1,by omega,h3⟩
    ·rintro ⟨m,p,k1,k2,k3,k4⟩;by_cases hm:m<i
     ·exact ⟨m,p,k1,hm,k3,k4⟩
     ·have:m=i:=by omega
      subst this;rw [hat m (by omega),hp0] at k3;cases k3;exact absurd k4 hb
  ·dsimp only;rw [h3 x,ih.e x];constructor
   ·rintro (⟨m,p,q,k1,k2,k3,k4,k5,k6,k7⟩|⟨e,he,q,hq,rfl⟩)
    ·exact ⟨m,p,q,by omega,by rw [hat m (by omega)];exact k2,by rw [h1];exact yMl _ k3,k4,k5,k6,by rw [h1,y6l k3];exact k7⟩
    ·exact ⟨i,p0,q,by omega,by rw [hat i (by omega)];exact hp0,h2 e he q hq,he,hq,rfl,rfl⟩
   ·rintro ⟨m,p,q,k1,k2,k3,k4,k5,k6,k7⟩;by_cases hm:m<i
    ·rw [hat m (by omega)] at k2;have k8:=ih.q m p hm k2 _ k4 q k5;exact .inl ⟨m,p,q,hm,k2,k8,k4,k5,k6,by rw [h1,y6l k8] at k7;exact k7⟩
    ·have:m=i:=by omega
     subst this;rw [hat m (by omega),hp0] at k2;cases k2;exact .inr ⟨_,k4,q,k5,Prod.ext k6 (Prod.ext rfl k7)⟩
  ·by_cases hm':m<i
   ·rw [hat m (by omega)] at hp;rw [h1];exact yMl _ (ih.q m p hm' hp e he q hq)
   ·have:m=i:=by omega
    subst this;rw [hat m (by omega),hp0] at hp;cases hp;exact h2 e he q hq
structure CmpOk (a b c:NdT) (ps:List (Int×Int)):Prop where
 al:c.1=dd (isL (a.1++b.1))
 st:c.2.1=(ps.length:Int)
 nd:ps.Nodup
 ing:∀p∈ps,InG a b p
 ini:∀x:Int,x∈c.2.2.1↔ ∃(m:Nat) (p:Int×Int),x=m∧ps[m]? =some p∧p.1∈a.2.2.1∧p.2∈b.2.2.1
 il:∀p q:Int,p∈a.2.2.1→q∈b.2.2.1→(p,q)∈ps
 m:∀x:Int,x∈c.2.2.2.1↔ ∃(m:Nat) (p:Int×Int),x=m∧ps[m]? =some p∧p.1∈a.2.2.2.1∧p.2∈b.2.2.2.1
 e:∀x:E3,x∈c.2.2.2.2↔ ∃(m k:Nat) (p q:Int×Int),x.1=m∧x.2.2=k∧ps[m]? =some p∧ps[k]? =some q∧(x.2.1= -1∨x.2.1∈c.1)∧q∈stpL a b p x.2.1
 q:∀p∈ps,∀e,(e= -1∨e∈c.1)→∀q∈stpL a b p e,q∈ps
theorem ycx{l:List (Int×Int)}(hn:l.Nodup){k:Nat}{q:Int×Int}(h:l[k]? =some q):l.idxOf q=k:=by
 obtain⟨hk,e⟩:=yGs.1 h;rw [←e];exact hn.idxOf_getElem k hk
theorem yfz{l:List (Int×Int)}{q:Int×Int}(h:q∈l):l[l.idxOf q]? =some q:=by
 have:=List.idxOf_lt_length_of_mem h;rw [yGe this,List.getElem_idxOf]
theorem ycy(a b:NdT){ev:LI}(hev:ev.Pairwise (· < ·))(l:List (Int×Int)):∀i:Nat,
  (prN a b ev l i).2.1.Pairwise (· < ·)∧(∀m∈(prN a b ev l i).2.1,0≤m∧m<(i:Int))∧(prN a b ev l i).2.2.Pairwise ltE3∧
  (∀x∈(prN a b ev l i).2.2,0≤x.1∧x.1<(i:Int)∧x.2.1∈ev∧0≤x.2.2∧x.2.2<((prN a b ev l i).1.length:Int))∧∃t,(prN a b ev l i).1=l++t
 | 0=>⟨.nil,by simp [prN],.nil,by simp [prN],[],by simp [prN]⟩
 | i+1=>by
  obtain⟨h1,h2,h3,h4,t,h5⟩:=ycy a b hev l i;have e:prN a b ev l (i+1)=prS a b ev i (prN a b ev l i):=rfl;rw [e];unfold prS;generalize prN a b ev l i=S at h1 h2 h3 h4 h5;obtain⟨new,k1,k2,k3,u,k4⟩:=y9B a b (i:Int) (S.1.getD i (0,0)) ev (S.1,S.2.2) hev;refine⟨?_,fun m hm=>?_,?_,fun x hx=>?_,t++u,?_⟩
  ·dsimp only;split
   ·rw [List.pairwise_append];exact⟨h1,List.pairwise_singleton _ _,fun x hx y hy=>by rw [yMs.1 hy];exact(h2 x hx).2⟩
   ·exact h1
  ·dsimp only at hm;split at hm
   ·rcases yMa.1 hm with h|h
    ·have:=h2 m h;omega
    ·rw [yMs.1 h];omega
   ·have:=h2 m hm;omega
  ·dsimp only;rw [k1,List.pairwise_append];refine⟨h3,k2,fun x hx y hy=>?_⟩;have:=h4 x hx;have:=(k3 y hy).1;unfold ltE3;omega
  ·dsimp only at hx k4 ⊢;rw [k1] at hx;rcases yMa.1 hx with hx|hx
   ·obtain ⟨g1,g2,g3,g4,g5⟩:=h4 x hx;refine⟨g1,by omega,g3,g4,?_⟩;rw [k4,yLa];omega
   ·obtain ⟨g1,g2,g3,g4⟩:=k3 x hx;exact⟨by omega,by omega,g2,g3,g4⟩
  ·dsimp only at k4 ⊢;rw [k4,h5,yAa]
theorem yeH(n:Nat):(numsL n).Pairwise (· < ·):=by
 unfold numsL;rw [List.pairwise_map];exact List.pairwise_lt_range.imp fun h=>by omega
theorem ybJ{n:Nat}{k:Int}(h:k∈numsL n):0≤k∧k<(n:Int):=by
 unfold numsL at h;obtain⟨i,hi,rfl⟩:=yMp.1 h;have:=List.mem_range.1 hi;omega
theorem ydJ{b:NdT}(ha:NdOk a)(hb:NdOk b)(hN:a.2.1.toNat*b.2.1.toNat≤4096)(lu:a.1.length+b.1.length≤64):
  ∃(c:NdT) (ps:List (Int×Int)),y1Y a b=some (c,ps)∧y1z a b=some (c,ps,0)∧CmpOk a b c ps∧(c.2.2.2.2.length≤65536→NdOk c)∧c.2.2.2.2.length≤(a.2.1.toNat*b.2.1.toNat)*((c.1.length+1)*(a.2.1.toNat*b.2.1.toNat)):=by
 obtain⟨n,h1,h2,h3,h4,h5,h6⟩:=ydI ha hb hN lu;have hu0:∀e∈dd (isL (a.1++b.1)),0≤e∧e<32:=fun e he=>by
  rcases yMa.1 (y9A.1 he) with h|h
  ·exact ha.alr e h
  ·exact hb.alr e h
 have hu:(dd (isL (a.1++b.1))).length≤a.1.length+b.1.length:=by
  have:=yaF (isL (a.1++b.1));rw [(y2v _).length_eq,yLa] at this;exact this
 have hev:(-1::dd (isL (a.1++b.1))).Pairwise (· < ·):=List.Pairwise.cons (fun x hx=>by have:=hu0 x hx;omega) (y9z _);obtain⟨k1,k2,k3⟩:=yaL ha hb h4 (ev:= -1::dd (isL (a.1++b.1))) n h2;obtain⟨g1,g2,g3,g4,t,g5⟩:=ycy a b hev (ya a.2.2.1 b.2.2.1) n;have hP:=yeG a b (-1::dd (isL (a.1++b.1))) (ya a.2.2.1 b.2.2.1) n h2;have hn:n≤(prN a b (-1::dd (isL (a.1++b.1))) (ya a.2.2.1 b.2.2.1) n).1.length:=by
  cases n with
  | zero=>omega
  | succ m=>
   have:=h2 m (by omega);have e:prN a b (-1::dd (isL (a.1++b.1))) (ya a.2.2.1 b.2.2.1) (m+1)=prS a b (-1::dd (isL (a.1++b.1))) m (prN a b (-1::dd (isL (a.1++b.1))) (ya a.2.2.1 b.2.2.1) m):=rfl;rw [e];unfold prS;obtain⟨new,_,_,_,u,j4⟩:=y9B a b (m:Int) ((prN a b (-1::dd (isL (a.1++b.1))) (ya a.2.2.1 b.2.2.1) m).1.getD m (0,0)) _ ((prN a b (-1::dd (isL (a.1++b.1))) (ya a.2.2.1 b.2.2.1) m).1,(prN a b (-1::dd (isL (a.1++b.1))) (ya a.2.2.1 b.2.2.1) m).2.2) hev;dsimp only at j4 ⊢;rw [j4,yLa];omega
 have k4:=k1.len;refine⟨_,_,h5,h6,?_,fun hE=>?_,?_⟩
 ·generalize prN a b (-1::dd (isL (a.1++b.1))) (ya a.2.2.1 b.2.2.1) n=S at *;have hlt:∀{m:Nat} {p:Int×Int},S.1[m]? =some p→m<n:=fun h=>by
   have:=(yGs.1 h).1;omega
  exact
   {
    al:=rfl,
    st:=rfl,
    nd:=k1.nd,
    ing:=k1.ing,
    ini:=fun x=>by
     dsimp only;constructor
     ·intro hx;have hm:=ybJ hx;have hk:x.toNat<(ya a.2.2.1 b.2.2.1).length:=by omega
      have hg:=yGm hk;exact⟨x.toNat,(ya a.2.2.1 b.2.2.1)[x.toNat],by omega,by rw [g5,yeF hk,yGe hk],y3o.1 hg⟩
     ·rintro ⟨m,p,rfl,hp,hq⟩;have hc:=y3o.2 hq;have e1:=ycx k1.nd hp;rw [g5,y6l hc] at e1;have:=List.idxOf_lt_length_of_mem hc;unfold numsL;exact yMp.2 ⟨m,List.mem_range.2 (by omega),rfl⟩,
    il:=fun p q hp hq=>by
     rw [g5];exact yMl _ (y3o.2 ⟨hp,hq⟩),
    m:=fun x=>by
     dsimp only;rw [hP.m x];constructor
     ·rintro ⟨m,p,h1,_,h3⟩;exact⟨m,p,h1,h3⟩
     ·rintro ⟨m,p,h1,h3⟩;exact⟨m,p,h1,hlt h3.1,h3⟩,
    e:=fun x=>by
     dsimp only;rw [hP.e x];constructor
     ·rintro ⟨m,p,q,j1,j2,j3,j4,j5,j6,j7⟩;exact⟨m,_,p,q,j6,j7,j2,yfz j3,yMo.1 j4,j5⟩
     ·rintro ⟨m,k,p,q,j1,j2,j3,j4,j5,j6⟩;exact⟨m,p,q,hlt j3,j3,List.mem_of_getElem? j4,yMo.2 j5,j6,j1,by rw [ycx k1.nd j4];exact j2⟩,
    q:=fun p hp e he q hq=>by
     obtain⟨m,hm,e1⟩:=List.mem_iff_getElem.1 hp;exact hP.q m p (by omega) (by rw [yGe hm,e1]) e (yMo.2 he) q hq }
 ·generalize prN a b (-1::dd (isL (a.1++b.1))) (ya a.2.2.1 b.2.2.1) n=S at *;have hc:(ya a.2.2.1 b.2.2.1).length≤S.1.length:=by rw [g5,yLa];omega
  refine⟨y9z _,hu0,by dsimp only;omega,by dsimp only;omega,yeH _,fun x hx=>?_,g1,fun x hx=>?_,g3,fun x hx=>?_,by dsimp only;omega,by dsimp only;rw [y9y];omega,by dsimp only;omega,hE⟩
  ·have:=ybJ hx;dsimp only;omega
  ·have:=g2 x hx;dsimp only;omega
  ·obtain ⟨j1,j2,j3,j4,j5⟩:=g4 x hx;refine⟨j1,by dsimp only;omega,j4,j5,?_⟩;rcases yMo.1 j3 with h|h
   ·exact .inl h
   ·exact .inr h
 ·dsimp only;have m1:n≤a.2.1.toNat*b.2.1.toNat:=by omega
  rw [yLc] at k3;exact Nat.le_trans k3 (Nat.mul_le_mul_right _ m1)
def bits5(k:Nat):LI:=((List.range 5).filter fun i=>(k >>> i) % 2==1).map fun i:Nat=>(i:Int)
theorem ygG{k:Nat}(h:k<32):y1l (k:Int)=some (bits5 k):=by
 have e:(List.range 32).map (fun k:Nat=>y1l (k:Int))=(List.range 32).map fun k=>some (bits5 k):=by kernel_rfl
 have:=congrArg (fun l=>l[k]?) e;simp only [List.getElem?_map,List.getElem?_range h,Option.map_some,yIj] at this;exact this
theorem y7P(k:Nat):(bits5 k).Pairwise (· < ·):=by
 unfold bits5;rw [List.pairwise_map];exact(List.pairwise_lt_range.filter _).imp fun h=>by omega
theorem ybK{k:Nat}{x:Int}(h:x∈bits5 k):∃i:Nat,x=i∧i<5∧(k >>> i) % 2=1:=by
 unfold bits5 at h;obtain⟨i,hi,rfl⟩:=yMp.1 h;obtain⟨h1,h2⟩:=List.mem_filter.1 hi;exact⟨i,rfl,List.mem_range.1 h1,by simpa using h2⟩
theorem ycz{k n:Nat}(hk:k<2 ^ n){x:Int}(h:x∈bits5 k):0≤x∧x<(n:Int):=by
 obtain⟨i,rfl,_,h2⟩:=ybK h;refine⟨by omega,?_⟩;refine Classical.byContradiction fun hn=>?_;have hi:n≤i:=by omega
 have:k >>> i=0:=by
  rw [Nat.shiftRight_eq_div_pow];exact Nat.div_eq_of_lt (Nat.lt_of_lt_of_le hk (Nat.pow_le_pow_right (by omega) hi))
 rw [this] at h2;omega
theorem y9C(k:Nat):(bits5 k).length≤5:=by
 unfold bits5;rw [yLm];exact Nat.le_trans (List.length_filter_le _ _) (by simp)
theorem yal{n:Nat}(f:Int×List γ→Option ((Int×List γ)⊕List γ))(h:Nat→List γ)(out:List γ)(hx:n≤4294967296)(hl:((List.range n).flatMap h).length+out.length≤4294967296)
  (step:∀j,j<n→∀(o:List γ),(h j).length+o.length≤4294967296→f ((j:Int),o)=some (.inl (((j+1:Nat):Int),o++h j))) (last:∀o:List γ,f ((n:Int),o)=some (.inr o)):iter f (0,out)=some (out++(List.range n).flatMap h):=
 y9w (xs:=List.range n) f h out (by simpa using hx) hl (fun j hj o ho=>by
  have hj':j<n:=by simpa using hj
  simp only [List.getElem_range] at ho ⊢;exact step j hj' o ho) (by simpa using last)
def mkE(kp:List Bool)(al:LI)(n:Nat):List E3:=(List.range n).flatMap fun i=>(List.range (al.length+1)).flatMap fun k=>(List.range n).flatMap fun j=>
 if kp.getD (0+i*30+k*6+j*1) false=true then [((i:Int),(-1::al).getD k 0,(j:Int))] else []
theorem ygi{kp:List Bool}{n:Nat}{x:E3}(h:x∈mkE kp al n):0≤x.1∧x.1<(n:Int)∧0≤x.2.2∧x.2.2<(n:Int)∧(x.2.1= -1∨x.2.1∈al):=by
 unfold mkE at h;simp only [List.mem_flatMap,List.mem_range] at h;obtain⟨i,hi,k,hk,j,hj,h⟩:=h;split at h
 ·rw [yMs.1 h];refine⟨by dsimp only;omega,by dsimp only;omega,by dsimp only;omega,by dsimp only;omega,?_⟩;have:(-1::al).getD k 0∈(-1::al):=by
   rw [yGd,yGe (by simp;omega)];exact yGm _
  exact yMo.1 this
 ·cases h
theorem ygH{kp:List Bool}{n:Nat}(ha:al.Pairwise (· < ·))(h0:∀x∈al,0≤x):(mkE kp al n).Pairwise ltE3:=by
 have hev:(-1::al).Pairwise (· < ·):=List.Pairwise.cons (fun x hx=>by have:=h0 x hx;omega) ha;have hm:∀i k j x,x∈(if kp.getD (0+i*30+k*6+j*1) false=true then [((i:Int),(-1::al).getD k 0,(j:Int))] else [])→x=((i:Int),(-1::al).getD k 0,(j:Int)):=fun i k j x hx=>by
  split at hx
  ·exact yMs.1 hx
  ·cases hx
 unfold mkE;rw [List.pairwise_flatMap];refine⟨fun i _=>?_,List.pairwise_lt_range.imp fun {i i'} hi x hx y hy=>?_⟩
 ·rw [List.pairwise_flatMap];refine⟨fun k _=>?_,List.Pairwise.imp_of_mem (fun {k k'} hk hk' hkk x hx y hy=>?_) List.pairwise_lt_range⟩
  ·rw [List.pairwise_flatMap];refine⟨fun j _=>?_,List.pairwise_lt_range.imp fun {j j'} hj x hx y hy=>?_⟩
   ·split
    ·exact List.pairwise_singleton _ _
    ·exact .nil
   ·rw [hm _ _ _ _ hx,hm _ _ _ _ hy];unfold ltE3;dsimp only;omega
  ·simp only [List.mem_flatMap] at hx hy;obtain⟨j,_,hx⟩:=hx;obtain⟨j',_,hy⟩:=hy;rw [hm _ _ _ _ hx,hm _ _ _ _ hy];rw [List.mem_range] at hk hk';have:=yPg.1 hev k k' (by simp;omega) (by simp;omega) hkk;unfold ltE3;dsimp only;rw [yGd,yGd,yGe (by simp;omega),yGe (by simp;omega)];exact .inr ⟨rfl,.inl this⟩
 ·simp only [List.mem_flatMap] at hx hy;obtain⟨k,_,j,_,hx⟩:=hx;obtain⟨k',_,j',_,hy⟩:=hy;rw [hm _ _ _ _ hx,hm _ _ _ _ hy];unfold ltE3;dsimp only;omega
theorem ycA{i n:Nat}(h:i<n):rng (i:Int) n=some ():=by
 unfold rng;rw [iP (by simp;omega)]
section
variable{p0:Int×Int×Int×Int×List E3}{n:Nat}(hn:W (p0.1.tmod 6)=(n:Int))(hn5:n≤5){kp:List Bool}(hk:kp.length=180){al:LI}(hal:al.length≤4)
include hn hn5 hk
theorem mk_l4{i k:Nat}(hi:i<n)(hkk:k<5)(e:Int)(s1 s2:EdgL)(out:List E3)(ho:((List.range n).flatMap fun j=>if kp.getD (0+i*30+k*6+j*1) false=true then [((i:Int),e,(j:Int))] else []).length+out.length≤4294967296):iter (y2I p0 kp ((i:Int),s1) ((k:Int),s2) e) (0,out)=some (out++((List.range n).flatMap fun j=>if kp.getD (0+i*30+k*6+j*1) false=true then [((i:Int),e,(j:Int))] else [])):=by
 refine yal _ _ out (by omega) ho (fun j hj o ho2=>?_) (fun o=>?_)
 ·unfold y2I;have hx:0+i*30+k*6+j*1<kp.length:=by omega
  simp only [hn,ct_lt hj,if_true,ycA (show i<6 by omega),ycA hkk,ycA (show j<6 by omega),yOb,yTn,yGe hx,yGd,Option.getD_some] at ho2 ⊢;split
  ·rename_i hb;rw [iP hb] at ho2;rw [y1K (by simp at ho2 ⊢;omega),yOb,y1T];simp only [nxt (show j<4611686018427387904 by omega)]
  ·rw [y1T,List.append_nil];simp only [nxt (show j<4611686018427387904 by omega)]
 ·unfold y2I;simp only [hn];rw [iN (by simp)]
omit hn hn5 hk in
theorem ybh(i k:Nat)(e:Int):∀m:Nat,((List.range m).flatMap fun j=>if kp.getD (0+i*30+k*6+j*1) false=true then [((i:Int),e,(j:Int))] else []).length≤m:=by
 intro m
 induction m with
 | zero=>simp
 | succ m ih=>
  rw [List.range_succ,List.flatMap_append,yLa];simp only [List.flatMap_cons,List.flatMap_nil,List.append_nil];split
  ·rw [List.length_singleton];omega
  ·rw [List.length_nil];omega
omit hn hn5 hk in
theorem y6W{h:Nat→List γ}{c:Nat}(hc:∀j,(h j).length≤c):∀m,((List.range m).flatMap h).length≤m*c
 | 0=>by simp
 | m+1=>by
  have:=y6W hc m;have:=hc m;rw [List.range_succ,List.flatMap_append,yLa,Nat.succ_mul];simp only [List.flatMap_cons,List.flatMap_nil,List.append_nil];omega
include hal in
theorem mk_l3 {i:Nat} (hi:i<n) (s1:EdgL) (out:List E3) (ho:((List.range (al.length+1)).flatMap fun k=>(List.range n).flatMap fun j=>
  if kp.getD (0+i*30+k*6+j*1) false=true then [((i:Int),(-1::al).getD k 0,(j:Int))] else []).length+out.length≤4294967296):iter (y2J p0 al kp ((i:Int),s1)) (0,out)=some (out++(List.range (al.length+1)).flatMap fun k=>(List.range n).flatMap fun j=>
  if kp.getD (0+i*30+k*6+j*1) false=true then [((i:Int),(-1::al).getD k 0,(j:Int))] else []):=by
 have hs:∀k,((List.range n).flatMap fun j=>if kp.getD (0+i*30+k*6+j*1) false=true then [((i:Int),(-1::al).getD k 0,(j:Int))] else []).length≤n:=fun k=>ybh i k _ n;have hf:=y6W hs (al.length+1);have hm:(al.length+1)*n≤5*5:=Nat.mul_le_mul (by omega) hn5;refine yal _ _ out (by omega) ho (fun k hkk o ho2=>?_) (fun o=>?_)
 ·unfold y2J;rw [iP (by simp;omega)];by_cases h0:k=0
  ·subst h0;have hz:(-1::al).getD 0 0= -1:=rfl;rw [hz] at ho2 ⊢;rw [iN (by simp),y1U];simp only;rw [mk_l4 hn hn5 hk hi (by omega) _ _ _ _ ho2,yOb];simp only [nxt (show 0<4611686018427387904 by omega)]
  ·rw [iP (by simp;omega)];have he:(-1::al).getD k 0=al[k-1]:=by
    rw [yGd,yGe (by simp;omega),Option.getD_some,List.getElem_cons];rw [dif_neg h0]
   rw [he] at ho2 ⊢;simp only;rw [show (k:Int)-1=((k-1:Nat):Int) by omega,W_nat (by omega),yg (show k-1<al.length by omega),yOb,y1U,mk_l4 hn hn5 hk hi (by omega) _ _ _ _ ho2,yOb];simp only [nxt (show k<4611686018427387904 by omega)]
 ·unfold y2J;rw [iN (by simp;omega)]
include hal in
theorem mk_l2 :iter (y1V p0 al kp) (0,([]:List E3))=some (mkE kp al n):=by
 have hs:∀i k,((List.range n).flatMap fun j=>if kp.getD (0+i*30+k*6+j*1) false=true then [((i:Int),(-1::al).getD k 0,(j:Int))] else []).length≤n:=fun i k=>ybh i k _ n;have hf:∀i,((List.range (al.length+1)).flatMap fun k=>(List.range n).flatMap fun j=>if kp.getD (0+i*30+k*6+j*1) false=true then [((i:Int),(-1::al).getD k 0,(j:Int))] else []).length≤25:=fun i=>Nat.le_trans (y6W (hs i) (al.length+1)) (Nat.mul_le_mul (show al.length+1≤5 by omega) hn5);have hg:=y6W hf n;have:=yal (n:=n) (y1V p0 al kp) (fun i=>(List.range (al.length+1)).flatMap fun k=>(List.range n).flatMap fun j=>if kp.getD (0+i*30+k*6+j*1) false=true then [((i:Int),(-1::al).getD k 0,(j:Int))] else []) [] (by omega) (by simp only [List.length_nil];omega) (fun i hi o ho=>by
  unfold y1V;simp only [hn,ct_lt hi,if_true];rw [mk_l3 hn hn5 hk hal hi _ _ ho,yOb];simp only [nxt (show i<4611686018427387904 by omega)]) (fun o=>by
  unfold y1V;simp only [hn];rw [iN (by simp)])
 rw [this,List.nil_append];rfl
end
theorem y6X{x n:Int}(h:0≤x)(hn:0<n):0≤x.tmod n∧x.tmod n<n:=⟨Int.tmod_nonneg _ h,Int.tmod_lt_of_pos _ hn⟩
theorem ycB{x:Int}{n:Nat}(h:0≤x∧x<(n:Int)):rng x n=some ():=by
 unfold rng;rw [iP (by simp;omega)]
theorem mk_l1{p0:Int×Int×Int×Int×List E3}{n:Nat}(hn:W (p0.1.tmod 6)=(n:Int))(hn5:n≤5)(hal:al.length≤4)(he:∀x∈p0.2.2.2.2,(0≤x.1∧x.1<256)∧(0≤x.2.1∧x.2.1<256)∧0≤x.2.2∧x.2.2<256):∃kp,iter (y1W p0 al) (0,List.replicate 180 false)=some kp∧kp.length=180:=by
 refine yo (f:=y1W p0 al) (fun j st=>st.1=(j:Int)∧st.2.length=180) (fun o=>o.length=180) 20 0 (by omega) (fun j st hj ⟨e1,e2⟩=>?_) (fun st ⟨e1,e2⟩=>?_) (by omega) (0,List.replicate 180 false) ⟨rfl,List.length_replicate ..⟩
 ·obtain ⟨s1,kp⟩:=st;dsimp only at e1 e2;subst e1;unfold y1W;simp only [hn];by_cases hc:j<p0.2.2.2.2.length∧0<n
  ·left;obtain⟨hc1,hc2⟩:=hc;rw [iP (by simp;omega)];obtain⟨g1,g2,g3⟩:=he _ (yGm hc1);have hw:W ((al.length:Int)+1)=((al.length+1:Nat):Int):=nxt (by omega);rw [yg hc1];simp only [yOb,hw];rw [W_of (x:=p0.2.2.2.2[j].1) (by omega) (by omega),W_of (x:=p0.2.2.2.2[j].2.1) (by omega) (by omega),W_of (x:=p0.2.2.2.2[j].2.2) (by omega) (by omega)];have t1:=y6X g1.1 (show (0:Int)<(n:Int) by omega);have t2:=y6X g2.1 (show (0:Int)<((al.length+1:Nat):Int) by omega);have t3:=y6X g3.1 (show (0:Int)<(n:Int) by omega);have z1:nz (((al.length+1:Nat):Int))=some ():=by unfold nz;rw [iN (by omega)]
   have z2:nz ((n:Nat):Int)=some ():=by unfold nz;rw [iN (by omega)]
   rw [z1,z2];simp only [yOb];rw [ycB (n:=6) (by omega),ycB (n:=5) (by omega),ycB (n:=6) (by omega)];simp only [yOb];unfold updN;rw [iP (by omega),yOb];exact⟨_,rfl,by dsimp only;rw [nxt (by omega)],by simpa using e2⟩
  ·right;rw [iN (by simp;omega)];exact⟨_,rfl,e2⟩
 ·obtain ⟨s1,kp⟩:=st;dsimp only at e1 e2;subst e1;unfold y1W;rw [iN (by simp)];exact⟨_,rfl,e2⟩
structure DrOk (d:Int×Int×Int×Int×List E3):Prop where
 st:0≤d.1∧d.1<256
 al:0≤d.2.1∧d.2.1<256
 ini:0≤d.2.2.1∧d.2.2.1<256
 mks:0≤d.2.2.2.1∧d.2.2.2.1<256
 es:∀x∈d.2.2.2.2,(0≤x.1∧x.1<256)∧(0≤x.2.1∧x.2.1<256)∧0≤x.2.2∧x.2.2<256
theorem pow_w{n:Nat}(h:n≤5):IntKind.u32.wrap (1*2 ^ (min ((n:Nat):Int).toNat 32))=((2 ^ n:Nat):Int)∧0<2 ^ n∧2 ^ n≤32:=by
 have:n=0∨n=1∨n=2∨n=3∨n=4∨n=5:=by omega
 rcases this with rfl|rfl|rfl|rfl|rfl|rfl <;> exact⟨by decide,by decide,by decide⟩
theorem ydK{k:Nat}(h:k<16):(bits5 k).length≤4:=by
 have e:((List.range 16).all fun k=>decide ((bits5 k).length≤4))=true:=by decide
 have:=yAt.1 e k (List.mem_range.2 h);simpa using this
theorem ybi{x n:Int}{m:Nat}(hx:0≤x∧x<256)(hm:n=(m:Int))(h0:0<m)(h1:m≤32):∃k:Nat,k<m∧y1l (x.tmod n)=some (bits5 k):=by
 have h:=y6X hx.1 (show 0<n by omega);refine⟨(x.tmod n).toNat,by omega,?_⟩;have:=ygG (k:=(x.tmod n).toNat) (by omega);rwa [show (((x.tmod n).toNat:Nat):Int)=x.tmod n by omega] at this
theorem ydj(h:DrOk d):∃a:NdT,y2B d=some a∧NdOk a∧a.2.1≤5∧a.1.length≤4:=by
 obtain⟨n,hn,hn5⟩:∃n:Nat,W (d.1.tmod 6)=(n:Int)∧n≤5:=by
  have h1:=y6X h.st.1 (show (0:Int)<6 by decide);refine⟨(d.1.tmod 6).toNat,?_,by omega⟩;rw [W_of (by omega) (by omega)];omega
 obtain⟨hp,hp0,hp1⟩:=pow_w hn5;obtain⟨k1,hk1,e1⟩:=ybi h.al (n:=16) (m:=16) rfl (by decide) (by decide);obtain⟨k2,hk2,e2⟩:=ybi (x:=d.2.2.1) h.ini (n:=((2 ^ n:Nat):Int)) rfl hp0 hp1;obtain⟨k3,hk3,e3⟩:=ybi (x:=d.2.2.2.1) h.mks (n:=((2 ^ n:Nat):Int)) rfl hp0 hp1;have hw1:IntKind.u32.wrap (d.2.1.tmod 16)=d.2.1.tmod 16:=IntWalk.u32_in _ (by have:=y6X h.al.1 (show (0:Int)<16 by decide);omega);have hw2:IntKind.u32.wrap d.2.2.1=d.2.2.1:=IntWalk.u32_in _ (by have:=h.ini;omega);have hw3:IntKind.u32.wrap d.2.2.2.1=d.2.2.2.1:=IntWalk.u32_in _ (by have:=h.mks;omega);have hal:=ydK hk1;obtain⟨kp,hk,hkl⟩:=mk_l1 hn hn5 hal h.es;have ng1:ng ((n:Nat):Int)=some ():=by unfold ng;rw [iN (by omega)]
 have nz1:nz (((2 ^ n:Nat):Int))=some ():=by unfold nz;rw [iN (by omega)]
 refine⟨(bits5 k1,(n:Int),bits5 k2,bits5 k3,mkE kp (bits5 k1) n),?_,?_,by dsimp only;omega,hal⟩
 ·rw [y2B,hw1,e1,yOb,hn,ng1,yOb,hp,nz1,yOb,hw2,e2,yOb,yOb,yOb,hw3,e3,yOb,hk,yOb,mk_l2 hn hn5 hkl hal,yOb]
 ·have l1:=y9C k1;have l2:=y9C k2;have l3:=y9C k3;have r1:∀x∈bits5 k1,0≤x∧x<32:=fun x hx=>by
   obtain⟨i,rfl,h1,_⟩:=ybK hx;omega
  refine⟨y7P _,r1,by dsimp only;omega,by dsimp only;omega,y7P _,fun x hx=>ycz hk2 hx,y7P _,fun x hx=>ycz hk3 hx,ygH (y7P _) fun x hx=>(r1 x hx).1,fun x hx=>ygi hx,by dsimp only;omega,by dsimp only;omega,by dsimp only;omega,?_⟩;dsimp only;unfold mkE;have f1:=y6W (h:=fun i=>(List.range ((bits5 k1).length+1)).flatMap fun k=>(List.range n).flatMap fun j=>if kp.getD (0+i*30+k*6+j*1) false=true then [((i:Int),(-1::bits5 k1).getD k 0,(j:Int))] else []) (c:=25) (fun i=>Nat.le_trans (y6W (fun k=>ybh i k _ n) _) (Nat.mul_le_mul (show (bits5 k1).length+1≤5 by omega) hn5)) n;omega
theorem y9D{n:Nat}{f:Int→Option (Int⊕(Unit⊕Unit))}(hn:n≤4294967296)(step:∀j,j<n→f (j:Int)=some (.inl (((j+1:Nat):Int))))(last:f (n:Int)=some (.inr (.inl ()))):iter f 0=some (.inl ()):=by
 obtain⟨o,ho,he⟩:=yo (f:=f) (fun j st=>st=(j:Int)) (fun o=>o= .inl ()) n 0 (by omega) (fun j st hj e1=>by
   subst e1;exact .inl ⟨_,step j hj,rfl⟩)
  (fun st e1=>by
   subst e1;exact⟨_,last,rfl⟩) (by omega) 0 rfl
 rw [ho,he]
theorem y8Z{xs:LI}(h:xs.length≤4294967296):yI xs xs=some true:=by
 rw [yI,iN (by simp),y9D h (fun j hj=>by
  unfold y3T;rw [iP (ct_lt hj),yg hj,yOb,yOb,iN (by simp),nxt (by omega)]) (by
  unfold y3T;rw [iN ct_ge])]
 rfl
theorem yfA{xs:List (Int×Int)}(h:xs.length≤4294967296):y2m xs xs=some true:=by
 rw [y2m,iN (by simp),y9D h (fun j hj=>by
  unfold y2F;rw [iP (ct_lt hj),yg hj,yOb,yOb,iN (by simp),nxt (by omega)]) (by
  unfold y2F;rw [iN ct_ge])]
 rfl
theorem yfB{xs:List E3}(h:xs.length≤4294967296):y3A xs xs=some true:=by
 rw [y3A,iN (by simp),y9D h (fun j hj=>by
  unfold y3O;rw [iP (ct_lt hj),yg hj,yOb,yOb,iN (by simp),nxt (by omega)]) (by
  unfold y3O;rw [iN ct_ge])]
 rfl
theorem yeI(ha:NdOk a):y2C a a=some true:=by
 have h1:=ha.la;have h2:=ha.li;have h3:=ha.lm;have h4:=ha.le;rw [y2C,iP (by simp),y8Z (by omega),yOb,yOb,iP rfl,y8Z (by omega),yOb,yOb,iP rfl,y8Z (by omega),yOb,yOb,iP rfl,yfB (by omega)];rfl
theorem ygj :y3X=some true:=by kernel_rfl
theorem ycN{o:Int×Int×Int×Int×List E3}(hd:DrOk d)(ho:DrOk o)(hB:∀c:NdT,NdOk c→∃l:LI,yS c=some l∧y1A c=some l∧l.length≤4294967296):yM d o=some true:=by
 obtain⟨a,ma,ha,na,la⟩:=ydj hd;obtain⟨b,mb,hb,nb,lb⟩:=ydj ho;have hN:a.2.1.toNat*b.2.1.toNat≤5*5:=Nat.mul_le_mul (by omega) (by omega);obtain⟨c,ps,h1,h2,h5,h3,hE⟩:=ydJ ha hb (by omega) (by omega);have hcl:c.1.length≤8:=by
  have:=yaF (isL (a.1++b.1));rw [(y2v _).length_eq,yLa] at this;rw [h5.al];omega
 have h3:=h3 (Nat.le_trans hE (Nat.le_trans (Nat.mul_le_mul hN (Nat.mul_le_mul (show c.1.length+1≤9 by omega) hN)) (by decide)));obtain⟨l,hl1,hl2,hl3⟩:=hB c h3;have hps:ps.length≤4096:=by have:=h3.n1;have:=h5.st;omega
 rw [yM,ygj,yOb,iN (by simp),ma,yOb,mb,yOb,h2,yOb,h1,yOb];simp only;rw [iN (by simp),yeI h3,yOb,yOb];simp only [Bool.not_true,Bool.false_eq_true,if_false];rw [yfA (by omega),yOb,yOb];simp only [Bool.not_true,Bool.false_eq_true,if_false];have hbl:y2Z c=some (l,0):=by
  rw [y2Z,y8Y h3,yOb,iN (by simp),hl1,yOb]
 rw [hbl,yOb];simp only;rw [iP (by simp),hl2,yOb,y8Z hl3];rfl
inductive Rc3 (es:List E3) (S:LI):Int→Prop
 | ini {s:Int}:s∈S→Rc3 es S s
 | edge {x:E3}:x∈es→Rc3 es S x.1→Rc3 es S x.2.2
def flg(B:List Bool)(s:Int):Bool:=B.getD s.toNat false
def passF(es:List E3)(B:List Bool):List Bool:=es.foldl (fun B x=>if flg B x.1=true then B.set x.2.2.toNat true else B) B
theorem y7t{B:List Bool}{s t:Int}(hs:0≤s)(ht:0≤t)(h:t.toNat<B.length):flg (B.set t.toNat true) s=if s=t then true else flg B s:=by
 unfold flg;rw [yGd,yGd,List.getElem?_set];by_cases e:s=t
 ·subst e;rw [iP rfl,iP h,iP rfl];rfl
 ·rw [iN (by omega),iN e]
theorem y7Q(es:List E3):∀B:List Bool,(passF es B).length=B.length:=by
 unfold passF
 induction es with
 | nil=>intro B;rfl
 | cons x es ih=>
  intro B;rw [List.foldl_cons,ih];split
  ·rw [List.length_set]
  ·rfl
section
variable{n:Nat}
theorem yaN{es0:List E3}{S:LI}(es:List E3)(hsub:∀x∈es,x∈es0)(hr:∀x∈es,0≤x.1∧x.1<(n:Int)∧0≤x.2.2∧x.2.2<(n:Int)):∀B:List Bool,B.length=n→(∀s,0≤s→flg B s=true→Rc3 es0 S s)→
  (∀s,0≤s→flg (passF es B) s=true→Rc3 es0 S s)∧(∀s,0≤s→flg B s=true→flg (passF es B) s=true)∧(passF es B=B→∀x∈es,flg B x.1=true→flg B x.2.2=true):=by
 induction es with
 | nil=>intro B _ h;exact⟨h,fun _ _ h=>h,fun _ x hx=>by cases hx⟩
 | cons x es ih=>
  intro B hB h;have hx:=hr x (.head _);have e:passF (x::es) B=passF es (if flg B x.1=true then B.set x.2.2.toNat true else B):=rfl;have hB2:(if flg B x.1=true then B.set x.2.2.toNat true else B).length=n:=by
   split
   ·rw [List.length_set];exact hB
   ·exact hB
  have hup:∀s,0≤s→flg B s=true→flg (if flg B x.1=true then B.set x.2.2.toNat true else B) s=true:=fun s hs h1=>by
   split
   ·rw [y7t hs hx.2.2.1 (by omega)];split
    ·rfl
    ·exact h1
   ·exact h1
  obtain⟨h1,h2,h3⟩:=ih (fun y hy=>hsub y (.tail _ hy)) (fun y hy=>hr y (.tail _ hy)) _ hB2 (fun s hs hf=>by
   split at hf
   ·rename_i hf1;rw [y7t hs hx.2.2.1 (by omega)] at hf;split at hf
    ·rename_i e;rw [e];exact .edge (hsub x (.head _)) (h _ hx.1 hf1)
    ·exact h s hs hf
   ·exact h s hs hf)
  refine⟨fun s hs hf=>h1 s hs (e▸hf),fun s hs hf=>by rw [e];exact h2 s hs (hup s hs hf),fun he y hy hf=>?_⟩;have hback:∀s,0≤s→flg (if flg B x.1=true then B.set x.2.2.toNat true else B) s=true→flg B s=true:=fun s hs h4=>by
   rw [←he,e];exact h2 s hs h4
  have hBB:(if flg B x.1=true then B.set x.2.2.toNat true else B)=B:=by
   split
   ·rename_i hf1;have h5:flg B x.2.2=true:=hback _ hx.2.2.1 (by rw [iP hf1,y7t hx.2.2.1 hx.2.2.1 (by omega),iP rfl]);unfold flg at h5;rw [yGd,yGe (by omega),Option.getD_some] at h5;exact List.ext_getElem (by simp) fun i i1 i2=>by
     rw [List.getElem_set];split
     ·rename_i e2;subst e2;exact h5.symm
     ·rfl
   ·rfl
  rcases yMo.1 hy with rfl|hy
  ·exact hback _ hx.2.2.1 (by rw [iP hf,y7t hx.2.2.1 hx.2.2.1 (by omega),iP rfl])
  ·rw [hBB] at h3;exact h3 (by rw [e,hBB] at he;exact he) y hy hf
end
theorem ycC :∀{B B':List Bool},B.length=B'.length→(∀i:Nat,B[i]? =some true→B'[i]? =some true)→B.count true≤B'.count true∧(B.count true=B'.count true→B=B')
 | [],[],_,_=>⟨yNr _,fun _=>rfl⟩
 | [],_::_,h,_=>by simp at h
 | _::_,[],h,_=>by simp at h
 | b::B,c::C,h,hi=>by
  obtain⟨h1,h2⟩:=ycC (B:=B) (B':=C) (by simpa using h) fun i hb=>by simpa using hi (i+1) (by simpa using hb)
  have h0:=hi 0;cases b <;> cases c <;> simp at h0 ⊢
  ·exact ⟨h1,h2⟩
  ·exact ⟨by omega,fun e=>by omega⟩
  ·exact ⟨h1,h2⟩
def passN(es:List E3)(B:List Bool):Nat→List Bool
 | 0=>B
 | k+1=>passF es (passN es B k)
theorem yaO{B:List Bool}{i:Nat}:B[i]? =some true↔flg B (i:Int)=true:=by
 unfold flg;rw [yTn,yGd];cases B[i]? with
 | none=>simp
 | some b=>cases b <;> simp
theorem yaP{es:List E3}{S:LI}{n:Nat}(hr:∀x∈es,0≤x.1∧x.1<(n:Int)∧0≤x.2.2∧x.2.2<(n:Int)){B:List Bool}(hB:B.length=n)(hs:∀s,0≤s→flg B s=true→Rc3 es S s):∀k,
  (passN es B k).length=n∧(∀s,0≤s→flg (passN es B k) s=true→Rc3 es S s)∧(∀s,0≤s→flg B s=true→flg (passN es B k) s=true)∧(passF es (passN es B k)=passN es B k∨k≤(passN es B k).count true)
 | 0=>⟨hB,hs,fun _ _ h=>h,.inr (yZl _)⟩
 | k+1=>by
  obtain⟨h1,h2,h3,h4⟩:=yaP hr hB hs k;obtain⟨g1,g2,g3⟩:=yaN (es0:=es) (S:=S) es (fun _ h=>h) hr _ h1 h2;have hl:=y7Q es (passN es B k);refine⟨by rw [passN,hl,h1],g1,fun s h0 h=>g2 s h0 (h3 s h0 h),?_⟩;by_cases hf:passF es (passN es B k)=passN es B k
  ·left;show passF es (passF es (passN es B k))=passF es (passN es B k);rw [hf,hf]
  ·right;rcases h4 with h4|h4
   ·exact absurd h4 hf
   ·obtain ⟨c1,c2⟩:=ycC (B:=passN es B k) (B':=passF es (passN es B k)) hl.symm fun i hi=>yaO.2 (g2 _ (by omega) (yaO.1 hi));have:(passN es B k).count true≠(passF es (passN es B k)).count true:=fun e=>hf (c2 e).symm;show k+1≤(passF es (passN es B k)).count true;omega
theorem yfC{es:List E3}{S:LI}{n:Nat}(hr:∀x∈es,0≤x.1∧x.1<(n:Int)∧0≤x.2.2∧x.2.2<(n:Int)){B:List Bool}(hB:B.length=n)(hs:∀s,0≤s→(flg B s=true↔s∈S))(hS:∀s∈S,0≤s):(passN es B n).length=n∧∀s,0≤s→(flg (passN es B n) s=true↔Rc3 es S s):=by
 obtain⟨h1,h2,h3,h4⟩:=yaP (S:=S) hr hB (fun s h0 h=> .ini ((hs s h0).1 h)) n;obtain⟨g1,g2,g3⟩:=yaN (es0:=es) (S:=S) es (fun _ h=>h) hr _ h1 h2;have hfix:passF es (passN es B n)=passN es B n:=by
  rcases h4 with h4|h4
  ·exact h4
  ·obtain ⟨c1,c2⟩:=ycC (B:=passN es B n) (B':=passF es (passN es B n)) (y7Q es _).symm fun i hi=>yaO.2 (g2 _ (by omega) (yaO.1 hi));have c3:(passF es (passN es B n)).count true≤(passF es (passN es B n)).length:=List.count_le_length;rw [y7Q,h1] at c3;exact(c2 (by omega)).symm
 refine⟨h1,fun s h0=>⟨h2 s h0,fun h=>?_⟩⟩;clear h0
 induction h with
 | ini hm=>exact h3 _ (hS _ hm) ((hs _ (hS _ hm)).2 hm)
 | edge hx _ ih=>exact g3 hfix _ hx ih
theorem ybL{β:Type}{xs:List β}(f:Int×γ→Option ((Int×γ)⊕γ))(g:γ→β→γ)(I:γ→Prop)(hx:xs.length≤4294967296)(hI:∀o,I o→∀x∈xs,I (g o x))
  (step:∀j (hj:j<xs.length) (o:γ),I o→f ((j:Int),o)=some (.inl (((j+1:Nat):Int),g o xs[j]))) (last:∀o:γ,f ((xs.length:Int),o)=some (.inr o)) {out:γ} (h0:I out):iter f (0,out)=some (xs.foldl g out):=by
 obtain⟨o,ho,he⟩:=yo (f:=f) (fun j (st:Int×γ)=>st=((j:Int),(xs.take j).foldl g out)∧I ((xs.take j).foldl g out)) (fun o=>o=xs.foldl g out) xs.length 0 (by omega) (fun j st hj ⟨e1,e2⟩=>by
   subst e1;have hs:(xs.take (j+1)).foldl g out=g ((xs.take j).foldl g out) xs[j]:=by rw [yTs hj,List.foldl_append];rfl
   exact .inl ⟨_,step j hj _ e2,by rw [hs],by rw [hs];exact hI _ e2 _ (yGm hj)⟩)
  (fun st ⟨e1,_⟩=>by
   subst e1;exact⟨_,last _,by rw [List.take_length]⟩) (by omega) (0,out) ⟨rfl,h0⟩
 rw [ho,he]
def setF(S:LI)(B:List Bool):List Bool:=S.foldl (fun B s=>B.set s.toNat true) B
theorem yaQ{xs:List α}{s:Int}{v:α}(h:0≤s∧s<(xs.length:Int)):upd xs s v=some (xs.set s.toNat v):=by unfold upd;rw [iP h]
theorem y6n{xs:List Bool}{s:Int}(h:0≤s∧s<(xs.length:Int)):idx xs s=some (flg xs s):=by
 unfold idx flg;rw [iP h.1,yGd,yGe (by omega)];rfl
theorem yeJ{S:LI}{n:Nat}(hS:∀s∈S,0≤s∧s<(n:Int))(hl:S.length≤4294967296){B:List Bool}(hB:B.length=n):iter (y1u S) (0,B)=some (setF S B):=by
 unfold setF;refine ybL (y1u S) _ (fun B=>B.length=n) hl (fun o h x _=>by rw [List.length_set];exact h) (fun j hj o ho=>?_) (fun o=>?_) hB
 ·have:=hS _ (yGm hj);unfold y1u;simp only [ct_lt hj,if_true,yg hj,yOb];rw [y6n (by omega),yOb,yaQ (by omega),yOb,nxt (by omega)]
 ·unfold y1u;simp
def selE(ev:LI)(es:List E3):List E3:=es.filter fun x=>ev.isEmpty||hasB ev x.2.1
theorem yfD(es:List E3):selE [] es=es:=by unfold selE;simp
theorem yeK{n:Nat}{ev:LI}(hev:ev.length≤1000000)(hr:∀x∈a.2.2.2.2,0≤x.1∧x.1<(n:Int)∧0≤x.2.2∧x.2.2<(n:Int))(hl:a.2.2.2.2.length≤4294967296){B:List Bool}(hB:B.length=n):iter (y1s a ev) (0,B)=some (passF (selE ev a.2.2.2.2) B):=by
 unfold passF selE;rw [List.foldl_filter];refine ybL (y1s a ev) _ (fun B=>B.length=n) hl (fun o h x _=>by
  split
  ·split
   ·rw [List.length_set];exact h
   ·exact h
  ·exact h) (fun j hj o ho=>?_) (fun o=>?_) hB
 ·have hx:=hr _ (yGm hj);have hc:(if ((ev.length:Int)==0)=true then some true else(ym ev a.2.2.2.2[j].2.1).bind fun r=>some r)=some (ev.isEmpty||hasB ev a.2.2.2.2[j].2.1):=by
   rw [y4g (by omega),yOb];cases ev with
   | nil=>rfl
   | cons x l=>
    have:((x::l).length:Int)≠0:=by rw [yLc];omega
    rw [iN (by simpa using this)];rfl
  unfold y1s;simp only [ct_lt hj,if_true,yg hj,yOb];rw [y6n (by omega),yOb,hc,yOb];cases hf:flg o a.2.2.2.2[j].1 with
  | true=>
   simp only [if_true,yOb];split
   ·rw [y6n (by omega),yOb,yaQ (by omega),yOb,yL];simp only [nxt (show j<4611686018427387904 by omega)]
   ·rw [yL];simp only [nxt (show j<4611686018427387904 by omega)]
  | false=>
   simp only [Bool.false_eq_true,if_false,yOb,ite_self];rw [yL];simp only [nxt (show j<4611686018427387904 by omega)]
 ·unfold y1s;simp
theorem yeL{n:Nat}{ev:LI}(hev:ev.length≤1000000)(hn:a.2.1=(n:Int))(hn1:n≤4096)(hr:∀x∈a.2.2.2.2,0≤x.1∧x.1<(n:Int)∧0≤x.2.2∧x.2.2<(n:Int))(hl:a.2.2.2.2.length≤4294967296){B:List Bool}(hB:B.length=n):iter (y1t a ev) (0,B)=some (passN (selE ev a.2.2.2.2) B n):=by
 have hlen:∀k,(passN (selE ev a.2.2.2.2) B k).length=n:=fun k=>by
  induction k with
  | zero=>exact hB
  | succ k ih=>unfold passN;rw [y7Q,ih]
 obtain⟨o,ho,he⟩:=yo (f:=y1t a ev) (fun j st=>st=((j:Int),passN (selE ev a.2.2.2.2) B j)) (fun o=>o=passN (selE ev a.2.2.2.2) B n) n 0 (by omega) (fun j st hj e1=>by
   subst e1;refine .inl ⟨_,?_,rfl⟩;unfold y1t;simp only [hn,ct_lt hj,if_true];rw [yeK hev hr hl (hlen j),yOb,nxt (by omega)];rfl)
  (fun st e1=>by
   subst e1;refine⟨_,?_,rfl⟩;unfold y1t;simp [hn]) (by omega) (0,B) rfl
 rw [ho,he]
def staL(n:Nat)(q:Nat→Bool):LI:=((List.range n).filter q).map fun i:Nat=>(i:Int)
theorem ybM(n:Nat)(q:Nat→Bool):staL (n+1) q=staL n q++if q n=true then [(n:Int)] else []:=by
 unfold staL;rw [List.range_succ,List.filter_append,List.map_append];congr 1;rw [List.filter_cons];split <;> rfl
theorem y7u(n:Nat)(q:Nat→Bool):(staL n q).length≤n:=by
 unfold staL;rw [yLm];exact Nat.le_trans (List.length_filter_le _ _) (by simp)
theorem yeM{B:List Bool}(hB:B.length≤4096):iter (y1r B) (0,([]:LI))=some (staL B.length fun i=>flg B (i:Int)):=by
 obtain⟨o,ho,he⟩:=yo (f:=y1r B) (fun j st=>st=((j:Int),staL j fun i=>flg B (i:Int))) (fun o=>o=staL B.length fun i=>flg B (i:Int)) B.length 0 (by omega) (fun j st hj e1=>by
   subst e1;refine .inl ⟨_,?_,rfl⟩;have hl:=y7u j fun i=>flg B (i:Int);unfold y1r;simp only [ct_lt hj,if_true];rw [y6n (by omega),yOb,ybM];split
   ·rw [y1K (by simp;omega),yOb,y1q];simp only [nxt (show j<4611686018427387904 by omega)]
   ·rw [y1q,List.append_nil];simp only [nxt (show j<4611686018427387904 by omega)])
  (fun st e1=>by
   subst e1;refine⟨_,?_,rfl⟩;unfold y1r;simp) (by omega) (0,[]) rfl
 rw [ho,he]
theorem ybN{n:Nat}:∀(S:LI),(∀s∈S,0≤s∧s<(n:Int))→∀B:List Bool,B.length=n→(setF S B).length=n∧∀s,0≤s→(flg (setF S B) s=true↔s∈S∨flg B s=true)
 | [],_,B,hB=>⟨hB,fun s _=>by simp [setF]⟩
 | x::S,hS,B,hB=>by
  have hx:=hS x (.head _);obtain⟨h1,h2⟩:=ybN S (fun s hs=>hS s (.tail _ hs)) (B.set x.toNat true) (by rw [List.length_set];exact hB);refine⟨h1,fun s h0=>?_⟩;show flg (setF S (B.set x.toNat true)) s=true↔_;rw [h2 s h0,y7t h0 hx.1 (by omega),yMo];by_cases e:s=x
  ·subst e;simp
  ·rw [iN e];constructor
   ·rintro (h|h)
    ·exact .inl (.inr h)
    ·exact .inr h
   ·rintro ((h|h)|h)
    ·exact absurd h e
    ·exact .inl h
    ·exact .inr h
theorem yeN(ha:NdOk a){S ev:LI}(hev:ev.length≤1000000)(hS:∀s∈S,0≤s∧s<a.2.1)(hl:S.length≤4294967296):∃q:Nat→Bool,yK a S ev=some (staL a.2.1.toNat q)∧∀i:Nat,i<a.2.1.toNat→(q i=true↔Rc3 (selE ev a.2.2.2.2) S (i:Int)):=by
 obtain⟨n,hn⟩:∃n:Nat,a.2.1=(n:Int):=⟨a.2.1.toNat,by have:=ha.n0;omega⟩;have hn1:=ha.n1;have hle:=ha.le;rw [hn] at hS;have hr:∀x∈a.2.2.2.2,0≤x.1∧x.1<(n:Int)∧0≤x.2.2∧x.2.2<(n:Int):=fun x hx=>by
  have:=ha.esr x hx;omega
 have h0:(List.replicate n false).length=n:=List.length_replicate ..;obtain⟨h1,h2⟩:=ybN S hS _ h0;obtain⟨g1,g2⟩:=yfC (es:=selE ev a.2.2.2.2) (S:=S) (fun x hx=>hr x (List.mem_filter.1 hx).1) h1 (fun s hs=>by
  rw [h2 s hs];have:flg (List.replicate n false) s=false:=by
   unfold flg;rw [yGd,List.getElem?_replicate];split <;> rfl
  simp [this]) fun s hs=>(hS s hs).1
 refine⟨fun i=>flg (passN (selE ev a.2.2.2.2) (setF S (List.replicate n false)) n) (i:Int),?_,fun i _=>g2 _ (by omega)⟩;have hm:mkL a.2.1 false=some (List.replicate n false):=by unfold mkL;rw [hn,iP (by omega)];rfl
 have h3:=yeM (B:=passN (selE ev a.2.2.2.2) (setF S (List.replicate n false)) n) (by omega);rw [g1] at h3;rw [yK,hm,yOb,yeJ hS hl h0,yOb,yeL hev hn (by omega) hr (by omega) h1,yOb,h3,yOb,hn,yTn]
theorem ybO(ha:NdOk a){S:LI}(hS:∀s∈S,0≤s∧s<a.2.1)(hl:S.length≤4294967296):∃q:Nat→Bool,yK a S []=some (staL a.2.1.toNat q)∧∀i:Nat,i<a.2.1.toNat→(q i=true↔Rc3 a.2.2.2.2 S (i:Int)):=by
 have:=yeN ha (ev:=[]) (by simp) hS hl;rwa [yfD] at this
theorem ygk{xs:LI}{p:Int→Option Bool}{g:Int→Bool}(hl:xs.length≤1000000)(hp:∀x∈xs,p x=some (g x)):y1v xs p=some (xs.any g):=by
 obtain⟨o,h1,h2⟩:=yo (f:=y2p xs p) (fun i s=>s=(i:Int)∧xs.any g=(xs.drop i).any g) (fun o=>(o= .inl ()∧xs.any g=false)∨∃i:Nat,o= .inr (i:Int)∧xs.any g=true) xs.length 0 (by omega) (fun i s hi ⟨e1,e2⟩=>by
  subst e1;rw [yDc hi,List.any_cons] at e2;rw [y2p,iP (ct_lt hi),yg hi,yOb,hp _ (yGm hi),yOb];cases hg:g xs[i] with
  | true=>
   rw [hg] at e2;exact .inr ⟨_,by rw [iP rfl],.inr ⟨i,rfl,e2⟩⟩
  | false=>
   rw [hg] at e2;exact .inl ⟨_,by rw [iN (by simp),nxt (by omega)],rfl,e2⟩) (fun s ⟨e1,e2⟩=>by
  subst e1;rw [List.drop_length] at e2;exact⟨_,by rw [y2p,iN ct_ge],.inl ⟨rfl,e2⟩⟩) (yZl _) 0 ⟨rfl,rfl⟩
 rw [y1v,y3N,h1,yOb];rcases h2 with ⟨rfl,e⟩|⟨i,rfl,e⟩
 ·rw [e];rfl
 ·rw [e];show some (decide ((i:Int)≥0))=some true;simp
theorem yam{n:Nat}{q:Nat→Bool}{x:Int}:x∈staL n q↔ ∃i:Nat,x=i∧i<n∧q i=true:=by
 unfold staL;simp only [yMp,List.mem_filter,List.mem_range];constructor
 ·rintro ⟨i,⟨h1,h2⟩,rfl⟩;exact⟨i,rfl,h1,h2⟩
 ·rintro ⟨i,rfl,h1,h2⟩;exact⟨i,⟨h1,h2⟩,rfl⟩
noncomputable def goodB(a:NdT)(s:Int):Bool:=@decide (∃t∈a.2.2.2.1,Rc3 a.2.2.2.2 [s] t) (Classical.propDecidable _)
theorem yfE(ha:NdOk a):∃q:Nat→Bool,(∀i:Nat,i<a.2.1.toNat→(q i=true↔Rc3 a.2.2.2.2 a.2.2.1 (i:Int)))∧y1A a=some ((staL a.2.1.toNat q).filter fun s=>!goodB a s):=by
 have hn1:=ha.n1;have hlm:=ha.lm;obtain⟨q,h1,h2⟩:=ybO ha (S:=a.2.2.1) ha.inr (by have:=ha.li;omega);refine⟨q,h2,?_⟩;have hlen:=y7u a.2.1.toNat q;have hg:∀s:Int,0≤s→s<a.2.1→∃l,yK a [s] []=some l∧y1v l (y1X a)=some (goodB a s):=fun s hs0 hs1=>by
  obtain⟨r,k1,k2⟩:=ybO ha (S:=[s]) (fun x hx=>by rw [yMs.1 hx];exact⟨hs0,hs1⟩) (by simp);refine⟨_,k1,?_⟩;have hl2:=y7u a.2.1.toNat r;rw [ygk (g:=hasB a.2.2.2.1) (by omega) (fun x _=>by rw [y1X,y4g (by omega)];rfl)];congr 1;rw [Bool.eq_iff_iff,List.any_eq_true];unfold goodB;rw [@decide_eq_true_iff _ (Classical.propDecidable _)];constructor
  ·rintro ⟨t,ht,hm⟩;obtain⟨i,rfl,hi,hr⟩:=yam.1 ht;exact⟨_,yD.1 hm,(k2 i hi).1 hr⟩
  ·rintro ⟨t,hm,hr⟩;have:=ha.mkr t hm;refine⟨t,yam.2 ⟨t.toNat,by omega,by omega,(k2 _ (by omega)).2 ?_⟩,yD.2 hm⟩;rwa [show ((t.toNat:Nat):Int)=t by omega]
 have hf:∀(xs out:LI),xs.foldl (fun out x=>if(!goodB a x)=true then out++[x] else out) out=out++xs.filter fun s=>!goodB a s:=by
  intro xs
  induction xs with
  | nil=>intro out;simp
  | cons x xs ih=>
   intro out;rw [List.foldl_cons,ih];cases h:!goodB a x <;> simp [h]
 have hloop:iter (y1J a (staL a.2.1.toNat q)) (0,([]:LI))=some ((staL a.2.1.toNat q).foldl (fun out x=>if(!goodB a x)=true then out++[x] else out) []):=by
  obtain⟨o,ho,he⟩:=yo (f:=y1J a (staL a.2.1.toNat q)) (fun j st=>st=((j:Int),((staL a.2.1.toNat q).take j).foldl (fun out x=>if(!goodB a x)=true then out++[x] else out) [])) (fun o=>o=(staL a.2.1.toNat q).foldl (fun out x=>if(!goodB a x)=true then out++[x] else out) []) (staL a.2.1.toNat q).length 0 (by omega) (fun j st hj e1=>by
    subst e1;refine .inl ⟨_,?_,rfl⟩;obtain⟨i,hi,hin,_⟩:=yam.1 (yGm hj);obtain⟨l,m1,m2⟩:=hg (staL a.2.1.toNat q)[j] (by omega) (by omega);have hb:(((staL a.2.1.toNat q).take j).foldl (fun out x=>if(!goodB a x)=true then out++[x] else out) []).length≤j:=by
     rw [hf,List.nil_append];exact Nat.le_trans (List.length_filter_le _ _) (by rw [yLt];omega)
    rw [yTs hj,List.foldl_append];unfold y1J;simp only [ct_lt hj,if_true,yg hj,yOb,m1,m2,List.foldl_cons,List.foldl_nil];split
    ·rw [y1K (by rw [List.length_singleton];omega),yOb,y1I];simp only [nxt (show j<4611686018427387904 by omega)]
    ·rw [y1I];simp only [nxt (show j<4611686018427387904 by omega)])
   (fun st e1=>by
    subst e1;refine⟨(staL a.2.1.toNat q).foldl (fun out x=>if(!goodB a x)=true then out++[x] else out) [],?_,rfl⟩;rw [List.take_length];unfold y1J;simp) (by omega) (0,[]) rfl
  rw [ho,he]
 rw [y1A,h1,yOb,hloop,yOb,hf,List.nil_append]
def frm(bk:Bool)(x:E3):Int:=if bk=true then x.2.2 else x.1
def tow(bk:Bool)(x:E3):Int:=if bk=true then x.1 else x.2.2
def nxF(bk:Bool)(N:List LI)(x:E3):List LI:=N.set (frm bk x).toNat (N.getD (frm bk x).toNat []++[tow bk x])
theorem yeO(ha:NdOk a)(bk:Bool){n:Nat}(hn:a.2.1=(n:Int)):iter (y1S a bk) (0,List.replicate n ([]:LI))=some (a.2.2.2.2.foldl (nxF bk) (List.replicate n [])):=by
 have hle:=ha.le;obtain⟨o,ho,he⟩:=yo (f:=y1S a bk) (fun j st=>st=((j:Int),(a.2.2.2.2.take j).foldl (nxF bk) (List.replicate n []))∧st.2.length=n∧∀i:Nat,(st.2.getD i []).length≤j) (fun o=>o=a.2.2.2.2.foldl (nxF bk) (List.replicate n [])) a.2.2.2.2.length 0 (by omega) (fun j st hj ⟨e1,e2,e3⟩=>by
   obtain⟨g1,g2,g3,g4,_⟩:=ha.esr _ (yGm hj);have hf:0≤frm bk a.2.2.2.2[j]∧frm bk a.2.2.2.2[j]<(n:Int):=by
    unfold frm;split <;> omega
   have hs:(a.2.2.2.2.take (j+1)).foldl (nxF bk) (List.replicate n [])=nxF bk ((a.2.2.2.2.take j).foldl (nxF bk) (List.replicate n [])) a.2.2.2.2[j]:=by rw [yTs hj,List.foldl_append];rfl
   obtain⟨s1,N⟩:=st;obtain⟨e0,e1'⟩:=Prod.mk.inj e1;dsimp only at e2 e3;rw [←e1'] at hs;subst e0;have hj1:y1R ((j:Int),N) (frm bk a.2.2.2.2[j]) (tow bk a.2.2.2.2[j])=some (.inl (((j+1:Nat):Int),nxF bk N a.2.2.2.2[j])):=by
    have hidx:idx N (frm bk a.2.2.2.2[j])=some (N.getD (frm bk a.2.2.2.2[j]).toNat []):=by
     unfold idx;rw [iP hf.1,yGd,yGe (by omega)];rfl
    have hb:=e3 (frm bk a.2.2.2.2[j]).toNat;rw [y1R];simp only;rw [hidx,yOb,y1K (by rw [List.length_singleton];omega),yOb,yOb,yaQ (by omega),yOb,nxt (by omega)];rfl
   refine .inl ⟨(((j+1:Nat):Int),nxF bk N a.2.2.2.2[j]),?_,by rw [hs],by unfold nxF;rw [List.length_set];exact e2,fun i=>?_⟩
   ·unfold y1S;simp only [ct_lt hj,if_true,yg hj,yOb];rw [←hj1];unfold frm tow;cases bk <;> rfl
   ·have h1:=e3 i;have h2:=e3 (frm bk a.2.2.2.2[j]).toNat;unfold nxF;dsimp only;rw [yGd,List.getElem?_set];split
    ·split
     ·rw [Option.getD_some,yLa,List.length_singleton];omega
     ·rw [Option.getD_none,List.length_nil];omega
    ·rw [←yGd];omega)
  (fun st ⟨e1,_,_⟩=>by
   subst e1;refine⟨a.2.2.2.2.foldl (nxF bk) (List.replicate n []),?_,rfl⟩;rw [List.take_length];unfold y1S;simp) (by omega) (0,List.replicate n []) ⟨rfl,List.length_replicate ..,fun i=>by
    rw [yGd,List.getElem?_replicate];split <;> simp⟩
 rw [ho,he]
theorem ybj(bk:Bool){n:Nat}:∀(es:List E3),(∀x∈es,0≤frm bk x∧frm bk x<(n:Int))→∀N:List LI,N.length=n→
  (es.foldl (nxF bk) N).length=n∧∀(i:Nat) (t:Int),t∈(es.foldl (nxF bk) N).getD i []↔t∈N.getD i []∨∃x∈es,frm bk x=(i:Int)∧tow bk x=t
 | [],_,N,hN=>⟨hN,fun i t=>by simp⟩
 | x::es,hr,N,hN=>by
  have hx:=hr x (.head _);obtain⟨h1,h2⟩:=ybj bk es (fun y hy=>hr y (.tail _ hy)) (nxF bk N x) (by unfold nxF;rw [List.length_set];exact hN);refine⟨h1,fun i t=>?_⟩;rw [List.foldl_cons,h2];have h3:t∈(nxF bk N x).getD i []↔t∈N.getD i []∨(frm bk x=(i:Int)∧tow bk x=t):=by
   unfold nxF;rw [yGd,List.getElem?_set];by_cases e:(frm bk x).toNat=i
   ·rw [iP e,iP (by omega),Option.getD_some,e,yMa,yMs];constructor
    ·rintro (h|h)
     ·exact .inl h
     ·exact .inr ⟨by omega,h.symm⟩
    ·rintro (h|⟨_,h⟩)
     ·exact .inl h
     ·exact .inr h.symm
   ·rw [iN e,←yGd];constructor
    ·exact .inl
    ·rintro (h|⟨h,_⟩)
     ·exact h
     ·omega
  rw [h3];constructor
  ·rintro ((h|h)|⟨y,hy,h⟩)
   ·exact .inl h
   ·exact .inr ⟨x,.head _,h⟩
   ·exact .inr ⟨y,.tail _ hy,h⟩
  ·rintro (h|⟨y,hy,h⟩)
   ·exact .inl (.inl h)
   ·rcases yMo.1 hy with rfl|hy
    ·exact .inl (.inr h)
    ·exact .inr ⟨y,hy,h⟩
inductive RcL (lead:Int→LI) (S:LI):Int→Prop
 | ini {s:Int}:s∈S→RcL lead S s
 | step {s t:Int}:RcL lead S s→t∈lead s→RcL lead S t
def potS(lead:Int→LI)(B:List Bool):Nat→Nat
 | 0=>0
 | k+1=>potS lead B k+if flg B (k:Int)=true then 0 else(lead (k:Int)).length
theorem ycD{lead:Int→LI}{B:List Bool}{x:Nat}(hx:x<B.length)(hf:flg B (x:Int)=false):∀k:Nat,potS lead (B.set x true) k+(if x<k then(lead (x:Int)).length else 0)=potS lead B k
 | 0=>rfl
 | k+1=>by
  have ih:=ycD (lead:=lead) hx hf k;have e:=y7t (B:=B) (s:=(k:Int)) (t:=(x:Int)) (by omega) (by omega) (by omega);rw [yTn] at e;show potS lead (B.set x true) k+(if flg (B.set x true) (k:Int)=true then 0 else(lead (k:Int)).length)+(if x<k+1 then(lead (x:Int)).length else 0)=potS lead B k+if flg B (k:Int)=true then 0 else(lead (k:Int)).length
  by_cases h1:k=x
  ·subst h1;rw [iN (Nat.lt_irrefl _)] at ih;rw [e,iP rfl,iP rfl,iP (Nat.lt_succ_self _),hf,iN (by simp)];omega
  ·rw [iN (by omega)] at e;rw [e];by_cases h2:x<k
   ·rw [iP h2] at ih;rw [iP (show x<k+1 by omega)];omega
   ·rw [iN h2] at ih;rw [iN (show ¬x<k+1 by omega)];omega
theorem ydk{lead:Int→LI}{B:List Bool}{M:Nat}:∀k:Nat,(∀i:Nat,i<k→(lead (i:Int)).length≤M)→potS lead B k≤k*M
 | 0,_=>by simp [potS]
 | k+1,h=>by
  have ih:=ydk (B:=B) k fun i hi=>h i (by omega);have:=h k (by omega);rw [Nat.add_mul,Nat.one_mul];unfold potS;split <;> omega
structure SrI (lead:Int→LI) (S:LI) (n:Nat) (B:List Bool) (todo:LI):Prop where
 len:B.length=n
 rng:∀x∈todo,0≤x∧x<(n:Int)
 rc:∀x∈todo,RcL lead S x
 fl:∀s,0≤s→flg B s=true→RcL lead S s
 nx:∀s,0≤s→flg B s=true→∀t∈lead s,flg B t=true∨t∈todo
 st:∀s∈S,flg B s=true∨s∈todo
theorem ycO{σ ο:Type}{f:σ→Option (σ⊕ο)}(mk:List Bool→LI→σ)(out:List Bool→ο){lead:Int→LI}{S:LI}{n M:Nat}(hn:n≤4096)(hM:M≤65536)(hSl:S.length≤300000000)(hS:∀s∈S,0≤s∧s<(n:Int))
  (hl:∀s,0≤s→s<(n:Int)→(lead s).length≤M∧∀t∈lead s,0≤t∧t<(n:Int))
  (s1:∀B todo x,B.length=n→0≤x→x<(n:Int)→todo.length≤600000000→flg B x=true→f (mk B (todo++[x]))=some (.inl (mk B todo)))
  (s2:∀B todo x,B.length=n→0≤x→x<(n:Int)→todo.length+(lead x).length≤600000000→flg B x=false→f (mk B (todo++[x]))=some (.inl (mk (B.set x.toNat true) (todo++lead x))))
  (s3:∀B,f (mk B [])=some (.inr (out B))):
  ∃B,iter f (mk (List.replicate n false) S)=some (out B)∧B.length=n∧∀s,0≤s→(flg B s=true↔RcL lead S s):=by
 have hf0:∀s,flg (List.replicate n false) s=false:=fun s=>by
  unfold flg;rw [yGd,List.getElem?_replicate];split <;> rfl
 have hp0:potS lead (List.replicate n false) n≤4096*65536:=Nat.le_trans (ydk (M:=M) n fun i hi=>(hl _ (by omega) (by omega)).1) (Nat.mul_le_mul hn hM);obtain⟨o,h1,B,rfl,h2,h3⟩:=yo (f:=f) (fun i s=>∃B todo,s=mk B todo∧SrI lead S n B todo∧i+todo.length+potS lead B n≤600000000) (fun o=>∃B,o=out B∧B.length=n∧∀s,0≤s→(flg B s=true↔RcL lead S s)) 600000001 0 (by omega) (fun i s _ ⟨B,todo,e1,hI,hm⟩=>by
   subst e1;rcases List.eq_nil_or_concat todo with rfl|⟨td,x,rfl⟩
   ·refine .inr ⟨_,s3 B,B,rfl,hI.len,fun s hs=>⟨hI.fl s hs,fun h=>?_⟩⟩;clear hs
    induction h with
    | ini h=>exact(hI.st _ h).resolve_right (by simp)
    | step hr h ih=>
     have h0:∀{s:Int},RcL lead S s→0≤s∧s<(n:Int):=fun h=>by
      clear ih
      induction h with
      | ini h=>exact hS _ h
      | step _ h ih=>exact(hl _ ih.1 ih.2).2 _ h
     exact(hI.nx _ (h0 hr).1 ih _ h).resolve_right (by simp)
   ·rw [List.concat_eq_append] at hI hm ⊢;have hx:=hI.rng x (by simp);rw [yLa,List.length_singleton] at hm;left;cases hf:flg B x with
    | true=>
     refine⟨_,s1 B td x hI.len hx.1 hx.2 (by omega) hf,B,td,rfl,⟨hI.len,fun y hy=>hI.rng y (by simp [hy]),fun y hy=>hI.rc y (by simp [hy]),hI.fl,fun s hs hb t ht=>?_,fun s hs=>?_⟩,by omega⟩
     ·rcases hI.nx s hs hb t ht with h|h
      ·exact .inl h
      ·rcases yMa.1 h with h|h
       ·exact .inr h
       ·rw [yMs.1 h];exact .inl hf
     ·rcases hI.st s hs with h|h
      ·exact .inl h
      ·rcases yMa.1 h with h|h
       ·exact .inr h
       ·rw [yMs.1 h];exact .inl hf
    | false=>
     obtain⟨k,rfl⟩:∃k:Nat,x=(k:Int):=⟨x.toNat,by omega⟩;have hk:k<B.length:=by have:=hI.len;omega
     have hp:=ycD (lead:=lead) hk hf n;rw [iP (by omega)] at hp;have hrx:=hI.rc _ (yMr td (yMs.2 rfl));have hfs:∀s,0≤s→flg (B.set k true) s=if s=(k:Int) then true else flg B s:=fun s hs=>by
      have e:=y7t (B:=B) (t:=(k:Int)) hs (by omega) (by omega);rwa [yTn] at e
     have hms:i+1+(td++lead k).length+potS lead (B.set k true) n≤600000000:=by rw [yLa];omega
     refine⟨_,s2 B td k hI.len hx.1 hx.2 (by rw [yLa] at hms;omega) hf,B.set k true,td++lead k,rfl,⟨by rw [List.length_set];exact hI.len,fun y hy=>?_,fun y hy=>?_,fun s hs h=>?_,fun s hs hb t ht=>?_,fun s hs=>?_⟩,hms⟩
     ·rcases yMa.1 hy with hy|hy
      ·exact hI.rng y (by simp [hy])
      ·exact (hl _ hx.1 hx.2).2 y hy
     ·rcases yMa.1 hy with hy|hy
      ·exact hI.rc y (by simp [hy])
      ·exact .step hrx hy
     ·rw [hfs s hs] at h;split at h
      ·rename_i e;rw [e];exact hrx
      ·exact hI.fl s hs h
     ·rw [hfs s hs] at hb;have key:∀{t:Int},0≤t→flg B t=true∨t∈td++[(k:Int)]→flg (B.set k true) t=true∨t∈td++lead k:=fun {t} h0 h=>by
       rw [hfs t h0];rcases h with h|h
       ·left;split
        ·rfl
        ·exact h
       ·rcases yMa.1 h with h|h
        ·exact .inr (yMl _ h)
        ·rw [yMs.1 h,iP rfl];exact .inl rfl
      split at hb
      ·rename_i e;rw [e] at ht;exact .inr (yMr _ ht)
      ·rcases hI.nx s hs hb t ht with h|h
       ·by_cases h0:0≤t
        ·exact key h0 (.inl h)
        ·exfalso;have hs2:s<(n:Int):=by
          rcases Int.lt_or_le s n with h|h
          ·exact h
          ·exfalso;unfold flg at hb;rw [yGd,yGn (by have:=hI.len;omega)] at hb;simp at hb
         have:=(hl s hs hs2).2 t ht;omega
       ·exact key (hI.rng t h).1 (.inr h)
     ·have h0:=hS s hs;rw [hfs s h0.1];rcases hI.st s hs with h|h
      ·left;split
       ·rfl
       ·exact h
      ·rcases yMa.1 h with h|h
       ·exact .inr (yMl _ h)
       ·rw [yMs.1 h,iP rfl];exact .inl rfl)
  (fun s ⟨B,todo,_,_,hm⟩=>by omega) (by omega) _ ⟨_,S,rfl,⟨List.length_replicate ..,hS,fun x hx=> .ini hx,fun s _ h=>by rw [hf0 s] at h;simp at h,fun s _ h=>by rw [hf0 s] at h;simp at h,fun s hs=> .inr hs⟩,by omega⟩
 exact⟨B,h1,h2,h3⟩
theorem ydl{x:α}(h:td.length≤4294967296):idx (td++[x]) (W (((td++[x]).length:Int)-1))=some x:=by
 have e:(((td++[x]).length:Int)-1)=(td.length:Int):=by rw [yLa,List.length_singleton];omega
 rw [e,W_nat (by omega),yg (by simp)];simp
theorem ydm{x:α}(h:td.length≤4294967296):slc (td++[x]) 0 (W (((td++[x]).length:Int)-1))=some td:=by
 have e:(((td++[x]).length:Int)-1)=(td.length:Int):=by rw [yLa,List.length_singleton];omega
 have:=yaG (xs:=td++[x]) (i:=0) (j:=td.length) (by omega) (by simp);rw [e,W_nat (by omega)];rw [show (0:Int)=((0:Nat):Int) from rfl,this];simp
theorem ydn{x:α}:decide (((td++[x]).length:Int)>0)=true:=by simp
def rowsN(bk:Bool)(n:Nat)(es:List E3):List LI:=es.foldl (nxF bk) (List.replicate n [])
def ledN(bk:Bool)(n:Nat)(es:List E3)(s:Int):LI:=(rowsN bk n es).getD s.toNat []
theorem yaR(bk:Bool):∀(es:List E3) (N:List LI) (i:Nat),((es.foldl (nxF bk) N).getD i []).length≤(N.getD i []).length+es.length
 | [],N,i=>yNr _
 | x::es,N,i=>by
  have h:=yaR bk es (nxF bk N x) i;rw [List.foldl_cons,yLc];have h2:((nxF bk N x).getD i []).length≤(N.getD i []).length+1:=by
   unfold nxF;rw [yGd,List.getElem?_set];split
   ·rename_i e;split
    ·rw [Option.getD_some,yLa,e];simp
    ·rw [Option.getD_none];simp
   ·rw [yGd];omega
  omega
theorem y7v(ha:NdOk a){bk:Bool}{s t:Int}(hs:0≤s):t∈ledN bk a.2.1.toNat a.2.2.2.2 s↔ ∃x∈a.2.2.2.2,frm bk x=s∧tow bk x=t:=by
 have h0:=ha.n0;obtain⟨_,h2⟩:=ybj bk (n:=a.2.1.toNat) a.2.2.2.2 (fun x hx=>by
  have:=ha.esr x hx;unfold frm;split <;> omega) (List.replicate a.2.1.toNat []) (List.length_replicate ..)
 unfold ledN rowsN;rw [h2];have:t∉(List.replicate a.2.1.toNat ([]:LI)).getD s.toNat []:=by
  rw [yGd,List.getElem?_replicate];split <;> simp
 simp only [this,false_or];rw [show ((s.toNat:Nat):Int)=s by omega]
theorem ybP(ha:NdOk a){S:LI}(hS:∀s∈S,0≤s∧s<a.2.1)(hl:S.length≤1000000)(bk:Bool):
  ∃B,y2A a S bk=some B∧B.length=a.2.1.toNat∧∀s,0≤s→(flg B s=true↔RcL (ledN bk a.2.1.toNat a.2.2.2.2) S s):=by
 have h0:=ha.n0;have h1:=ha.n1;have hle:=ha.le;obtain⟨n,hn⟩:∃n:Nat,a.2.1=(n:Int):=⟨a.2.1.toNat,by omega⟩;have hnn:a.2.1.toNat=n:=by omega
 have hl1:=yeO ha bk hn;have hrl:=(ybj bk (n:=n) a.2.2.2.2 (fun x hx=>by
  have:=ha.esr x hx;unfold frm;split <;> omega) (List.replicate n []) (List.length_replicate ..)).1
 have hled:∀s,0≤s→s<(n:Int)→idx (rowsN bk n a.2.2.2.2) s=some (ledN bk n a.2.2.2.2 s):=fun s hs hs2=>by
  unfold idx ledN;rw [iP hs,yGd,yGe (by unfold rowsN;omega)];rfl
 have hml:=fun s t=>y7v ha (bk:=bk) (s:=s) (t:=t);rw [hnn] at hml;rw [hnn];obtain⟨B,k1,k2,k3⟩:=ycO (f:=yV (rowsN bk n a.2.2.2.2)) (fun B todo=>(todo,B)) (fun B=>B) (lead:=ledN bk n a.2.2.2.2) (S:=S) (n:=n) (M:=65536) (by omega) (yNr _) (by omega) (fun s hs=>by have:=hS s hs;omega) (fun s hs hs2=>⟨by
   have:=yaR bk a.2.2.2.2 (List.replicate n []) s.toNat;have e:((List.replicate n ([]:LI)).getD s.toNat []).length=0:=by
    rw [yGd,List.getElem?_replicate];split <;> simp
   unfold ledN rowsN;omega,fun t ht=>by
   obtain⟨x,hx,_,rfl⟩:=(hml s t hs).1 ht;have:=ha.esr x hx;unfold tow;split <;> omega⟩)
  (fun B td x hB hx0 hx1 htd hf=>by
   unfold yV;simp only [ydn,if_true];rw [ydl (by omega),yOb,ydm (by omega),yOb,y6n (by omega),yOb,hf];simp)
  (fun B td x hB hx0 hx1 htd hf=>by
   unfold yV;simp only [ydn,if_true];rw [ydl (by omega),yOb,ydm (by omega),yOb,y6n (by omega),yOb,hf];simp only [Bool.not_false,if_true,yOb];rw [yaQ (by omega),yOb,hled x hx0 hx1,yOb,y1K (by omega),yOb])
  (fun B=>by
   unfold yV;simp)
 refine⟨B,?_,k2,k3⟩;have hm:mkL a.2.1 ([]:LI)=some (List.replicate n []):=by unfold mkL;rw [hn,iP (by omega)];rfl
 have hm2:mkL a.2.1 false=some (List.replicate n false):=by unfold mkL;rw [hn,iP (by omega)];rfl
 rw [y2A,hm,yOb,hl1,yOb,hm2,yOb,yfg (by omega),yOb];show(iter (yV (rowsN bk n a.2.2.2.2)) (S,List.replicate n false)).bind _=_;rw [k1];rfl
theorem ygl(ha:NdOk a){S:LI}(hS:∀s∈S,0≤s){t:Int}:RcL (ledN false a.2.1.toNat a.2.2.2.2) S t↔Rc3 a.2.2.2.2 S t:=by
 constructor
 ·intro h
  suffices g:0≤t∧Rc3 a.2.2.2.2 S t from g.2
  induction h with
  | ini h=>exact⟨hS _ h,.ini h⟩
  | step _ h ih=>
   obtain⟨x,hx,h1,h2⟩:=(y7v ha ih.1).1 h;have:=ha.esr x hx;simp only [frm,tow,Bool.false_eq_true,if_false] at h1 h2;subst h2;exact⟨this.2.2.1,.edge hx (h1▸ih.2)⟩
 ·intro h
  induction h with
  | ini h=>exact .ini h
  | edge hx _ ih=>exact .step ih ((y7v ha (ha.esr _ hx).1).2 ⟨_,hx,rfl,rfl⟩)
theorem ygm(ha:NdOk a){S:LI}(hS:∀s∈S,0≤s){s:Int}:RcL (ledN true a.2.1.toNat a.2.2.2.2) S s↔ ∃t∈S,Star (ltsN a).nxt1 s t:=by
 constructor
 ·intro h
  suffices g:0≤s∧∃t∈S,Star (ltsN a).nxt1 s t from g.2
  induction h with
  | ini h=>exact⟨hS _ h,_,h,.refl _⟩
  | step _ h ih=>
   obtain⟨x,hx,h1,h2⟩:=(y7v ha ih.1).1 h;have:=ha.esr x hx;simp only [frm,tow,if_true] at h1 h2;subst h2;obtain⟨t,ht,g⟩:=ih.2;rw [←h1] at g;exact⟨this.1,t,ht,Star.head ⟨_,hx⟩ g⟩
 ·rintro ⟨t,ht,h⟩;have key:∀{s u:Int},Star (ltsN a).nxt1 s u→RcL (ledN true a.2.1.toNat a.2.2.2.2) S u→RcL (ledN true a.2.1.toNat a.2.2.2.2) S s:=fun {s u} h=>by
   induction h with
   | refl=>exact id
   | tail _ g ih=>
    intro hr;obtain⟨e,g⟩:=g;exact ih (.step hr ((y7v ha (ha.esr _ g).2.2.1).2 ⟨_,g,rfl,rfl⟩))
  exact key h (.ini ht)
theorem ydL(ha:NdOk a){q:Nat→Bool}(hq:∀i:Nat,i<a.2.1.toNat→(q i=true↔Rc3 a.2.2.2.2 a.2.2.1 (i:Int))):yS a=some ((staL a.2.1.toNat q).filter fun s=>!goodB a s):=by
 have h0:=ha.n0;have h1:=ha.n1;have hli:=ha.li;have hlm:=ha.lm;obtain⟨B,e1,l1,f1⟩:=ybP ha ha.inr hli false;obtain⟨C,e2,l2,f2⟩:=ybP ha ha.mkr hlm true;obtain⟨n,hn⟩:∃n:Nat,a.2.1=(n:Int):=⟨a.2.1.toNat,by omega⟩;have hnn:a.2.1.toNat=n:=by omega
 have hb:∀i:Nat,i<n→flg B (i:Int)=q i∧flg C (i:Int)=goodB a (i:Int):=fun i hi=>by
  constructor
  ·rw [Bool.eq_iff_iff,f1 _ (by omega),ygl ha (fun s hs=>(ha.inr s hs).1),hq i (by omega)]
  ·rw [Bool.eq_iff_iff,f2 _ (by omega),ygm ha (fun s hs=>(ha.mkr s hs).1)];unfold goodB;rw [@decide_eq_true_iff _ (Classical.propDecidable _)];constructor
   ·rintro ⟨t,ht,h⟩;refine⟨t,ht,?_⟩;clear ht
    induction h with
    | refl=>exact .ini (yMs.2 rfl)
    | tail _ g ih=>obtain⟨e,g⟩:=g;exact .edge (x:=(_,e,_)) g ih
   ·rintro ⟨t,ht,h⟩;refine⟨t,ht,?_⟩;clear ht
    induction h with
    | ini h=>rw [yMs.1 h];exact .refl _
    | edge hx _ ih=>exact ih.tail ⟨_,hx⟩
 have hf:∀j:Nat,(staL (j+1) q).filter (fun s=>!goodB a s)=(staL j q).filter (fun s=>!goodB a s)++if(q j && !goodB a (j:Int))=true then [(j:Int)] else []:=fun j=>by
  rw [ybM,List.filter_append];congr 1;cases q j <;> cases h:goodB a (j:Int) <;> simp [h]
 have hlen:∀j:Nat,((staL j q).filter fun s=>!goodB a s).length≤j:=fun j=>Nat.le_trans (List.length_filter_le _ _) (y7u j q);rw [hnn] at l1 l2;have hloop:iter (y1H a B C) (0,([]:LI))=some ((staL n q).filter fun s=>!goodB a s):=by
  obtain⟨o,ho,he⟩:=yo (f:=y1H a B C) (fun j st=>st=((j:Int),(staL j q).filter fun s=>!goodB a s)) (fun o=>o=(staL n q).filter fun s=>!goodB a s) n 0 (by omega) (fun j st hj e0=>by
    subst e0;refine .inl ⟨_,?_,rfl⟩;obtain⟨b1,b2⟩:=hb j hj;have hj2:=hlen j;unfold y1H;simp only [hn,ct_lt hj,if_true];rw [y6n (by omega),yOb,y6n (by omega),b1,b2,hf];cases hq2:q j <;> cases hg:goodB a (j:Int) <;> simp only [hq2,hg,Bool.false_eq_true,if_false,if_true,yOb,Bool.not_true,Bool.not_false,Bool.and_self,Bool.and_true,Bool.and_false,List.append_nil]
    all_goals first
     | (rw [y1G,nxt (by omega)])
     | (rw [y1K (by rw [List.length_singleton];omega),yOb,y1G,nxt (by omega)]))
   (fun st e0=>by
    subst e0;refine⟨_,?_,rfl⟩;unfold y1H;simp [hn]) (by omega) (0,[]) rfl
  rw [ho,he]
 rw [yS,e1,yOb,e2,yOb,hloop,yOb,hnn]
theorem ydM{c:NdT}(hc:NdOk c):∃l:LI,yS c=some l∧y1A c=some l∧l.length≤4294967296:=by
 obtain⟨q,h1,h2⟩:=yfE hc;refine⟨_,ydL hc h1,h2,?_⟩;have:=hc.n1;exact Nat.le_trans (List.length_filter_le _ _) (Nat.le_trans (y7u _ _) (by omega))
theorem ycE{o:Int×Int×Int×Int×List E3}(hd:DrOk d)(ho:DrOk o):yM d o=some true:=ycN hd ho fun _ hc=>ydM hc
end
section
open Go.Proofs.Tryz Go Go.RowKit Go.ChangeShapes Go.WideShapes Go.Deep
def Op(P:Program){α:Type}(r:Rep α)(Q:α→Prop)(t:TypeId):Prop:=
 ∀(H:Type) (enc:TypeId×Value→H) (w:World) (fuel:Nat) (cs:List Value) (x:DataW H×List MemPlace),DataW.trod enc P w 0 (fun _=>true) true fuel t cs=some x→∃y:α,r.rd ⟨w,fun _=>0⟩ cs y∧Q y
section
variable{P:Program}{α β:Type}{r:Rep α}{q:Rep β}{Q:α→Prop}{R:β→Prop}{t e:TypeId}
theorem Op.int{k:IntKind}(ht:P.underlying t=some (.int k)):Op P (rK k) (fun n=>k.min≤n∧n≤k.max) t:=by
 intro H enc w fuel cs x h;obtain⟨n,h1,h2,h3⟩:=DataW.trod_int ht h;refine⟨n,h1,?_⟩;simpa [Lit.wf] using h3
theorem yfF{H:Type}{enc:TypeId×Value→H}{w:World}{base fuel:Nat}{v:Value}{x:DataW H×List MemPlace}(ht:P.underlying t=some (.slice e))(hc:P.cellsOf e=r.sz)(ho:Op P r Q e)(hok:Cell.okWide P w .any base t v)
  (h:DataW.trod enc P w 0 (fun _=>true) true fuel t [v]=some x):∃(a:Option Addr) (c:Nat) (xs:List α),v= .slice a xs.length c∧RdL r ⟨w,fun _=>0⟩ a c xs∧∀y∈xs,Q y:=by
 rcases open_slice ht h with ⟨h1,-⟩|⟨a,len,cap,m,n,D,Pl,h1,-,h3,h4,h5,-,h7⟩
 ·rw [List.cons.injEq] at h1;refine⟨none,0,[],h1.1,⟨[],⟨by simp,by simp,by simp,fun _=>rfl,fun ad e=>(by cases e),fun ad e=>(by cases e)⟩,fun ad e=>(by cases e),rfl⟩,fun y hy=>(by cases hy)⟩
 ·rw [List.cons.injEq] at h1;have hv:=h1.1;subst hv;rw [iP rfl] at h5;subst h5;have hsp:a.spot=none:=by
   simp only [Cell.okWide,ht,Cell.ok] at hok;exact hok.2.2.2.1
  have hadd:∀k,a.add k=⟨a.block,a.off+k,none⟩:=fun k=>by
   obtain⟨b,o,sp⟩:=a;dsimp only at hsp;subst hsp;unfold Addr.add;split
   ·rename_i hk;subst hk;rfl
   ·rfl
  have key:∀k,k≤len→∃(xs:List α) (cs:List Value),xs.length=k∧Cells r ⟨w,fun _=>0⟩ cs xs∧(∀y∈xs,Q y)∧∀j (hj:j<cs.length),w.cell? ⟨a.block,a.off+j,none⟩=some cs[j]:=by
   intro k
   induction k with
   | zero=>intro _;exact⟨[],[],rfl,rfl,fun y hy=>(by cases hy),fun j hj=>absurd hj (Nat.not_lt_zero _)⟩
   | succ k ih=>
    intro hk;obtain⟨xs,cs,g1,g2,g3,g4⟩:=ih (by omega);obtain⟨cs',k1,k2⟩:=h7 k (by omega);obtain⟨y,k3,k4⟩:=ho H enc w n cs' _ k2;obtain⟨-,k5,k6⟩:=World.cells?_some k1;have hl:=g2.len;rw [g1] at hl;rw [hc] at k5 k6;refine⟨xs++[y],cs++cs',by simp [g1],g2.append ⟨cs',[],by simp,k3,rfl⟩,fun z hz=>?_,fun j hj=>?_⟩
    ·rcases yMa.1 hz with hz|hz
     ·exact g3 z hz
     ·rw [yMs.1 hz];exact k4
    ·by_cases hlt:j<cs.length
     ·rw [List.getElem_append_left hlt];exact g4 j hlt
     ·have hj2:j-cs.length<cs'.length:=by rw [yLa] at hj;omega
      rw [List.getElem_append_right (by omega)];have:=k6 (j-cs.length) (by omega);rw [add_add,hadd,yGe hj2] at this;rw [←this];congr 2;omega
  obtain⟨xs,cs,g1,g2,g3,g4⟩:=key len (yNr _);subst g1;refine⟨some a,m,xs,rfl,⟨cs,⟨g2.len,h3,h4,fun e=>(by cases e),fun ad e=>(by cases e;exact hsp),fun ad e j hj=>(by cases e;exact g4 j hj)⟩,fun _ _ _=>rfl,g2⟩,g3⟩
theorem ygI{w:World}{base:Nat}{v:Value}{fs:Array Field}{ts:List TypeId}(ht:P.underlying t=some (.struct fs))(hts:P.cellTypes P.depth t=some ts)(hsz:P.cellsOf t=ts.length)(hok:Value.okWide P w .any base t v):
  ∃cs,v= .agg cs∧cs.size=ts.length∧∀(i:Nat) (u:TypeId),ts[i]? =some u→∃c:Value,cs[i]? =some c∧Cell.okWide P w .any base u c:=by
 simp only [Value.okWide,ht] at hok;obtain⟨cs,rfl,h1,ts',h2,h3,h4⟩:=hok;rw [hts] at h2;cases h2;refine⟨cs,rfl,by omega,fun i u hu=>?_⟩;have hlt:i<ts.length:=(yGs.1 hu).1;obtain⟨u',g1,g2⟩:=h4 i cs[i] (Array.getElem?_eq_getElem (by omega));rw [Nat.mod_eq_of_lt hlt,hu] at g1;cases g1;exact⟨_,Array.getElem?_eq_getElem (by omega),g2⟩
theorem yfG{H:Type}{enc:TypeId×Value→H}{w:World}{fuel:Nat}{cs:List Value}{x:DataW H×List MemPlace}{fs:Array Field}(ht:P.underlying t=some (.struct fs))(h:DataW.trod enc P w 0 (fun _=>true) true fuel t cs=some x){i:Nat}{f:Field}(hf:fs[i]? =some f):
  ∃n y,DataW.trod enc P w 0 (fun _=>true) true n f.type ((cs.drop f.offset).take (P.cellsOf f.type))=some y:=by
 obtain⟨xs,n,_,_,_,h5,h6⟩:=DataW.trod_struct ht h;have hlt:=(yAs.1 hf).1;exact⟨n,xs[i]'(by omega),by rw [h6 i f hf,yGe (by omega)]⟩
theorem yeP{H:Type}{enc:TypeId×Value→H}{w:World}{fuel:Nat}{cs:List Value}{x:DataW H×List MemPlace}{fs:Array Field}(ht:P.underlying t=some (.struct fs))(h:DataW.trod enc P w 0 (fun _=>true) true fuel t cs=some x)(i:Nat)(u:TypeId){f:Field}{o:Nat}{c:Value}(hf:fs[i]? =some f)(hu:f.type=u)(ho:f.offset=o)(hc:P.cellsOf u=1)(hat:cs[o]? =some c):
  ∃n y,DataW.trod enc P w 0 (fun _=>true) true n u [c]=some y:=by
 obtain⟨n,y,g⟩:=yfG ht h hf;subst hu;subst ho;rw [hc] at g;obtain⟨hlt,he⟩:=yGs.1 hat;rw [yDc hlt,he,List.take_succ_cons,List.take_zero] at g;exact⟨n,y,g⟩
end
end
end Go.Proofs.YtfdeiphkmjdifaaGreatDoor
