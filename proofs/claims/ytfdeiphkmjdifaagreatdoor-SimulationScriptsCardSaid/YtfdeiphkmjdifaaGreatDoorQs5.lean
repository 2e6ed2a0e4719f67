/- Parts of the proof, without what nothing here names. -/
import Derived.Test.YtfdeiphkmjdifaaGreatDoorProg
import Derived.Shelf.SlSortCmp.InsertionK
import Derived.Shelf.SlSortCmp.NoneTotal
import Derived.Ground.SlsfProg
import Derived.Test.YtfdeiphkmjdifaaGreatDoorQs4
set_option maxRecDepth 100000
set_option maxHeartbeats 8000000
namespace Go.Proofs.YtfdeiphkmjdifaaGreatDoor
section
open Tryz Go Go.RowKit
noncomputable section
def y2b(d:BenT×LI)(e:LI×Int)(f:Int)(b:LI×Bool×BenT)(a:BenT):Option (StpT×Int×BenT):=
 (y7D a.2.1 a.2.2.2).bind fun c=>
 if(c.2 != 0) then
  some ((d.2,b.1,e.1,f,b.2.1,c.1,false),c.2,a)
 else
  (y7g a.2.1 a.2.2.2).bind fun g=>
  some ((d.2,b.1,e.1,f,b.2.1,c.1,g.1),g.2,a)
def y2c(c:BenT×LI)(d:LI×Int)(b:Int)(a:LI×Bool×BenT)(g:BenT):Option (StpT×Int×BenT):=
 (yW g a.1).bind fun e=>
 if(e.1 != 0) then
  some ((c.2,a.1,d.1,b,a.2.1,0,false),e)
 else
  if a.2.1 then
   (yW e.2 ([b]:LI)).bind fun f=>
   if(f.1 != 0) then
    some ((c.2,a.1,d.1,b,a.2.1,0,false),f)
   else
    y2b c d b a f.2
  else
   y2b c d b a e.2
def y2d(a:BenT×Int×LI)(c:BenT)(b:LI):Option ((BenT×Int×LI)⊕(BenT×LI)):=
 some (.inl (c,W (a.2.1+1),b))
def y2e(p1:CycT)(a:BenT×Int×LI):Option ((BenT×Int×LI)⊕(BenT×LI)):=
 if decide (a.2.1<(p1.1.length:Int)) then
  (idx p1.1 a.2.1).bind fun c=>
  (y2y a.1 c).bind fun b=>
  if b.1 then
   (app a.2.2 ([c]:LI)).bind fun d=>
   y2d a b.2 d
  else
   y2d a b.2 a.2.2
 else
  some (.inr (a.1,a.2.2))
def y4D(p0:BenT)(p1:CycT)(p2:(Int→Option Bool)→Option Int):Option (StpT×Int×BenT):=
 (iter (y2e p1) (p0,0,([]:LI))).bind fun a=>
 (yW a.1 a.2).bind fun b=>
 if(b.1 != 0) then
  some ((a.2,([]:LI),([]:LI),0,false,0,false),b)
 else
  (y4h b.2.2.1 b.2.2.2.2).bind fun c=>
  if(c.2 != 0) then
   some ((a.2,([]:LI),c.1,0,false,0,false),c.2,b.2)
  else
   (p2 (yU (some b.2) (a.2,([]:LI),c.1,0,false,0,false))).bind fun e=>
   (y4W b.2 p1.2.1 e).bind fun d=>
   if d.2.1 then
    (y2y d.2.2 e).bind fun f=>
    y2c a c e d f.2
   else
    y2c a c e d d.2.2
theorem ya3{p0:BenT}{p1:CycT}{p2:(Int→Option Bool)→Option Int}{r:StpT×Int×BenT}(hm:y4D p0 p1 p2=some r):
    Fw prog 261 ⟨1,[0]⟩ [.o (lP 0 0),.a [lF qI p1.1,lF qI p1.2.1,lI p1.2.2],.o (lW prog (fun (x:(Int→Option Bool))=> [.o (lW prog (fun (x:Int)=> [.i x]) (fun (r:Bool)=> .b r) x)]) (fun (r:Int)=> .i r) p2)] [.bx 261 (lx261 p0)] (.tp [.a [lF qI r.1.1,lF qI r.1.2.1,lH 1,lI r.1.2.2.2.1,lB r.1.2.2.2.2.1,lI r.1.2.2.2.2.2.1,lB r.1.2.2.2.2.2.2],.i r.2.1]) [.bx 261 (lx261 r.2.2),rwI r.1.2.2.1]:=by
  refine Fw.mk2 func261 ntmps261 R (fun C=>?_) R;refine .sr (.bo 1 R (.bo 2 R (.al 3 zz174 R (.an R (.seq (.sr (.fa ycH R (.lb nag26 R (.ln sl26 R (.mv R (.ns (.block (bS hm fun e N hm=>?_)))))))))))));refine .cut1 (z:= .exit 0) e (fun (e:BenT×LI)=>⟨[(6,.q 1 0),(4,.q 3 0),(3,.q 4 0),(2,.o (lW prog (fun (x:(Int→Option Bool))=> [.o (lW prog (fun (x:Int)=> [.i x]) (fun (r:Bool)=> .b r) x)]) (fun (r:Int)=> .i r) p2))],[(0,.bx 261 (lx261 e.1)),(1,.bx 174 [lH 2,lN,lN,lI 0,lB false,lI 0,lB false]),(2,rwI e.2),(3,.bx 170 [lF qI p1.1,lF qI p1.2.1,lI p1.2.2]),(4,.bx 333 [lP 0 0])],5⟩) ?_ fun a5=>?_
  · skip
    refine .blkE (.seqN (.seq (.sr (.lb y4w R (.fa ycO R (.lb nag26 R (.fz 2 [29] [1] R R fR R R (bS hm fun s P hm=> .cm (r':= .i s.1) [0] [(0,.bx 261 (lx261 s.2))] none (y5L P) cf289 R ⟨⟨_,R,I4⟩,trivial⟩ R (.an R (.sv R (.bi R (.ns ?_))))))))))));refine .cc hm R (fun hm=>?_) fun hm=>?_
    ·refine .sr (.lg [lF qI e.2,lN,lN,lI 0,lB false,lI 0,lB false] ag174 R (.B R) R (.mv R (.st ag174.sz R (.an R (.ret (.seqR (.nlb qI 3 1 2 R R (.cno 1 R (.c .rf (.c (.nf (r:=qI)) .rf)) R ?_))))))));cases hm;exact .rr [0,5] results261 (.cell R R ag174 R (.tmp R .nil)) R I3 ⟨⟨_,R,I4⟩,⟨_,R,I4⟩,trivial⟩
    ·refine .sn (.seq (.seq ?_));refine .sub (τ:=⟨[(6,.q 1 0),(4,.q 3 0),(3,.q 4 0),(2,.o (lW prog (fun (x:(Int→Option Bool))=> [.o (lW prog (fun (x:Int)=> [.i x]) (fun (r:Bool)=> .b r) x)]) (fun (r:Int)=> .i r) p2))],[(0,.bx 261 (lx261 s.2)),(1,.bx 174 [lF qI e.2,lN,lN,lI 0,lB false,lI 0,lB false]),(3,.bx 170 [lF qI p1.1,lF qI p1.2.1,lI p1.2.2]),(4,.bx 333 [lP 0 0])],5⟩) ?_ [] R;refine bS hm fun g Q hm=>?_;refine .drd 6 [(5,[],[]),(5,[oT],[]),(5,[oT,oT],[]),(5,tT 3,[]),(5,[],[]),(5,[oF,oF,oF,oF,oT],[]),(5,[oF,oF,oF,oF,oT,oT],[]),(5,fA 4 (tT 3),[]),(5,tT 8,[]),(6,tT 9,[]),(6,tT 10,[]),(6,tT 10,[1]),(6,tT 11,[]),(6,tA 11 (fA 1 (tT 1)),[]),(6,tT 14,[])] [_,_,_,_,_,_,_,_,_,_,_,_,_,_,_] ⟨[(7,.i g.2),(6,.q 1 0),(4,.q 3 0),(3,.q 4 0),(2,.o (lW prog (fun (x:(Int→Option Bool))=> [.o (lW prog (fun (x:Int)=> [.i x]) (fun (r:Bool)=> .b r) x)]) (fun (r:Int)=> .i r) p2))],[(0,.bx 261 (lx261 s.2)),(1,.bx 174 [lF qI e.2,lN,lH 5,lI 0,lB false,lI 0,lB false]),(5,rwI g.1),(3,.bx 170 [lF qI p1.1,lF qI p1.2.1,lI p1.2.2]),(4,.bx 333 [lP 0 0])],6⟩ ⟨zB y4w R,O.nc .B Z R R,O.faP ycN Z R R,O.lg (l':=(lx182 s.2.2.1)) ag182 Z R (.B R) R R R,zB y4w R,O.nc .B Z R R,O.faP ybh Z R R,O.lg (l':=[lF rB s.2.2.2.2.1,lF rB s.2.2.2.2.2]) ag259 Z R (.B R) R R R,O.ca (r':= .tp [.h 5,.i g.2]) [5] [(0,rwI g.1)] (some 6) (ybP Q) cf290 R R Z R R R R ⟨⟨_,R,I4⟩,trivial⟩ I3 R,zM R,O.ex Z R R R,O.ex Z R R R,O.faP yei Z R R,O.st nag26.sz Z R R R R R,O.as Z R R,trivial⟩ (by kernel_rfl) R ?_;refine .seqN (.sv R (.bi R (.ns ?_)));refine .cc hm R (fun hm=>?_) fun hm=>?_
     ·refine .sr (.lg [lF qI e.2,lN,lH 5,lI 0,lB false,lI 0,lB false] ag174 R (.B R) R (.mv R (.st ag174.sz R (.an R (.ret (.seqR (.cno 1 R (.c .rf (.c (.nf (r:=qI)) .rf)) R ?_)))))));cases hm;exact .rr [0,5] results261 (.cell R R ag174 R (.tmp R .nil)) R I3 ⟨⟨_,R,I4⟩,⟨_,R,I4⟩,trivial⟩
     ·refine .sn (.sv R (.op (O.mz (l:=[lP 4 0,lP 1 0]) Z R R) R (bS hm fun m S hm=>?_)));refine .op (O.fvZ (args:=(fun (x:(Int→Option Bool))=> [.o (lW prog (fun (x:Int)=> [.i x]) (fun (r:Bool)=> .b r) x)])) (res:=(fun (r:Int)=> .i r)) (y:=(yU (some s.2) (e.2,([]:LI),g.1,0,false,0,false))) R R R Z R ⟨⟨R,(.z (l':=[lQ 333 [lK rE261 261 (some s.2)] 0,lQ 174 [lF qI e.2,lF qI [],lF qI g.1,lI 0,lB false,lI 0,lB false] 0]) cf291 (fun x r h=>y9B h) (fun _=>R) R ⟨(.q R ⟨(.cv (.q R LnL.rf) (.pk (r:=rE261) (.p (.p (.p .l (.p .k (.p .l .l))) (.p (.p .l (.p .k (.p .l .l))) .l)) (.p (.p (.p .k (.p .k (.p .k (.p .l .l)))) (.p .l (.p .l .k))) (.p .k (.p .l .l)))))),trivial⟩),(.q R ⟨.rf,(.cv .rf (.nf (r:=qI))),.hr R,.rf,.rf,.rf,.rf,trivial⟩),trivial⟩),trivial⟩,trivial⟩ S (fun _ _ _ _ _ h=>h) R) R ?_;refine .fa yao R (.st nag3.sz R (.nr (.lb y4w R (.fa ycI R (.lb nag26 R (.fa yao R (.lb nag3 R (bS hm fun d T hm=> .cm (r':= .tp [.h 6,.b d.2.1]) [0,6] [(0,.bx 261 (lx261 d.2.2)),(1,rwI d.1)] (some 7) (yad T) cf293 R ⟨⟨_,R,I4⟩,⟨_,R,I4⟩,trivial⟩ R (.mv R (.ex R (.ex R (.fa yej R (.st nag26.sz R (.fa ybi R (.st nag4.sz R (.ns ?_))))))))))))))));refine .join1 (fun (w:BenT)=>y2c e g m d w=some r) (fun w=>⟨[(6,.q 1 0),(3,.q 4 0)],[(0,.bx 261 (lx261 w)),(1,.bx 174 [lF qI e.2,lH 2,lH 3,lI m,lB d.2.1,lI 0,lB false]),(2,rwI d.1),(3,rwI g.1),(4,.bx 333 [lP 0 0])],5⟩) ?_ ?_
      · intro w hm;refine .seq (.sr (.lb y4w R (.fa yej R (.lb nag26 R (.fz 2 [75] [1] R R fR R R (bS hm fun J U hm=> .cm (r':= .i J.1) [0] [(0,.bx 261 (lx261 J.2))] none (y5L U) cf289 R ⟨⟨_,R,I4⟩,trivial⟩ R (.an R (.sv R (.bi R (.ns ?_))))))))));refine .cc hm R (fun hm=>?_) fun hm=>?_
        ·refine .sr (.lg [lF qI e.2,lF qI d.1,lH 3,lI m,lB d.2.1,lI 0,lB false] ag174 R (.B R) R (.mv R (.st ag174.sz R (.an R (.ret (.seqR ?_))))));cases hm;exact .rr [0,3] results261 (.cell R R ag174 R (.tmp R .nil)) R I3 ⟨⟨_,R,I4⟩,⟨_,R,I4⟩,trivial⟩
        ·refine .sn ?_;refine .join1 (fun (j:BenT)=>y2b e g m d j=some r) (fun j=>⟨[(6,.q 1 0),(3,.q 3 0)],[(0,.bx 261 (lx261 j)),(1,.bx 174 [lF qI e.2,lF qI d.1,lH 2,lI m,lB d.2.1,lI 0,lB false]),(2,rwI g.1),(3,.bx 333 [lP 0 0])],4⟩) ?_ ?_
         · intro j hm;refine .seq (.seq ?_);refine .sub (τ:=⟨[(6,.q 1 0),(3,.q 3 0)],[(0,.bx 261 (lx261 j)),(1,.bx 174 [lF qI e.2,lF qI d.1,lH 2,lI m,lB d.2.1,lI 0,lB false]),(2,rwI g.1),(3,.bx 333 [lP 0 0])],4⟩) ?_ [] R;refine bS hm fun u V hm=>?_;refine .drd 4 [(4,[],[]),(4,[oT],[]),(4,[oT,oT],[]),(4,tT 3,[]),(4,[],[]),(4,[oF,oF,oF,oF,oT],[]),(4,[oF,oF,oF,oF,oT,oT],[]),(4,fA 4 (tT 3),[]),(4,tT 8,[]),(4,tT 9,[]),(4,tT 10,[]),(4,tT 10,[1]),(4,tT 11,[]),(4,tA 11 (fA 1 (tT 1)),[]),(4,tT 14,[])] [_,_,_,_,_,_,_,_,_,_,_,_,_,_,_] ⟨[(7,.i u.2),(6,.q 1 0),(3,.q 3 0)],[(0,.bx 261 (lx261 j)),(1,.bx 174 [lF qI e.2,lF qI d.1,lH 2,lI m,lB d.2.1,lI u.1,lB false]),(2,rwI g.1),(3,.bx 333 [lP 0 0])],4⟩ ⟨zB y4w R,O.nc .B Z R R,O.faP ycN Z R R,O.lg (l':=(lx182 j.2.1)) ag182 Z R (.B R) R R R,zB y4w R,O.nc .B Z R R,O.faP ybh Z R R,O.lg (l':=[lF rB j.2.2.2.1,lF rB j.2.2.2.2]) ag259 Z R (.B R) R R R,O.ca0 (ycu V) cf294 R R Z R R R,zM R,O.ex Z R R R,O.ex Z R R R,O.faP ygy Z R R,O.st nag3.sz Z R R R R R,O.as Z R R,trivial⟩ (by kernel_rfl) R ?_;refine .seqN (.sv R (.bi R (.ns ?_)));refine .cc hm R (fun hm=>?_) fun hm=>?_
           ·refine .sr (.lg [lF qI e.2,lF qI d.1,lH 2,lI m,lB d.2.1,lI u.1,lB false] ag174 R (.B R) R (.mv R (.st ag174.sz R (.an R (.ret (.seqR ?_))))));cases hm;exact .rr [0,2] results261 (.cell R R ag174 R (.tmp R .nil)) R I3 ⟨⟨_,R,I4⟩,⟨_,R,I4⟩,trivial⟩
           ·refine .sn (.seq ?_);refine .sub (τ:=⟨[(6,.q 1 0),(3,.q 3 0)],[(0,.bx 261 (lx261 j)),(1,.bx 174 [lF qI e.2,lF qI d.1,lH 2,lI m,lB d.2.1,lI u.1,lB false]),(2,rwI g.1),(3,.bx 333 [lP 0 0])],4⟩) ?_ [] R;refine bS hm fun H W hm=>?_;refine .drd 4 [(4,[],[]),(4,[oT],[]),(4,[oT,oT],[]),(4,tT 3,[]),(4,[],[]),(4,[oF,oF,oF,oF,oT],[]),(4,[oF,oF,oF,oF,oT,oT],[]),(4,fA 4 (tT 3),[]),(4,tT 8,[]),(4,tT 9,[]),(4,tT 10,[]),(4,tT 10,[1]),(4,tT 11,[]),(4,tA 11 (fA 1 (tT 1)),[]),(4,tT 14,[])] [_,_,_,_,_,_,_,_,_,_,_,_,_,_,_] ⟨[(7,.i H.2),(6,.q 1 0)],[(0,.bx 261 (lx261 j)),(1,.bx 174 [lF qI e.2,lF qI d.1,lH 2,lI m,lB d.2.1,lI u.1,lB H.1]),(2,rwI g.1)],4⟩ ⟨zB y4w R,O.nc .B Z R R,O.faP ycN Z R R,O.lg (l':=(lx182 j.2.1)) ag182 Z R (.B R) R R R,zB y4w R,O.nc .B Z R R,O.faP ybh Z R R,O.lg (l':=[lF rB j.2.2.2.1,lF rB j.2.2.2.2]) ag259 Z R (.B R) R R R,O.ca0 (ybQ W) cf295 R R Z R R R,zM R,O.ex Z R R R,O.ex Z R R R,O.faP ygz Z R R,O.st nag4.sz Z R R R R R,O.as Z R R,trivial⟩ (by kernel_rfl) R ?_;refine .seqN (.sr (.lg [lF qI e.2,lF qI d.1,lH 2,lI m,lB d.2.1,lI u.1,lB H.1] ag174 R (.B R) R (.mv R (.st ag174.sz R (.an R (.ret ?_))))));cases hm;exact .rr [0,2] results261 (.cell R R ag174 R (.tmp R .nil)) R I3 ⟨⟨_,R,I4⟩,⟨_,R,I4⟩,trivial⟩
         · intro F;refine .sr (.fa ybi R (.lb nag4 R (.ns ?_)));refine .cc hm R (fun hm=>?_) fun hm=> .skip ((F _ hm).sub [(2,3),(3,4)] R);refine .sr (.lb y4w R (.fa yao R (.lb nag3 R (.bf (r:=qI) ([m]:LI) bs26 R (.c .k .n) R (bS hm fun K X hm=> .cm (r':= .i K.1) [0] [(0,.bx 261 (lx261 K.2))] none (y5L X) cf289 R ⟨⟨_,R,I4⟩,trivial⟩ R (.an R (.sv R (.bi R (.ns ?_)))))))));refine .cc hm R (fun hm=>?_) fun hm=> .skip ((F _ hm).sub [(2,3),(3,4)] R);refine .sr (.lg [lF qI e.2,lF qI d.1,lH 3,lI m,lB d.2.1,lI 0,lB false] ag174 R (.B R) R (.mv R (.st ag174.sz R (.an R (.ret (.seqR ?_))))));cases hm;exact .rr [0,3] results261 (.cell R R ag174 R (.tmp R .nil)) R I3 ⟨⟨_,R,I4⟩,⟨_,R,I4⟩,trivial⟩
      · intro E;refine .sr (.fa ybi R (.lb nag4 R (.ns ?_)));exact .cc hm R (fun hm=> .reg (.lb y4w R (.fa yao R (.lb nag3 R (bS hm fun L Y hm=> .cm (r':= .b L.1) [0] [(0,.bx 261 (lx261 L.2))] none (y6L Y) cf263 R ⟨⟨_,R,I4⟩,trivial⟩ R (.nil ((E _ hm).sub [(2,6),(3,5)] R))))))) fun hm=> .skip ((E _ hm).sub [(2,6),(3,5)] R)
  refine .nlb qI 3 3 0 R R (.iter (fun (t:BenT×Int×LI)=>⟨[(13,.i t.2.1),(12,.i p1.1.length),(11,.f qI p1.1),(6,.q 1 0),(4,.q 3 0),(3,.q 4 0),(2,.o (lW prog (fun (x:(Int→Option Bool))=> [.o (lW prog (fun (x:Int)=> [.i x]) (fun (r:Bool)=> .b r) x)]) (fun (r:Int)=> .i r) p2))],[(0,.bx 261 (lx261 t.1)),(1,.bx 174 [lH 2,lN,lN,lI 0,lB false,lI 0,lB false]),(2,rwI t.2.2),(3,.bx 170 [lF qI p1.1,lF qI p1.2.1,lI p1.2.2]),(4,.bx 333 [lP 0 0])],5⟩) N [(1,3),(2,4),(3,2),(4,1)] R ?_);intro t I hm a4 a3;refine .sr (.bi R (.ns (.seq ?_)));refine .cc hm R (fun hm=>?_) fun hm=> .xx ((a5 _ (a3 _ (oj hm))).s0 R);refine .sn ?_;refine .join2 (fun (D:BenT) (v:LI)=>y2d t D v=some I) (fun D v=>⟨[(13,.i t.2.1),(12,.i p1.1.length),(11,.f qI p1.1),(6,.q 1 0),(4,.q 3 0),(3,.q 4 0),(2,.o (lW prog (fun (x:(Int→Option Bool))=> [.o (lW prog (fun (x:Int)=> [.i x]) (fun (r:Bool)=> .b r) x)]) (fun (r:Int)=> .i r) p2))],[(0,.bx 261 (lx261 D)),(1,.bx 174 [lH 2,lN,lN,lI 0,lB false,lI 0,lB false]),(2,rwI v),(3,.bx 170 [lF qI p1.1,lF qI p1.2.1,lI p1.2.2]),(4,.bx 333 [lP 0 0])],5⟩) ?_ ?_
  · intro D v hm;exact .reg (.bi R (.mv R (.nil ((a4 _ (oj hm)).s0 R))))
  · intro G;refine .block (.sr (bS hm fun a6 a1 hm=> .ix sl26 a1 R (.le nag3 lv3 R (.an R (.sr (.lb y4w R (.mv R (bS hm fun M a0 hm=> .cm (r':= .b M.1) [0] [(0,.bx 261 (lx261 M.2))] none (y6L a0) cf263 R ⟨⟨_,R,I4⟩,trivial⟩ R (.ns ?_)))))))));exact .cc hm R (fun hm=> .reg (.fa ycO R (.lb nag26 R (.mv R (.bf (r:=qI) ([a6]:LI) bs26 R (.c .k .n) R (bS hm fun a7 a2 hm=> .ap 5 underlying26 el3 R R (.fr R) a2 (.fa ycO R (.st nag26.sz R (.nil (.blkN ((G _ _ hm).sub [(2,5)] R))))))))))) fun hm=> .skip (.blkN ((G _ _ hm).s0 R))
def y6T(p1:List CycT)(p2:CycT→Option ((Int→Option Bool)→Option Int))(a:Int×(List StpT)×BenT):Option ((Int×(List StpT)×BenT)⊕((List StpT)⊕Int)):=
 if decide (a.1<(p1.length:Int)) then
  (idx p1 a.1).bind fun c=>
  (p2 c).bind fun d=>
  (y4D a.2.2 c d).bind fun b=>
  if(b.2.1 != 0) then
   some (.inr (.inr (b.2.1)))
  else
   (app a.2.1 ([b.1]:List StpT)).bind fun e=>
   some (.inl (W (a.1+1),e,b.2.2))
 else
  some (.inr (.inl a.2.1))
def y7E(p0:PbT)(p1:List CycT)(p2:CycT→Option ((Int→Option Bool)→Option Int)):Option ((List StpT)×Int):=
 (y7d p0).bind fun a=>
 if(a.2 != 0) then
  some (([]:List StpT),a.2)
 else
  a.1.bind fun e=>
  (iter (y6T p1 p2) (0,([]:List StpT),e)).bind fun b=>
  match b with
  | .inl c=>
   some (c,0)
  | .inr (d)=>
   some (([]:List StpT),d)
theorem ycv{p0:PbT}{p1:List CycT}{p2:CycT→Option ((Int→Option Bool)→Option Int)}{r:(List StpT)×Int}(hm:y7E p0 p1 p2=some r):
    F0 184 [.a (lx99 p0),.f rE170 p1,.o (lW prog (fun (x:CycT)=> [.a [lF qI x.1,lF qI x.2.1,lI x.2.2]]) (fun (r:(Int→Option Bool)→Option Int)=> .o (lW prog (fun (x:(Int→Option Bool))=> [.o (lW prog (fun (x:Int)=> [.i x]) (fun (r:Bool)=> .b r) x)]) (fun (r:Int)=> .i r) r)) p2)] [] (.tp [.h 0,.i r.2]) [ROW rE174 174 r.1]:=by
  refine Fw.mk2 func184 ntmps184 R (fun C=>?_) R;refine .sr (.bo 0 R (.sa R (.an R (.sr (.lg (lx99 p0) ag99 R (.B R) R (bS hm fun L J hm=> .cm (r':= .tp [.o (lH 1),.i L.2]) [1] [(0,OBX rE261 261 L.1)] (some 2) (ybK J) cf260 R ⟨⟨_,R,I4⟩,trivial⟩ R (.mv R (.ex R (.ex R (.sa R (.an R (.seq (.sv R (.bi R (.ns ?_)))))))))))))));refine .cc hm R (fun hm=>?_) fun hm=>?_
  ·refine .sv R (.sa R (.an R (.ret (.seqR (.nlg rE174 174 6 0 R R ?_)))));cases hm;exact .rr [2] results184 (.tmp R (.tmp R .nil)) R I3 ⟨⟨_,R,I4⟩,trivial⟩
  ·refine .sn (.sr (.an R (.seq (.sv R (.ln sl102 R (.mv R (.ns (.block (bS hm fun Q K hm=> .opn 1 R K lv261 R (.hp 8 R R (.hp 18 R R (bS hm fun t u hm=>?_))))))))))));refine .cutU (z:= .exit 0) (fun j=> .inl j=t) (fun (j:(List StpT))=>⟨[(10,.h 0)],[(0,ROW rE174 174 j)],1⟩) ?_ fun H=>?_
   · rintro j rfl;dsimp only at hm;refine .blkE (.seqN (.sv R (.sa R (.an R (.ret ?_)))));cases hm;exact .rr [0] results184 (.tmp R (.tmp R .nil)) R I3 ⟨⟨_,R,I4⟩,trivial⟩
   refine .cutU (z:= .ret) (fun m=> .inr (m)=t) (fun (m:Int)=>⟨[(7,.i m),(6,.o (lN))],[],0⟩) ?_ fun I=>?_
   · rintro m rfl;dsimp only at hm;refine .blkR (.seqR (.nlg rE174 174 6 0 R R ?_));cases hm;exact .rr [0] results184 (.tmp R (.tmp R .nil)) R I3 ⟨⟨_,R,I4⟩,trivial⟩
   refine .nlg rE174 174 10 0 R R (.iter (fun (g:Int×(List StpT)×BenT)=>⟨[(25,.i g.1),(24,.i p1.length),(23,.f rE170 p1),(10,.h 0),(8,.q 1 0),(2,.o (lW prog (fun (x:CycT)=> [.a [lF qI x.1,lF qI x.2.1,lI x.2.2]]) (fun (r:(Int→Option Bool)→Option Int)=> .o (lW prog (fun (x:(Int→Option Bool))=> [.o (lW prog (fun (x:Int)=> [.i x]) (fun (r:Bool)=> .b r) x)]) (fun (r:Int)=> .i r) r)) p2))],[(0,ROW rE174 174 g.2.1),(1,.bx 261 (lx261 g.2.2))],2⟩) u [(0,2)] R ?_);intro g M hm G s;refine .sr (.bi R (.ns (.seq ?_)));refine .cc hm R (fun hm=>?_) fun hm=> .xx ((H _ (s _ (oj hm))).s0 R);refine .sn (.seq (.block (.sr (bS hm fun e D hm=> .ix sl102 D R (.lg [lF qI e.1,lF qI e.2.1,lI e.2.2] ag170 R (.E lv170) R (.al 2 zz170 R (.st ag170.sz R (.ns (.seq ?_)))))))));refine .sub (τ:=⟨[(12,.q 2 0),(25,.i g.1),(24,.i p1.length),(23,.f rE170 p1),(10,.h 0),(8,.q 1 0),(2,.o (lW prog (fun (x:CycT)=> [.a [lF qI x.1,lF qI x.2.1,lI x.2.2]]) (fun (r:(Int→Option Bool)→Option Int)=> .o (lW prog (fun (x:(Int→Option Bool))=> [.o (lW prog (fun (x:Int)=> [.i x]) (fun (r:Bool)=> .b r) x)]) (fun (r:Int)=> .i r) r)) p2))],[(2,.bx 170 [lF qI e.1,lF qI e.2.1,lI e.2.2]),(0,ROW rE174 174 g.2.1),(1,.bx 261 (lx261 g.2.2))],3⟩) ?_ [] R;refine bS hm fun N v hm=>bS hm fun d w hm=>?_;refine .drz 5 [(9,4)] [(3,[],[],[]),(3,[],[],[]),(3,[],[],[]),(3,[],[],[]),(3,[oF,oF,oT,oT],[],[]),(3,tT 5,[],[]),(4,tT 6,[],[]),(4,tT 7,[],[]),(4,tT 7,[],[]),(3,[],[1],[]),(5,tA 8 (fA 1 (tT 1)),[],[]),(5,tT 11,[],[(9,4)])] [_,_,_,_,_,_,_,_,_,_,_,_] ⟨[(14,.i d.2.1),(13,.q 4 0),(25,.i g.1),(24,.i p1.length),(23,.f rE170 p1),(10,.h 0),(8,.q 1 0),(2,.o (lW prog (fun (x:CycT)=> [.a [lF qI x.1,lF qI x.2.1,lI x.2.2]]) (fun (r:(Int→Option Bool)→Option Int)=> .o (lW prog (fun (x:(Int→Option Bool))=> [.o (lW prog (fun (x:Int)=> [.i x]) (fun (r:Bool)=> .b r) x)]) (fun (r:Int)=> .i r) r)) p2))],[(4,.bx 174 [lF qI d.1.1,lF qI d.1.2.1,lH 3,lI d.1.2.2.2.1,lB d.1.2.2.2.2.1,lI d.1.2.2.2.2.2.1,lB d.1.2.2.2.2.2.2]),(3,rwI d.1.2.2.1),(0,ROW rE174 174 g.2.1),(1,.bx 261 (lx261 d.2.2))],5⟩ ⟨zM R,O.lg (l':=[lF qI e.1,lF qI e.2.1,lI e.2.2]) ag170 Z R (.B R) R R R,zM R,O.lg (l':=[lF qI e.1,lF qI e.2.1,lI e.2.2]) ag170 Z R (.B R) R R R,O.fv (y:=e) R R R Z R v R R,O.ca (r':= .tp [.a [lF qI d.1.1,lF qI d.1.2.1,lH 3,lI d.1.2.2.2.1,lB d.1.2.2.2.2.1,lI d.1.2.2.2.2.2.1,lB d.1.2.2.2.2.2.2],.i d.2.1]) [1,3] [(0,.bx 261 (lx261 d.2.2)),(1,rwI d.1.2.2.1)] (some 4) (ya3 w) cf261 R R Z R R R R ⟨⟨_,R,I4⟩,⟨_,R,I4⟩,trivial⟩ I3 R,zM R,O.ex Z R R R,O.ex Z R R R,O.al 4 R zz174 R Z R,O.st ag174.sz Z R R R R R,O.as Z R R,trivial⟩ (by kernel_rfl) R ?_;refine .seqN (.seq (.sv R (.bi R (.ns ?_))));exact .cc hm R (fun hm=> .sv R (.sa R (.an R (.ret (.seqR (.blkR (.seqR (.seqR ((I _ (s _ (oj hm))).s0 R))))))))) fun hm=> .sn (.reg (.mv R (.lg [lF qI d.1.1,lF qI d.1.2.1,lH 3,lI d.1.2.2.2.1,lB d.1.2.2.2.2.1,lI d.1.2.2.2.2.2.1,lB d.1.2.2.2.2.2.2] ag174 R (.B R) R (.fz 3 [42] [4] R R fR R R (.op (O.bsF (r:=rE174) (zs:=([d.1]:List StpT)) bs166 R R Z R R R (.c (.p .l (.p .l (.p .l (.p .k (.p .b (.p .k .b)))))) .n) R R R) R (bS hm fun P F hm=> .ap 5 underlying166 el174 R R (.fr R) F (.sa R (.nil (.blkN (.seqN (.reg (.bi R (.mv R (.nil ((G _ (oj hm)).sub [(0,5)] R)))))))))))))))
def y6x(a:CycT)(p0:Int→Option Bool):Option Int:=
 (if (a.2.2 != (-1)) then
  (p0 a.2.2).bind fun c=>
  some c
 else
  some false).bind fun b=>
 if b then
  some a.2.2
 else
  some (-1)
theorem yaY{a:CycT}{p0:Int→Option Bool}{r:Int}(hm:y6x a p0=some r):
    F0 186 [.o (lW prog (fun (x:Int)=> [.i x]) (fun (r:Bool)=> .b r) p0),.o (lQ 170 [lF qI a.1,lF qI a.2.1,lI a.2.2] 0)] [] (.i r) []:=by
  refine Fw.mk2 func186 ntmps186 R (fun C=>?_) R;refine .sr (.an R (.seq (.sr (.fq y8H R (.lq nag3 R (.bi R (.mv R (bS hm fun g eb1 hm=>?_))))))));refine .cut 5 (fun (c:Bool)=>g=c) (fun c=>⟨[(12,.b c),(1,.o (lQ 170 [lF qI a.1,lF qI a.2.1,lI a.2.2] 0))],[],0⟩) ?_ ?_
  · rintro _ rfl;refine .ns ?_;refine .cc hm R (fun hm=>?_) fun hm=>?_
    ·refine .sr (.fq y8H R (.lq nag3 R (.an R (.ret (.seqR ?_)))));cases hm;exact .r0 results186 (.tmp R .nil) R R
    ·refine .sn (.sr (.an R (.ret ?_)));cases hm;exact .r0 results186 (.tmp R .nil) R R
  · intro e;rcases ifS eb1 with ⟨hc,hm⟩|⟨hc,hm⟩
    · refine .know (d:=7) R hc ?_;refine .mg R (.op (O.faQ y8H (Gu.mk R R) R R) R (.op (O.ld nag3 (Gu.mk R R) R .Q R R) R (bS hm fun h f hm=>?_)));refine .op (O.fv (y:=a.2.2) R R R (Gu.mk R R) R f R R) R ?_;exact .pT R ((e h (oj hm)).s0 R)
    · refine .know (d:=7) R hc ?_;exact .s2 R R (.s2 R R (.pF R ((e false (oj hm)).s0 R)))
def y8d(p0:CycT):Option ((Int→Option Bool)→Option Int):=
 some (y6x p0)
theorem ybR{p0:CycT}{r:((Int→Option Bool)→Option Int)}(hm:y8d p0=some r):
  F0 185 [.a [lF qI p0.1,lF qI p0.2.1,lI p0.2.2]] [] (.o (lW prog (fun (x:(Int→Option Bool))=> [.o (lW prog (fun (x:Int)=> [.i x]) (fun (r:Bool)=> .b r) x)]) (fun (r:Int)=> .i r) r)) []:=by
 refine Fw.mk2 func185 ntmps185 R (fun C=>?_) R;refine .sr (.bo 0 R (.an R (.sr (.fz 0 [1] [] R R fB R R (.op (O.mf (args:=(fun (x:(Int→Option Bool))=> [.o (lW prog (fun (x:Int)=> [.i x]) (fun (r:Bool)=> .b r) x)])) (res:=(fun (r:Int)=> .i r)) (m:=(y6x p0)) cf186 (fun x r h=>yaY h) (fun _=>R) R Z R R) R (.an R (.ret ?_)))))));cases hm;exact .r0 results185 (.tmp R .nil) R R
def y5r(p0:PbT)(p1:List CycT):Option ((List StpT)×Int):=
 (y4B p0 p1).bind fun a=>
 if(a != 0) then
  some (([]:List StpT),a)
 else
  (y7E p0 p1 y8d).bind fun b=>
  some b
theorem y8e{p0:PbT}{p1:List CycT}{r:(List StpT)×Int}(hm:y5r p0 p1=some r):
    F0 115 [.a (lx99 p0),.f rE170 p1] [] (.tp [.h 0,.i r.2]) [ROW rE174 174 r.1]:=by
  refine Fw.mk2 func115 ntmps115 R (fun C=>?_) R;refine .sr (.bo 0 R (.sa R (.an R (.seq (.sr (.lg (lx99 p0) ag99 R (.B R) R (.mv R (bS hm fun g b hm=> .c0 (ya2 b) cf183 R (.an R (.sv R (.bi R (.ns ?_))))))))))));refine .cc hm R (fun hm=>?_) fun hm=>?_
  ·refine .sv R (.sa R (.an R (.ret (.seqR (.nlg rE174 174 4 0 R R ?_)))));cases hm;exact .rr [1] results115 (.tmp R (.tmp R .nil)) R I3 ⟨⟨_,R,I4⟩,trivial⟩
  ·refine .sn (.sr (.lg (lx99 p0) ag99 R (.B R) R (.mv R (bS hm fun e d hm=> .op (O.cac (r':= .tp [.h 1,.i e.2]) [1] [(0,ROW rE174 174 e.1)] (some 2) (ycv d) cf184 R R Z R R ⟨⟨R,.rf⟩,⟨R,.rf⟩,⟨R,(.c (.fn cf185 (fun x r h=>ybR h) (fun _=>R)) .n)⟩,trivial⟩ R ⟨⟨_,R,I4⟩,trivial⟩ I3 R) R (.ex R (.ex R (.sa R (.an R (.ret ?_)))))))));cases hm;exact .rr [1] results115 (.tmp R (.tmp R .nil)) R I3 ⟨⟨_,R,I4⟩,trivial⟩
def y3L(p0:List LI)(a:Int×LI):Option ((Int×LI)⊕LI):=
 if decide (a.1<(p0.length:Int)) then
  (idx p0 a.1).bind fun b=>
  (app a.2 b).bind fun c=>
  some (.inl (W (a.1+1),c))
 else
  some (.inr a.2)
def y5z(b:Int×Int)(a:Int):Option ((Int×Int)⊕Int):=
 some (.inl (W (b.1+1),a))
def y3M(p0:List LI)(a:Int×Int):Option ((Int×Int)⊕Int):=
 if decide (a.1<(p0.length:Int)) then
  (idx p0 a.1).bind fun b=>
  if decide ((W (a.2+(b.length:Int)))<0) then
   none
  else
   y5z a (W (a.2+(b.length:Int)))
 else
  some (.inr a.2)
def y6U(p0:List LI):Option LI:=
 (iter (y3M p0) (0,0)).bind fun c=>
 (y6r ([]:LI) c).bind fun b=>
 (iter (y3L p0) (0,b)).bind fun a=>
 some a
theorem ybs{p0:List LI}{r:LI}(hm:y6U p0=some r):
  F0 262 [.f (rL qI) p0] [] (.h 0) [rwI r]:=by
 refine Fw.mk2 func262 ntmps262 R (fun C=>?_) R;refine .sr (.an R (.sr (.an R (.seq (.sv R (.ln sl74 R (.mv R (.ns (.block (bS hm fun p u hm=>?_))))))))));refine .cut1 (z:= .exit 0) p (fun (p:Int)=>⟨[(3,.i p),(0,.f (rL qI) p0)],[],0⟩) ?_ fun s=>?_
 ·skip
  refine .blkE (.seqN (.sv R (bS hm fun x j hm=> .cm (r':= .h 0) [0] [(0,rwI x)] (some 1) (ycd j) cf296 R ⟨⟨_,R,I4⟩,trivial⟩ R (.an R (.seq (.sv R (.ln sl74 R (.mv R (.ns (.block (bS hm fun d g hm=>?_)))))))))));refine .cut1 (z:= .exit 2) d (fun (d:LI)=>⟨[(6,.h 0)],[(0,rwI d)],1⟩) ?_ fun t=>?_
  ·skip
   refine .blkE (.seqN (.sv R (.an R (.ret ?_))));cases hm;exact .rr [0] results262 (.tmp R .nil) R I3 ⟨⟨_,R,I4⟩,trivial⟩
  refine .iter (fun (b:Int×LI)=>⟨[(27,.i b.1),(26,.i p0.length),(25,.f (rL qI) p0),(6,.h 0)],[(0,rwI b.2)],1⟩) g [] R ?_;intro b y hm o n;refine .sr (.bi R (.ns (.seq ?_)));exact .cc hm R (fun hm=> .sn (.seq (.block (.sr (bS hm fun B k hm=> .ix sl74 k R (.le nag26 lv26 R (.an R (.reg (.mv R (.mv R (bS hm fun D l hm=> .ap 1 underlying26 el3 R R (.fr R) l (.sa R (.nil (.blkN (.seqN (.reg (.bi R (.mv R (.nil ((o _ (oj hm)).sub [(0,1)] R)))))))))))))))))))) fun hm=> .xx ((t _ (n _ (oj hm))).s0 R)
 refine .iter (fun (a:Int×Int)=>⟨[(11,.i a.1),(10,.i p0.length),(9,.f (rL qI) p0),(3,.i a.2),(0,.f (rL qI) p0)],[],0⟩) u [] R ?_;intro a q hm w v;refine .sr (.bi R (.ns (.seq ?_)));refine .cc hm R (fun hm=>?_) fun hm=> .xx ((s _ (v _ (oj hm))).s0 R);refine .sn ?_;refine .join1 (fun (c:Int)=>y5z a c=some q) (fun c=>⟨[(3,.i c),(11,.i a.1),(10,.i p0.length),(9,.f (rL qI) p0),(0,.f (rL qI) p0)],[],0⟩) ?_ ?_
 ·intro c hm;exact .reg (.bi R (.mv R (.nil ((w _ (oj hm)).s0 R))))
 ·intro e;refine .block (.sr (bS hm fun E m hm=> .ix sl74 m R (.le nag26 lv26 R (.an R (.sv R (.mv R (.ln sl26 R (.bi R (.an R (.sv R (.bi R (.ns ?_))))))))))));refine .cc hm R (fun hm=>?_) fun hm=> .skip (.blkN ((e _ hm).s0 R));refine .reg ?_;cases hm
def y6y(a:LI):Option LI:=
 some a
def y3N(p0:StpT):Option LI:=
 (y6U ([p0.1,p0.2.1]:List LI)).bind fun a=>
 if p0.2.2.2.2.1 then
  (app a ([p0.2.2.2.1]:LI)).bind fun b=>
  y6y b
 else
  y6y a
theorem y8f{p0:StpT}{r:LI}(hm:y3N p0=some r):
  F0 188 [.a (lx174 p0)] [] (.h 0) [rwI r]:=by
 refine Fw.mk2 func188 ntmps188 R (fun C=>?_) R;refine .sr (.bo 0 R (.an R (.sr (.fa ycO R (.lb nag26 R (.fa yej R (.lb nag26 R (.op (O.bsF (r:=(rL qI)) (zs:=([p0.1,p0.2.1]:List LI)) bs74 R R Z R R R (.c .l (.c .l .n)) R R R) R (bS hm fun g e hm=> .cm (r':= .h 1) [1] [(0,rwI g)] (some 2) (ybs e) cf262 R ⟨⟨_,R,I4⟩,trivial⟩ R (.an R ?_))))))))));refine .join1 (fun (b:LI)=>y6y b=some r) (fun b=>⟨[(3,.h 0)],[(0,rwI b)],1⟩) ?_ ?_
 ·intro b hm;refine .sv R (.an R (.ret ?_));cases hm;exact .rr [0] results188 (.tmp R .nil) R I3 ⟨⟨_,R,I4⟩,trivial⟩
 ·intro d;refine .sr (.fa ybi R (.lb nag4 R (.ns ?_)));exact .cc hm R (fun hm=> .reg (.mv R (.fa yao R (.lb nag3 R (.bf (r:=qI) ([p0.2.2.2.1]:LI) bs26 R (.c .k .n) R (bS hm fun i f hm=> .ap 2 underlying26 el3 R R (.fr R) f (.sa R (.nil ((d _ hm).sub [(0,2)] R))))))))) fun hm=> .skip ((d _ hm).sub [(0,1)] R)
def y4E(p0:List StpT)(a:Int×LI):Option ((Int×LI)⊕LI):=
 if decide (a.1<(p0.length:Int)) then
  (idx p0 a.1).bind fun c=>
  (y3N c).bind fun b=>
  (app a.2 b).bind fun d=>
  some (.inl (W (a.1+1),d))
 else
  some (.inr a.2)
def y6s(p0:List StpT):Option LI:=
 (iter (y4E p0) (0,([]:LI))).bind fun a=>
 some a
theorem y9n{p0:List StpT}{r:LI}(hm:y6s p0=some r):
  F0 119 [.f rE174 p0] [] (.h 0) [rwI r]:=by
 refine Fw.mk2 func119 ntmps119 R (fun C=>?_) R;refine .sr (.an R (.sr (.an R (.seq (.sv R (.ln sl166 R (.mv R (.ns (.block (bS hm fun g k hm=>?_))))))))));refine .cut1 (z:= .exit 0) g (fun (g:LI)=>⟨[(3,.h 0)],[(0,rwI g)],1⟩) ?_ fun j=>?_
 ·skip
  refine .blkE (.seqN (.sv R (.an R (.ret ?_))));cases hm;exact .rr [0] results119 (.tmp R .nil) R I3 ⟨⟨_,R,I4⟩,trivial⟩
 refine .nlg qI 3 3 0 R R (.iter (fun (a:Int×LI)=>⟨[(8,.i a.1),(7,.i p0.length),(6,.f rE174 p0),(3,.h 0)],[(0,rwI a.2)],1⟩) k [] R ?_);intro a o hm m l;refine .sr (.bi R (.ns (.seq ?_)));exact .cc hm R (fun hm=> .sn (.seq (.block (.sr (bS hm fun b d hm=> .ix sl166 d R (.lg (lx174 b) ag174 R (.E lv174) R (.al 1 zz174 R (.st ag174.sz R (.ns (.reg (.mv R (.lg (lx174 b) ag174 R (.B R) R (bS hm fun n c hm=> .cm (r':= .h 2) [2] [(0,rwI n)] (some 3) (y8f c) cf188 R ⟨⟨_,R,I4⟩,trivial⟩ R (bS hm fun p e hm=> .ap 3 underlying26 el3 R R (.ow R R) e (.sa R (.nil (.blkN (.seqN (.reg (.bi R (.mv R (.nil ((m _ (oj hm)).sub [(0,3)] R))))))))))))))))))))))) fun hm=> .xx ((j _ (l _ (oj hm))).s0 R)
def y4r(a:PbT)(p0:Int):Option Bool:=
 (yf a.1.1 p0).bind fun b=>
 some (!b)
theorem y9R{c:PbT}{p0:Int}{r:Bool}(hm:y4r c p0=some r):
  F0 187 [.i p0,.o (lQ 99 (lx99 c) 0)] [] (.b r) []:=by
 refine Fw.mk2 func187 ntmps187 R (fun C=>?_) R;refine .sr (.an R (.sr (.fq y6I R (.fq yI R (.lq nag26 R (.mv R (bS hm fun d a hm=> .c0 (yi a) cf41 R (.no R (.an R (.ret ?_))))))))));cases hm;exact .r0 results187 (.tmp R .nil) R R
def y2J(p0:LI)(p1:Int→Option Bool)(a:Int):Option (Int⊕(Unit⊕Int)):=
 if decide (a<(p0.length:Int)) then
  (idx p0 a).bind fun c=>
  (p1 c).bind fun b=>
  if b then
   some (.inr (.inr (a)))
  else
   some (.inl (W (a+1)))
 else
  some (.inr (.inl ()))
def y2z(p0:LI)(p1:Int→Option Bool):Option Int:=
 (iter (y2J p0 p1) 0).bind fun a=>
 match a with
 | .inl c=>
  some (-1)
 | .inr (b)=>
  some b
theorem y8g{p0:LI}{p1:Int→Option Bool}{r:Int}(hm:y2z p0 p1=some r):
  F0 109 [.f qI p0,.o (lW prog (fun (x:Int)=> [.i x]) (fun (r:Bool)=> .b r) p1)] [] (.i r) []:=by
 refine Fw.mk2 func109 ntmps109 R (fun C=>?_) R;refine .sr (.an R (.seq (.sv R (.ln sl26 R (.mv R (.ns (.block (bS hm fun m k hm=>?_))))))));refine .cutU (z:= .exit 0) (fun h=> .inl h=m) (fun (h:Unit)=>⟨[],[],0⟩) ?_ fun K8=>?_
 ·rintro h rfl;dsimp only at hm;refine .blkE (.seqN (.sr (.an R (.ret ?_))));cases hm;exact .r0 results109 (.tmp R .nil) R R
 refine .cutU (z:= .ret) (fun a=> .inr (a)=m) (fun (a:Int)=>⟨[(4,.i a)],[],0⟩) ?_ fun j=>?_
 ·rintro a rfl;dsimp only at hm;refine .blkR (.seqR ?_);cases hm;exact .r0 results109 (.tmp R .nil) R R
 refine .iter (fun (d:Int)=>⟨[(8,.i d),(7,.i p0.length),(0,.f qI p0),(1,.o (lW prog (fun (x:Int)=> [.i x]) (fun (r:Bool)=> .b r) p1))],[],0⟩) k [] R ?_;intro d p hm l c;refine .sr (.bi R (.ns (.seq ?_)));refine .cc hm R (fun hm=>?_) fun hm=> .xx ((K8 _ (c _ (oj hm))).s0 R);refine .sn (.seq (.block (.sv R (.an R (.sv R (.mv R (.mv R (bS hm fun n g hm=> .ix sl26 g R (.le nag3 lv3 R (bS hm fun q e hm=>?_))))))))));refine .op (O.fv (y:=n) R R R Z R e R R) R ?_;exact .ns (.cc hm R (fun hm=> .sv R (.an R (.ret (.blkR (.seqR (.seqR ((j _ (c _ (oj hm))).s0 R))))))) fun hm=> .skip (.blkN (.seqN (.reg (.bi R (.mv R (.nil ((l _ (oj hm)).s0 R))))))))
def y4s(p0:LI)(p1:Int→Option Bool):Option Bool:=
 (y2z p0 p1).bind fun a=>
 some (decide (a≥0))
theorem y9S{p0:LI}{p1:Int→Option Bool}{r:Bool}(hm:y4s p0 p1=some r):
  F0 39 [.f qI p0,.o (lW prog (fun (x:Int)=> [.i x]) (fun (r:Bool)=> .b r) p1)] [] (.b r) []:=by
 refine Fw.mk2 func39 ntmps39 R (fun C=>?_) R;refine .sr (.an R (.sv R (.mv R (bS hm fun c a hm=> .c0 (y8g a) cf109 R (.bi R (.an R (.ret ?_)))))));cases hm;exact .r0 results39 (.tmp R .nil) R R
def y1E(a:Bool):Option Bool:=
 some a
def y3X(a:Option (BenT×Int×Bool))(b:Int)(p0:Int×Int×Int):Option Bool:=
 a.bind fun c=>
 if(p0.1==c.2.1) then
  y1E (p0.2.1==b)
 else
  y1E false
theorem y9C{j:Option (BenT×Int×Bool)}{f:Int}{p0:Int×Int×Int}{r:Bool}(hm:y3X j f p0=some r):
  F0 264 [.a [lI p0.1,lI p0.2.1,lI p0.2.2],.o (lQ 339 [lK rE263 263 j] 0),.o (lQ 3 [lI f] 0)] [] (.b r) []:=by
 refine Fw.mk2 func264 ntmps264 R (fun C=>?_) R;refine .sr (.bo 0 R (.an R ?_));refine .join1 (fun (e:Bool)=>y1E e=some r) (fun e=>⟨[(4,.b e)],[],0⟩) ?_ ?_
 ·intro e hm;refine .ret ?_;cases hm;exact .r0 results264 (.tmp R .nil) R R
 ·intro g;refine bS hm fun k i hm=> .cnt 1 R (.c (.q (.c (.pd i lv263) .n)) .n) R ?_;refine .sub (τ:=⟨[(3,.q 0 0),(1,.o (lQ 339 [lQ 263 (lx263 k) 0] 0)),(2,.o (lQ 3 [lI f] 0))],[(0,.bx 112 [lI p0.1,lI p0.2.1,lI p0.2.2])],1⟩) ?_ [] R;refine .drP 7 [(1,[]),(1,[oT]),(1,[]),(1,[oF,oF,oT]),(1,[oF,oF,oT,oT]),(1,fA 2 (tT 3)),(1,tT 6)] [_,_,_,_,_,_,_] ⟨O.faP y1A Z R R,zB nag3 R,O.ld y7L Z R .Q R R,O.nc .Q Z R R,O.faQ yek Z R R,O.ld nag3 Z R .Q R R,O.bi Z R R R R,trivial⟩ fun h=>?_;rcases ifS hm with ⟨d,hm⟩|⟨d,hm⟩
  ·skip
   exact .drF h [(1,tT 7),(1,tT 8),(1,tT 9),(1,tT 8),(1,tT 11),(1,tT 12),(1,tT 13)] [_,_,_,_,_,_,_] ⟨[(4,.b (p0.2.1==f))],[],1⟩ ⟨O.kn (zM R) d,O.faP y3F (Gu.mk R R) R R,O.ld nag3 (Gu.mk R R) R (.B R) R R,O.ld nag3 (Gu.mk R R) R .Q R R,O.bi (Gu.mk R R) R R R R,O.pkT Z R R R R,O.as Z R R,trivial⟩ (by kernel_rfl) R ((g _ hm).s0 R)
  ·skip
   exact .drF h [(1,tT 7),(1,tT 8),(1,tT 9),(1,tT 8),(1,tT 11),(1,tT 12),(1,tT 13)] [_,_,_,_,_,_,_] ⟨[(4,.b false)],[],1⟩ ⟨O.kn (zM R) d,zK R,zK R,zK R,zK R,O.pkF Z R R R R,O.as Z R R,trivial⟩ (by kernel_rfl) R ((g _ hm).s0 R)
def y1t(a:Bool):Option Bool:=
 some a
def y1R(a:Option (BenT×Int×Bool))(b:Int)(p0:Int×Int×Int):Option Bool:=
 a.bind fun c=>
 if(p0.1==c.1.2.2.1) then
  y1t (p0.2.1==b)
 else
  y1t false
theorem y9a{j:Option (BenT×Int×Bool)}{f:Int}{p0:Int×Int×Int}{r:Bool}(hm:y1R j f p0=some r):
  F0 316 [.a [lI p0.1,lI p0.2.1,lI p0.2.2],.o (lQ 333 [lK rE263 263 j] 0),.o (lQ 3 [lI f] 0)] [] (.b r) []:=by
 refine Fw.mk2 func316 ntmps316 R (fun C=>?_) R;refine .sr (.bo 0 R (.an R ?_));refine .join1 (fun (e:Bool)=>y1t e=some r) (fun e=>⟨[(4,.b e)],[],0⟩) ?_ ?_
 ·intro e hm;refine .ret ?_;cases hm;exact .r0 results316 (.tmp R .nil) R R
 ·intro g;refine bS hm fun k i hm=> .cnt 1 R (.c (.q (.c (.pd i lv263) .n)) .n) R ?_;refine .sub (τ:=⟨[(3,.q 0 0),(1,.o (lQ 333 [lQ 263 (lx263 k) 0] 0)),(2,.o (lQ 3 [lI f] 0))],[(0,.bx 112 [lI p0.1,lI p0.2.1,lI p0.2.2])],1⟩) ?_ [] R;refine .drP 7 [(1,[]),(1,[oT]),(1,[]),(1,[oF,oF,oT]),(1,[oF,oF,oT,oT]),(1,fA 2 (tT 3)),(1,tT 6)] [_,_,_,_,_,_,_] ⟨O.faP y1A Z R R,zB nag3 R,O.ld y4w Z R .Q R R,O.nc .Q Z R R,O.faQ ycL Z R R,O.ld nag3 Z R .Q R R,O.bi Z R R R R,trivial⟩ fun h=>?_;rcases ifS hm with ⟨d,hm⟩|⟨d,hm⟩
  ·skip
   exact .drF h [(1,tT 7),(1,tT 8),(1,tT 9),(1,tT 8),(1,tT 11),(1,tT 12),(1,tT 13)] [_,_,_,_,_,_,_] ⟨[(4,.b (p0.2.1==f))],[],1⟩ ⟨O.kn (zM R) d,O.faP y3F (Gu.mk R R) R R,O.ld nag3 (Gu.mk R R) R (.B R) R R,O.ld nag3 (Gu.mk R R) R .Q R R,O.bi (Gu.mk R R) R R R R,O.pkT Z R R R R,O.as Z R R,trivial⟩ (by kernel_rfl) R ((g _ hm).s0 R)
  ·skip
   exact .drF h [(1,tT 7),(1,tT 8),(1,tT 9),(1,tT 8),(1,tT 11),(1,tT 12),(1,tT 13)] [_,_,_,_,_,_,_] ⟨[(4,.b false)],[],1⟩ ⟨O.kn (zM R) d,zK R,zK R,zK R,zK R,O.pkF Z R R R R,O.as Z R R,trivial⟩ (by kernel_rfl) R ((g _ hm).s0 R)
def y3Y(p0:BenT×Int×Bool)(p1:Int):Option Int:=
 (yE p0.1.1.1.2.2.2 (y1R (some p0) p1)).bind fun a=>
 if decide (a<0) then
  some (-1)
 else
  (some p0).bind fun b=>
  (idx b.1.1.1.2.2.2 a).bind fun c=>
  some c.2.2
theorem y9D{p0:BenT×Int×Bool}{p1:Int}{r:Int}(hm:y3Y p0 p1=some r):
    F0 297 [.o (lQ 263 (lx263 p0) 0),.i p1] [] (.i r) []:=by
  refine Fw.mk2 func297 ntmps297 R (fun C=>?_) R;refine .sr (.bo 0 R (.bo 1 R (.an R (.sr (.lb y4w R (.op (O.nc .Q Z R R) R (.fq y8l R (.fq y6I R (.fq yF R (.lq nag27 R (.fz 0 [2] [] R R fB R R (.fz 1 [3] [] R R fB R R (.cnt 2 R (.c (.q (.c (.pk (r:=rE263) (.p (.p (.p (.p .l (.p .k (.p .l .l))) (.p (.p .l (.p .k (.p .l .l))) .l)) (.p (.p (.p .k (.p .k (.p .k (.p .l .l)))) (.p .l (.p .l .k))) (.p .k (.p .l .l)))) (.p .k .b))) .n)) .n) R (.op (O.mf (args:=(fun (x:(Int×Int×Int))=> [.a [lI x.1,lI x.2.1,lI x.2.2]])) (res:=(fun (r:Bool)=> .b r)) (m:=(y1R (some p0) p1)) cf316 (fun x r h=>y9a h) (fun _=>R) R Z R R) R (bS hm fun g d hm=> .c0 (y4q d) cf203 R (.an R (.seq (.sv R (.bi R (.ns ?_))))))))))))))))))));refine .cc hm R (fun hm=>?_) fun hm=>?_
  ·refine .sr (.an R (.ret (.seqR ?_)));cases hm;exact .r0 results297 (.tmp R .nil) R R
  ·refine .sn (.sr (.lq y4w R (bS hm fun j e hm=> .cnt 16 R (.c (.pd e lv263) .n) R (.op (O.nc .Q Z R R) R (.fq y8l R (.fq y6I R (.fq yF R (.lq nag27 R (.mv R (bS hm fun s f hm=> .ix sl27 f R (.fe y3l R (.le nag3 lv112 R (.an R (.ret ?_))))))))))))));cases hm;exact .r0 results297 (.tmp R .nil) R R
def y2f(p0:BenT×Int×Bool)(b:Int)(a:Int):Option (Bool×(BenT×Int×Bool)):=
 some (decide (b≥0),(p0.1.1,p0.1.2.1,a,p0.1.2.2.2),p0.2)
def y6M(p0:BenT×Int×Bool)(p1:Int):Option (Bool×(BenT×Int×Bool)):=
 (y3Y p0 p1).bind fun a=>
 if decide (a≥0) then
  y2f p0 a a
 else
  y2f p0 a p0.1.2.2.1
theorem ya4{p0:BenT×Int×Bool}{p1:Int}{r:Bool×(BenT×Int×Bool)}(hm:y6M p0 p1=some r):
  Fw prog 263 ⟨1,[0]⟩ [.o (lP 0 0),.i p1] [.bx 263 (lx263 p0)] (.b r.1) [.bx 263 (lx263 r.2)]:=by
 refine Fw.mk2 func263 ntmps263 R (fun C=>?_) R;refine .sr (.an R (.sv R (.mv R (bS hm fun e d hm=> .op (O.caZ (y9D d) cf297 R R Z R ⟨⟨R,(.q R LnL.rf),trivial⟩,⟨R,LnL.rf⟩,trivial⟩ (fun _ _ _ _ _ h=>h) R) R (.an R ?_)))));refine .join1 (fun (a:Int)=>y2f p0 e a=some r) (fun a=>⟨[(5,.i e)],[(0,.bx 263 [lF qI p0.1.1.1.1,lI p0.1.1.1.2.1,lF qI p0.1.1.1.2.2.1,lF qT p0.1.1.1.2.2.2,lF qI p0.1.1.2.1.1,lI p0.1.1.2.1.2.1,lF qI p0.1.1.2.1.2.2.1,lF qT p0.1.1.2.1.2.2.2,lF qI p0.1.1.2.2,lI p0.1.2.1.1.1,lI p0.1.2.1.1.2.1,lI p0.1.2.1.1.2.2.1,lF rB p0.1.2.1.1.2.2.2.1,lF rE344 p0.1.2.1.1.2.2.2.2,lF qI p0.1.2.1.2.1,lF qI p0.1.2.1.2.2.1,lI p0.1.2.1.2.2.2,lI a,lF rB p0.1.2.2.2.1,lF rB p0.1.2.2.2.2,lI p0.2.1,lB p0.2.2])],1⟩) ?_ ?_
 ·intro a hm;refine .sv R (.bi R (.an R (.ret ?_)));cases hm;exact .rr [0] results263 (.tmp R .nil) R I3 ⟨⟨_,R,I4⟩,trivial⟩
 ·intro c;refine .sv R (.bi R (.ns ?_));exact .cc hm R (fun hm=> .reg (.mv R (.mv R (.op (O.nc .B Z R R) R (.fa ycL R (.st nag3.sz R (.nil ((c _ hm).s0 R)))))))) fun hm=> .skip ((c _ hm).s0 R)
theorem cf264 :CF 264:=cM func264 (by kernel_rfl)
theorem ycP :FAb 263 0 0:=fAm 0 0 20 underlying263 R (by kernel_rfl)
theorem y9E :FAb 263 2 21:=fAm 2 21 1 underlying263 R (by kernel_rfl)
def y3z(p1:Int)(a:BenT×Int×Bool)(c:Bool):Option (BenT×Int×Bool):=
 if c then
  some a
 else
  (yE a.1.1.2.1.2.2.2 (y3X (some a) p1)).bind fun b=>
  if decide (b<0) then
   some (a.1,a.2.1,true)
  else
   (idx a.1.1.2.1.2.2.2 b).bind fun d=>
   some (a.1,d.2.2,a.2.2)
def y2g(p1:Int)(a:BenT×Int×Bool):Option (BenT×Int×Bool):=
 if a.2.2 then
  y3z p1 a true
 else
  (yf a.1.1.2.1.1 p1).bind fun b=>
  y3z p1 a (!b)
def y4F(p0:BenT×Int×Bool)(p1:Int):Option (BenT×Int×Bool):=
 if p0.2.2 then
  y2g p1 (p0.1,p0.2.1,true)
 else
  (y6M p0 p1).bind fun a=>
  y2g p1 (a.2.1,a.2.2.1,(!a.1))
theorem ya5{p0:BenT×Int×Bool}{p1:Int}{r:(BenT×Int×Bool)}(hm:y4F p0 p1=some r):
    Fw prog 189 ⟨1,[0]⟩ [.o (lP 0 0),.i p1] [.bx 263 (lx263 p0)] (.tp []) [.bx 263 (lx263 r)]:=by
  refine Fw.mk2 func189 ntmps189 R (fun C=>?_) R;refine .sr (.bo 1 R (.bo 2 R (.ns ?_)));refine .join1 (fun (c:BenT×Int×Bool)=>y2g p1 c=some r) (fun c=>⟨[(3,.q 1 0),(2,.q 2 0)],[(0,.bx 263 (lx263 c)),(1,.bx 3 [lI p1]),(2,.bx 339 [lP 0 0])],3⟩) ?_ ?_
  · intro c hm;refine .seq ?_;refine .join1 (fun (f:Bool)=>y3z p1 c f=some r) (fun f=>⟨[(35,.b f),(3,.q 1 0),(2,.q 2 0)],[(0,.bx 263 (lx263 c)),(1,.bx 3 [lI p1]),(2,.bx 339 [lP 0 0])],3⟩) ?_ ?_
    · intro f hm;refine .cc hm R (fun hm=>?_) fun hm=>?_
      ·refine .ret (.seqR ?_);cases hm;exact .rr [0] results189 .nil R I3 ⟨⟨_,R,I4⟩,trivial⟩
      ·refine .sn (.sr (.lb y7L R (.op (O.nc .B Z R R) R (.fa ycP R (.fa y8l R (.fa y6p R (.fa yF R (.lb nag27 R (.op (O.mz (l:=[lP 2 0,lP 1 0]) Z R R) R (bS hm fun w t hm=> .op (O.caZ (y4q t) cf203 R R Z R ⟨⟨R,LnL.rf⟩,⟨R,(.z (l':=[lQ 339 [lK rE263 263 (some c)] 0,lQ 3 [lI p1] 0]) cf264 (fun x r h=>y9C h) (fun _=>R) R ⟨(.q R ⟨(.cv (.q R LnL.rf) (.pk (r:=rE263) (.p (.p (.p (.p .l (.p .k (.p .l .l))) (.p (.p .l (.p .k (.p .l .l))) .l)) (.p (.p (.p .k (.p .k (.p .k (.p .l .l)))) (.p .l (.p .l .k))) (.p .k (.p .l .l)))) (.p .k .b)))),trivial⟩),(.q R LnL.rf),trivial⟩),trivial⟩,trivial⟩ (fun _ _ _ _ _ h=>h) R) R (.an R (.seq (.sv R (.bi R (.ns ?_)))))))))))))));refine .cc hm R (fun hm=>?_) fun hm=>?_
       ·refine .sr (.lb y7L R (.op (O.nc .B Z R R) R (.fa y9E R (.st nag4.sz R (.ns (.ret (.seqR ?_)))))));cases hm;exact .rr [0] results189 .nil R I3 ⟨⟨_,R,I4⟩,trivial⟩
       ·refine .sn ?_;refine .sub (τ:=⟨[(4,.i w),(2,.q 2 0)],[(0,.bx 263 (lx263 c)),(2,.bx 339 [lP 0 0])],3⟩) ?_ [] R;refine bS hm fun D v hm=>?_;refine .drg 3 [(3,[]),(3,[]),(3,[oF,oT]),(3,[oF,oT,oT]),(3,fA 1 (tT 3)),(3,fA 1 (tT 4)),(3,fA 1 (tT 5)),(3,fA 1 (tT 6)),(3,[]),(3,fA 1 (tT 8)),(3,fA 1 (tT 9)),(3,fA 1 (tT 10)),(3,tT 12),(3,tT 13),(3,tT 14)] [_,_,_,_,_,_,_,_,_,_,_,_,_,_,_] ⟨[],[(0,.bx 263 [lF qI c.1.1.1.1,lI c.1.1.1.2.1,lF qI c.1.1.1.2.2.1,lF qT c.1.1.1.2.2.2,lF qI c.1.1.2.1.1,lI c.1.1.2.1.2.1,lF qI c.1.1.2.1.2.2.1,lF qT c.1.1.2.1.2.2.2,lF qI c.1.1.2.2,lI c.1.2.1.1.1,lI c.1.2.1.1.2.1,lI c.1.2.1.1.2.2.1,lF rB c.1.2.1.1.2.2.2.1,lF rE344 c.1.2.1.1.2.2.2.2,lF qI c.1.2.1.2.1,lF qI c.1.2.1.2.2.1,lI c.1.2.1.2.2.2,lI c.1.2.2.1,lF rB c.1.2.2.2.1,lF rB c.1.2.2.2.2,lI D.2.2,lB c.2.2])],3⟩ ⟨zB y7L R,zB y7L R,O.nc .B Z R R,O.faP ycP Z R R,O.faP y8l Z R R,O.faP y6p Z R R,O.faP yF Z R R,zB nag27 R,zM R,O.ix sl27 Z R R v R,O.faE y3l Z R R,O.ld nag3 Z R (.E lv112) R R,O.nc .B Z R R,O.faP yek Z R R,O.st nag3.sz Z R R R R R,trivial⟩ (by kernel_rfl) R ?_;cases hm;exact WX.rt [0] (.inr R) results189 .nil R I3 ⟨⟨_,R,I4⟩,trivial⟩
    · intro j;refine .sub (τ:=⟨[(3,.q 1 0),(2,.q 2 0)],[(0,.bx 263 (lx263 c)),(1,.bx 3 [lI p1]),(2,.bx 339 [lP 0 0])],3⟩) ?_ [] R;refine .drP 4 [(3,[]),(3,[oT]),(3,[oT,oT]),(3,tT 3)] [_,_,_,_] ⟨zB y7L R,O.nc .B Z R R,O.faP y9E Z R R,zB nag4 R,trivial⟩ fun m=>?_;rcases ifS hm with ⟨e,hm⟩|⟨e,hm⟩
      · skip
        exact .drF m [(3,tT 4),(3,tT 5),(3,tT 6),(3,tT 7),(3,tT 8),(3,tT 9),(3,tT 10),(3,tT 11),(3,tT 5),(3,tT 13),(3,tT 14),(3,tT 15)] [_,_,_,_,_,_,_,_,_,_,_,_] ⟨[(35,.b true),(3,.q 1 0),(2,.q 2 0)],[(0,.bx 263 (lx263 c)),(1,.bx 3 [lI p1]),(2,.bx 339 [lP 0 0])],3⟩ ⟨O.kn (zM R) e,zK R,zK R,zK R,zK R,zK R,zK R,zK R,zK R,zK R,zK R,O.pkT Z R R R R,trivial⟩ (by kernel_rfl) R ((j _ hm).s0 R)
      · skip
        exact bS hm fun y u hm=> .drF m [(3,tT 4),(3,tT 5),(3,tT 6),(3,tT 7),(3,tT 8),(3,tT 9),(3,tT 10),(3,tT 11),(3,tT 5),(3,tT 13),(3,tT 14),(3,tT 15)] [_,_,_,_,_,_,_,_,_,_,_,_] ⟨[(35,.b (!y)),(3,.q 1 0),(2,.q 2 0)],[(0,.bx 263 (lx263 c)),(1,.bx 3 [lI p1]),(2,.bx 339 [lP 0 0])],3⟩ ⟨O.kn (zM R) e,O.ld y7L (Gu.mk R R) R (.B R) R R,O.nc .B (Gu.mk R R) R R,O.faP ycP (Gu.mk R R) R R,O.faP y8l (Gu.mk R R) R R,O.faP y6p (Gu.mk R R) R R,O.faP yI (Gu.mk R R) R R,O.ld nag26 (Gu.mk R R) R (.B R) R R,O.ld nag3 (Gu.mk R R) R (.B R) R R,O.ca0 (yi u) cf41 R R (Gu.mk R R) R R R,O.not (Gu.mk R R) R R,O.pkF Z R R R R,trivial⟩ (by kernel_rfl) R ((j _ hm).s0 R)
  · intro g;refine .sub (τ:=⟨[(3,.q 2 0),(2,.q 1 0)],[(0,.bx 263 (lx263 p0)),(2,.bx 3 [lI p1]),(1,.bx 339 [lP 0 0])],3⟩) ?_ [] R;refine .drP 5 [(3,[]),(3,[]),(3,[oF,oT]),(3,[oF,oT,oT]),(3,fA 1 (tT 3))] [_,_,_,_,_] ⟨zB y7L R,zB y7L R,O.nc .B Z R R,O.faP y9E Z R R,zB nag4 R,trivial⟩ fun s=>?_;rcases ifS hm with ⟨d,hm⟩|⟨d,hm⟩
    · skip
      exact .drH s 3 [(3,fA 1 (tT 4)),(3,fA 1 (tT 5)),(3,fA 1 (tT 6)),(3,fA 1 (tT 7)),(3,fA 1 (tT 5)),(3,fA 1 (tT 9)),(3,fA 1 (tT 10)),(3,fA 1 (tT 11)),(3,tT 13),(3,tT 14),(3,tT 15)] [_,_,_,_,_,_,_,_,_,_,_] ⟨[(3,.q 2 0),(2,.q 1 0)],[(0,.bx 263 [lF qI p0.1.1.1.1,lI p0.1.1.1.2.1,lF qI p0.1.1.1.2.2.1,lF qT p0.1.1.1.2.2.2,lF qI p0.1.1.2.1.1,lI p0.1.1.2.1.2.1,lF qI p0.1.1.2.1.2.2.1,lF qT p0.1.1.2.1.2.2.2,lF qI p0.1.1.2.2,lI p0.1.2.1.1.1,lI p0.1.2.1.1.2.1,lI p0.1.2.1.1.2.2.1,lF rB p0.1.2.1.1.2.2.2.1,lF rE344 p0.1.2.1.1.2.2.2.2,lF qI p0.1.2.1.2.1,lF qI p0.1.2.1.2.2.1,lI p0.1.2.1.2.2.2,lI p0.1.2.2.1,lF rB p0.1.2.2.2.1,lF rB p0.1.2.2.2.2,lI p0.2.1,lB true]),(2,.bx 3 [lI p1]),(1,.bx 339 [lP 0 0])],3⟩ ⟨O.kn (zM R) d,zK R,zK R,zK R,zK R,zK R,zK R,O.pkT Z R R R R,O.nc .B Z R R,O.faP y9E Z R R,O.st nag4.sz Z R R R R R,trivial⟩ (by kernel_rfl) R ((g _ hm).sub [(1,2),(2,1)] R)
    · skip
      refine bS hm fun a n hm=>?_;refine .drz 3 [(10,0)] [(3,[],[0],[]),(3,[],[],[]),(3,[oF,oT],[],[]),(3,[oF,oT,oT],[],[]),(3,fA 1 (tT 3),[],[]),(3,fA 1 (tT 4),[],[]),(3,fA 1 (tT 5),[],[]),(3,fA 1 (tT 6),[],[]),(3,fA 1 (tT 7),[],[]),(3,fA 1 (tT 5),[],[]),(3,fA 1 (tT 9),[],[]),(3,fA 1 (tT 10),[],[]),(3,fA 1 (tT 11),[],[]),(3,tT 13,[],[]),(3,tT 14,[],[]),(3,tT 15,[],[])] [_,_,_,_,_,_,_,_,_,_,_,_,_,_,_,_] ⟨[(3,.q 2 0),(2,.q 1 0)],[(0,.bx 263 [lF qI a.2.1.1.1.1,lI a.2.1.1.1.2.1,lF qI a.2.1.1.1.2.2.1,lF qT a.2.1.1.1.2.2.2,lF qI a.2.1.1.2.1.1,lI a.2.1.1.2.1.2.1,lF qI a.2.1.1.2.1.2.2.1,lF qT a.2.1.1.2.1.2.2.2,lF qI a.2.1.1.2.2,lI a.2.1.2.1.1.1,lI a.2.1.2.1.1.2.1,lI a.2.1.2.1.1.2.2.1,lF rB a.2.1.2.1.1.2.2.2.1,lF rE344 a.2.1.2.1.1.2.2.2.2,lF qI a.2.1.2.1.2.1,lF qI a.2.1.2.1.2.2.1,lI a.2.1.2.1.2.2.2,lI a.2.1.2.2.1,lF rB a.2.1.2.2.2.1,lF rB a.2.1.2.2.2.2,lI a.2.2.1,lB (!a.1)]),(2,.bx 3 [lI p1]),(1,.bx 339 [lP 0 0])],3⟩ ⟨zB y7L R,zB y7L R,O.nc .B Z R R,O.faP y9E Z R R,zB nag4 R,O.kn (zM R) d,O.ld y7L (Gu.mk R R) R (.B R) R R,O.nc .B (Gu.mk R R) R R,O.faP ycP (Gu.mk R R) R R,O.ld nag3 (Gu.mk R R) R (.B R) R R,O.ca (r':= .b a.1) [0] [(0,.bx 263 (lx263 a.2))] none (ya4 n) cf263 R R (Gu.mk R R) R R R R ⟨⟨_,R,I4⟩,trivial⟩ I3 R,O.not (Gu.mk R R) R R,O.pkF Z R R R R,O.nc .B Z R R,O.faP y9E Z R R,O.st nag4.sz Z R R R R R,trivial⟩ (by kernel_rfl) R ?_;exact(g _ hm).sub [(1,2),(2,1)] R
def y2t(b:LI)(a:Int×(BenT×Int×Bool)):Option ((Int×(BenT×Int×Bool))⊕(BenT×Int×Bool)):=
 if decide (a.1<(b.length:Int)) then
  (idx b a.1).bind fun d=>
  (y4F a.2 d).bind fun c=>
  some (.inl (W (a.1+1),c))
 else
  some (.inr a.2)
def y2u(p1:List StpT)(a:Int×(BenT×Int×Bool)):Option ((Int×(BenT×Int×Bool))⊕(Unit⊕(Int×Int))):=
 if decide (a.1<(p1.length:Int)) then
  (idx p1 a.1).bind fun c=>
  (y3N c).bind fun d=>
  (iter (y2t d) (0,a.2)).bind fun b=>
  if b.2.2 then
   some (.inr (.inr ((1,a.1))))
  else
   if c.2.2.2.2.2.2 then
    some (.inr (.inr ((2,a.1))))
   else
    if(c.2.2.2.2.2.1 != b.2.1) then
     some (.inr (.inr ((3,a.1))))
    else
     some (.inl (W (a.1+1),b))
 else
  some (.inr (.inl ()))
def y2m(p0:PbT)(p1:List StpT):Option (Int×Int×Bool×Int):=
 (yr p0).bind fun c=>
 if(c != 0) then
  some (0,0,false,c)
 else
  (y6s p1).bind fun d=>
  (y4s d (y4r p0)).bind fun e=>
  if e then
   some (0,0,false,9)
  else
   (iter (y2u p1) (0,(p0,((0,0,0,([]:List Bool),([]:List (Int×Int))),([]:LI),([]:LI),0),0,([]:List Bool),([]:List Bool)),0,false)).bind fun b=>
   match b with
   | .inl f=>
    some (0,0,false,0)
   | .inr (a)=>
    some (a.2,a.1,true,0)
theorem y6z{p0:PbT}{p1:List StpT}{r:Int×Int×Bool×Int}(hm:y2m p0 p1=some r):
    F0 117 [.a (lx99 p0),.f rE174 p1] [] (.tp [.i r.1,.i r.2.1,.b r.2.2.1,.i r.2.2.2]) []:=by
  refine Fw.mk2 func117 ntmps117 R (fun C=>?_) R;refine .sr (.bo 0 R (.sa R (.sa R (.sa R (.an R (.seq (.sr (.lg (lx99 p0) ag99 R (.B R) R (bS hm fun V K hm=> .c0 (y7B K) cf124 R (.an R (.sv R (.bi R (.ns ?_)))))))))))));refine .cc hm R (fun hm=>?_) fun hm=>?_
  ·refine .sv R (.sa R (.sa R (.sa R (.an R (.ret (.seqR ?_))))));cases hm;exact .r0 results117 (.tmp R (.tmp R (.tmp R (.tmp R .nil)))) R R
  ·refine .sn (.seq (.sv R (bS hm fun T L hm=> .cm (r':= .h 1) [1] [(0,rwI T)] (some 2) (y9n L) cf119 R ⟨⟨_,R,I4⟩,trivial⟩ R (.fz 0 [2] [] R R fB R R (.op (O.mf (args:=(fun (x:Int)=> [.i x])) (res:=(fun (r:Bool)=> .b r)) (m:=(y4r p0)) cf187 (fun x r h=>y9R h) (fun _=>R) R Z R R) R (bS hm fun W M hm=> .op (O.caZ (y9S M) cf39 R R Z R ⟨⟨R,.hr R,trivial⟩,⟨R,LnL.rf⟩,trivial⟩ (fun _ _ _ _ _ h=>h) R) R (.ns ?_)))))));refine .cc hm R (fun hm=>?_) fun hm=>?_
   ·refine .sr (.sa R (.sa R (.sa R (.an R (.ret (.seqR ?_))))));cases hm;exact .r0 results117 (.tmp R (.tmp R (.tmp R (.tmp R .nil)))) R R
   ·refine .sn (.sr (.lg (lx99 p0) ag99 R .Q R (.bu [lF qI p0.1.1,lI p0.1.2.1,lF qI p0.1.2.2.1,lF qT p0.1.2.2.2,lF qI p0.2.1.1,lI p0.2.1.2.1,lF qI p0.2.1.2.2.1,lF qT p0.2.1.2.2.2,lF qI p0.2.2,lI 0,lI 0,lI 0,lN,lN,lN,lN,lI 0,lI 0,lN,lN] pl261 R (.bu [lF qI p0.1.1,lI p0.1.2.1,lF qI p0.1.2.2.1,lF qT p0.1.2.2.2,lF qI p0.2.1.1,lI p0.2.1.2.1,lF qI p0.2.1.2.2.1,lF qT p0.2.1.2.2.2,lF qI p0.2.2,lI 0,lI 0,lI 0,lN,lN,lN,lN,lI 0,lI 0,lN,lN,lI 0,lB false] pl263 R (.al 2 zz263 R (.st ag263.sz R (.ns (.seq (.sv R (.ln sl166 R (.mv R (.ns (.block (bS hm fun t u hm=>?_))))))))))))));refine .cutU (z:= .exit 0) (fun s=> .inl s=t) (fun (s:Unit)=>⟨[],[],0⟩) ?_ fun I=>?_
    · rintro s rfl;dsimp only at hm;refine .blkE (.seqN (.sr (.sa R (.sa R (.sa R (.an R (.ret ?_)))))));cases hm;exact .r0 results117 (.tmp R (.tmp R (.tmp R (.tmp R .nil)))) R R
    refine .cutU (z:= .ret) (fun g=> .inr (g)=t) (fun (g:Int×Int)=>⟨[(7,.i 0),(6,.b true),(5,.i g.1),(4,.i g.2)],[],0⟩) ?_ fun l=>?_
    · rintro g rfl;dsimp only at hm;refine .blkR (.seqR ?_);cases hm;exact .r0 results117 (.tmp R (.tmp R (.tmp R (.tmp R .nil)))) R R
    refine .cno 2 R (.c .rf (.c .rf (.c .rf (.c .rf (.c .rf (.c .rf (.c .rf (.c .rf (.c .rf (.c .rf (.c .rf (.c .rf (.c (.nf (r:=rB)) (.c (.nf (r:=rE344)) (.c (.nf (r:=qI)) (.c (.nf (r:=qI)) (.c .rf (.c .rf (.c (.nf (r:=rB)) (.c (.nf (r:=rB)) .rf)))))))))))))))))))) R (.iter (fun (d:Int×(BenT×Int×Bool))=>⟨[(27,.i d.1),(26,.i p1.length),(25,.f rE174 p1),(8,.q 0 0)],[(0,.bx 263 (lx263 d.2))],1⟩) u [(0,2)] R ?_);intro d P hm G e;refine .sr (.bi R (.ns (.seq ?_)));refine .cc hm R (fun hm=>?_) fun hm=> .xx ((I _ (e _ (oj hm))).s0 R);refine .sn (.seq (.block (.sv R (bS hm fun k D hm=> .ix sl166 D R (.lg (lx174 k) ag174 R (.E lv174) R (.al 1 zz174 R (.sa R (.st ag174.sz R (.ns (.seq (.sr (.lg (lx174 k) ag174 R (.B R) R (bS hm fun p w hm=> .cm (r':= .h 2) [2] [(0,rwI p)] (some 3) (y8f w) cf188 R ⟨⟨_,R,I4⟩,trivial⟩ R (.lh sl26 R (.mv R (.ns (.block (bS hm fun o v hm=>?_))))))))))))))))));refine .cut1 (z:= .exit 2) o (fun (o:(BenT×Int×Bool))=>⟨[(9,.i d.1),(10,.q 0 0),(27,.i d.1),(26,.i p1.length),(25,.f rE174 p1),(8,.q 1 0)],[(0,.bx 174 (lx174 k)),(1,.bx 263 (lx263 o))],2⟩) ?_ fun J=>?_
    · skip
      refine .blkE (.seqN (.block (.sr (.fa y9E R (.lb nag4 R (.an R ?_))))));refine .cc hm R (fun hm=> .sv R (.sa R (.sa R (.sa R (.an R (.ret (.blkR (.blkR (.seqR (.seqR ((l _ (e _ (oj hm))).s0 R))))))))))) fun hm=>?_;refine .sr (.fa ygz R (.lb nag4 R (.an R ?_)));refine .cc hm R (fun hm=> .sv R (.sa R (.sa R (.sa R (.an R (.ret (.blkR (.blkR (.seqR (.seqR ((l _ (e _ (oj hm))).s0 R))))))))))) fun hm=>?_;refine .sr (.fa ygy R (.lb nag3 R (.fa yek R (.lb nag3 R (.bi R (.an R ?_))))));exact .cc hm R (fun hm=> .sv R (.sa R (.sa R (.sa R (.an R (.ret (.blkR (.blkR (.seqR (.seqR ((l _ (e _ (oj hm))).s0 R))))))))))) fun hm=> .skip (.blkN (.blkN (.seqN (.reg (.bi R (.mv R (.nil ((G _ (oj hm)).sub [(0,1)] R))))))))
    refine .iter (fun (j:Int×(BenT×Int×Bool))=>⟨[(35,.i j.1),(34,.i p.length),(33,.h 0),(9,.i d.1),(10,.q 1 0),(27,.i d.1),(26,.i p1.length),(25,.f rE174 p1),(8,.q 2 0)],[(0,rwI p),(1,.bx 174 (lx174 k)),(2,.bx 263 (lx263 j.2))],3⟩) v [(0,2),(2,0)] R ?_;intro j S hm H F;refine .sr (.bi R (.ns (.seq ?_)));exact .cc hm R (fun hm=> .sn (.seq (.block (.sr (bS hm fun U n hm=> .op (O.ir sl26 Z R R R n R) R (.op (O.ld nag3 Z R (.R R n lv3) R R) R (.an R (.reg (.mv R (bS hm fun N y hm=> .cm (r':= .tp []) [2] [(0,.bx 263 (lx263 N))] none (ya5 y) cf189 R ⟨⟨_,R,I4⟩,trivial⟩ R (.nil (.blkN (.seqN (.reg (.bi R (.mv R (.nil ((H _ (oj hm)).s0 R)))))))))))))))))) fun hm=> .xx ((J _ (F _ (oj hm))).sub [(0,1),(1,2)] R)
def y2h(p0:LI)(p1:LI)(a:Int):Option (Int⊕(Unit⊕Unit)):=
 if decide (a<(p0.length:Int)) then
  (idx p0 a).bind fun b=>
  (idx p1 a).bind fun c=>
  if(b != c) then
   some (.inr (.inr (())))
  else
   some (.inl (W (a+1)))
 else
  some (.inr (.inl ()))
def y1S(p0:LI)(p1:LI):Option Bool:=
 if((p0.length:Int) != (p1.length:Int)) then
  some false
 else
  (iter (y2h p0 p1) 0).bind fun a=>
  match a with
  | .inl b=>
   some true
  | .inr (c)=>
   some false
theorem y6n{p0:LI}{p1:LI}{r:Bool}(hm:y1S p0 p1=some r):
    F0 118 [.f qI p0,.f qI p1] [] (.b r) []:=by
  refine Fw.mk2 func118 ntmps118 R (fun C=>?_) R;refine .sr (.an R (.seq (.sv R (.ln sl26 R (.mv R (.ln sl26 R (.bi R (.ns ?_))))))));refine .cc hm R (fun hm=>?_) fun hm=>?_
  ·refine .sr (.an R (.ret (.seqR ?_)));cases hm;exact .r0 results118 (.tmp R .nil) R R
  ·refine .sn (.seq (.sr (.an R (.block (bS hm fun l j hm=>?_)))));refine .cutU (z:= .exit 0) (fun g=> .inl g=l) (fun (g:Unit)=>⟨[],[],0⟩) ?_ fun K7=>?_
   · rintro g rfl;dsimp only at hm;refine .blkE (.seqN (.sr (.an R (.ret ?_))));cases hm;exact .r0 results118 (.tmp R .nil) R R
   refine .cutU (z:= .ret) (fun h=> .inr (h)=l) (fun (h:Unit)=>⟨[(4,.b false)],[],0⟩) ?_ fun K9=>?_
   · rintro h rfl;dsimp only at hm;refine .blkR (.seqR ?_);cases hm;exact .r0 results118 (.tmp R .nil) R R
   refine .iter (fun (a:Int)=>⟨[(5,.i a),(0,.f qI p0),(1,.f qI p1)],[],0⟩) j [] R ?_;intro a o hm k c;refine .seq (.sv R (.mv R (.ln sl26 R (.bi R (.ns ?_)))));refine .cc hm R (fun hm=>?_) fun hm=> .xx ((K7 _ (c _ (oj hm))).s0 R);refine .sn (.seq (.block (.seq ?_)));refine .sub (τ:=⟨[(5,.i a),(0,.f qI p0),(1,.f qI p1)],[],0⟩) ?_ [] R;refine bS hm fun m d hm=>bS hm fun n e hm=>?_;refine .drw [(0,[]),(0,[]),(0,[oT,oT]),(0,tT 3),(0,[]),(0,[]),(0,[oF,oF,oF,oF,oT,oT]),(0,fA 4 (tT 3)),(0,tT 8)] [_,_,_,_,_,_,_,_,_] ⟨[(25,.b (m != n)),(5,.i a),(0,.f qI p0),(1,.f qI p1)],[],0⟩ ⟨zM R,zM R,O.ix sl26 Z R R d R,O.ld nag3 Z R (.E lv3) R R,zM R,zM R,O.ix sl26 Z R R e R,O.ld nag3 Z R (.E lv3) R R,O.bi Z R R R R,trivial⟩ (by kernel_rfl) R ?_;exact .seqN (.cc hm R (fun hm=> .sr (.an R (.ret (.blkR (.seqR (.seqR ((K9 _ (c _ (oj hm))).s0 R))))))) fun hm=> .skip (.blkN (.seqN (.reg (.mv R (.bi R (.sa R (.nil ((k _ (oj hm)).s0 R)))))))))
def y5R :Option Bool:=
 (y4x).bind fun n=>
 (y5r n ([(([]:LI),([0]:LI),2)]:List CycT)).bind fun a=>
 (y4x).bind fun o=>
 (y2m o a.1).bind fun c=>
 (y4x).bind fun p=>
 (y5r p ([(([0]:LI),([]:LI),2)]:List CycT)).bind fun b=>
 (y4x).bind fun q=>
 (y2m q b.1).bind fun j=>
 (if ((a.2==0)&&((a.1.length:Int)==1)) then
  (idx a.1 0).bind fun m=>
  some m.2.2.2.2.1
 else
  some false).bind fun d=>
 (if d then
  (y6s a.1).bind fun h=>
  (y1S h ([0,2]:LI)).bind fun i=>
  some i
 else
  some false).bind fun e=>
 (if ((((((e&&(c.2.2.2==0))&&c.2.2.1)&&(c.1==0))&&(c.2.1==1))&&(b.2==0))&&((b.1.length:Int)==1)) then
  (idx b.1 0).bind fun l=>
  some (l.2.2.2.1==(-1))
 else
  some false).bind fun f=>
 (if f then
  (idx b.1 0).bind fun k=>
  some ((k.2.2.1.length:Int)==0)
 else
  some false).bind fun g=>
 some ((g&&(j.2.2.2==0))&&(!j.2.2.1))
theorem y8r{r:Bool}(hm:y5R=some r):
  F0 49 [] [] (.b r) []:=by
 refine Fw.mk2 func49 ntmps49 R (fun C=>?_) R;refine .sr (.an R (.sr (bS hm fun r1 a2 hm=> .c0 (y5w a2) cf116 R (.bf (r:=qI) ([0]:LI) bs26 R (.c .k .n) R (.bu [lN,lF qI ([0]:LI),lI 2] pl170 R (.op (O.bsF (r:=rE170) (zs:=([(([]:LI),([0]:LI),2)]:List CycT)) bs102 R R Z R R R (.c (.p .n (.p .l .k)) .n) R R R) R (bS hm fun m a3 hm=> .cm (r':= .tp [.h 0,.i m.2]) [0] [(0,ROW rE174 174 m.1)] (some 1) (y8e a3) cf115 R ⟨⟨_,R,I4⟩,trivial⟩ R (.mv R (.ex R (.ex R (.sa R (.an R (.sr (bS hm fun r3 a4 hm=> .c0 (y5w a4) cf116 R (.mv R (bS hm fun a a5 hm=> .op (O.caZ (y6z a5) cf117 R R Z R ⟨⟨R,LnL.rf⟩,⟨R,.hr R,trivial⟩,trivial⟩ (fun _ _ _ _ _ h=>h) R) R (.mv R (.ex R (.ex R (.ex R (.ex R (.sa R (.sa R (.sa R (.an R (.seq ?_))))))))))))))))))))))))));refine .reg (bS hm fun r5 a6 hm=> .c0 (y5w a6) cf116 R (.bf (r:=qI) ([0]:LI) bs26 R (.c .k .n) R (.bu [lF qI ([0]:LI),lN,lI 2] pl170 R (.op (O.bsF (r:=rE170) (zs:=([(([0]:LI),([]:LI),2)]:List CycT)) bs102 R R Z R R R (.c (.p .l (.p .n .k)) .n) R R R) R (bS hm fun f a7 hm=> .cm (r':= .tp [.h 1,.i f.2]) [1] [(0,ROW rE174 174 f.1)] (some 2) (y8e a7) cf115 R ⟨⟨_,R,I4⟩,trivial⟩ R (.mv R (.ex R (.ex R (.sa R (.an R (.sr (bS hm fun r7 a8 hm=> .c0 (y5w a8) cf116 R (.mv R (bS hm fun e a9 hm=> .op (O.caZ (y6z a9) cf117 R R Z R ⟨⟨R,LnL.rf⟩,⟨R,.hr R,trivial⟩,trivial⟩ (fun _ _ _ _ _ h=>h) R) R (.mv R (.ex R (.ex R (.ex R (.ex R (.sa R (.sa R (.sa R (.an R (.sv R (.bi R (.mv R ?_))))))))))))))))))))))))));refine .cut 4 (fun (Y:Bool)=>((m.2==0)&&((m.1.length:Int)==1))=Y) (fun Y=>⟨[(51,.b Y),(12,.i e.2.2.2),(11,.b e.2.2.1),(8,.i f.2),(7,.h 1),(6,.i a.2.2.2),(5,.b a.2.2.1),(4,.i a.2.1),(3,.i a.1),(1,.h 0)],[(1,ROW rE174 174 f.1),(0,ROW rE174 174 m.1)],2⟩) ?_ ?_
 ·rintro _ rfl;refine .mv R (bS hm fun a0 eb11 hm=>?_);refine .cut 5 (fun (t:Bool)=>a0=t) (fun t=>⟨[(57,.b t),(12,.i e.2.2.2),(11,.b e.2.2.1),(8,.i f.2),(7,.h 1),(6,.i a.2.2.2),(5,.b a.2.2.1),(4,.i a.2.1),(3,.i a.1),(1,.h 0)],[(1,ROW rE174 174 f.1),(0,ROW rE174 174 m.1)],2⟩) ?_ ?_
  ·rintro _ rfl;refine .mv R (bS hm fun g eb14 hm=>?_);refine .cut 5 (fun (u:Bool)=>g=u) (fun u=>⟨[(63,.b u),(12,.i e.2.2.2),(11,.b e.2.2.1),(8,.i f.2),(7,.h 1),(6,.i a.2.2.2),(5,.b a.2.2.1),(4,.i a.2.1),(3,.i a.1)],[(1,ROW rE174 174 f.1)],3⟩) ?_ ?_
   ·rintro _ rfl;refine .mv R ?_;refine .cut 3 (fun (v:Bool)=>(g&&(a.2.2.2==0))=v) (fun v=>⟨[(67,.b v),(12,.i e.2.2.2),(11,.b e.2.2.1),(8,.i f.2),(7,.h 1),(5,.b a.2.2.1),(4,.i a.2.1),(3,.i a.1)],[(1,ROW rE174 174 f.1)],3⟩) ?_ ?_
    ·rintro _ rfl;refine .mv R ?_;refine .cut 2 (fun (w:Bool)=>((g&&(a.2.2.2==0))&&a.2.2.1)=w) (fun w=>⟨[(70,.b w),(12,.i e.2.2.2),(11,.b e.2.2.1),(8,.i f.2),(7,.h 1),(4,.i a.2.1),(3,.i a.1)],[(1,ROW rE174 174 f.1)],3⟩) ?_ ?_
     ·rintro _ rfl;refine .mv R ?_;refine .cut 3 (fun (x:Bool)=>(((g&&(a.2.2.2==0))&&a.2.2.1)&&(a.1==0))=x) (fun x=>⟨[(74,.b x),(12,.i e.2.2.2),(11,.b e.2.2.1),(8,.i f.2),(7,.h 1),(4,.i a.2.1)],[(1,ROW rE174 174 f.1)],3⟩) ?_ ?_
      ·rintro _ rfl;refine .mv R ?_;refine .cut 3 (fun (y:Bool)=>((((g&&(a.2.2.2==0))&&a.2.2.1)&&(a.1==0))&&(a.2.1==1))=y) (fun y=>⟨[(78,.b y),(12,.i e.2.2.2),(11,.b e.2.2.1),(8,.i f.2),(7,.h 1)],[(1,ROW rE174 174 f.1)],3⟩) ?_ ?_
       ·rintro _ rfl;refine .mv R ?_;refine .cut 3 (fun (z:Bool)=>(((((g&&(a.2.2.2==0))&&a.2.2.1)&&(a.1==0))&&(a.2.1==1))&&(f.2==0))=z) (fun z=>⟨[(82,.b z),(12,.i e.2.2.2),(11,.b e.2.2.1),(7,.h 1)],[(1,ROW rE174 174 f.1)],3⟩) ?_ ?_
        ·rintro _ rfl;refine .mv R ?_;refine .cut 4 (fun (B:Bool)=>((((((g&&(a.2.2.2==0))&&a.2.2.1)&&(a.1==0))&&(a.2.1==1))&&(f.2==0))&&((f.1.length:Int)==1))=B) (fun B=>⟨[(87,.b B),(12,.i e.2.2.2),(11,.b e.2.2.1),(7,.h 1)],[(1,ROW rE174 174 f.1)],3⟩) ?_ ?_
         ·rintro _ rfl;refine .mv R (bS hm fun a1 eb29 hm=>?_);refine .cut 6 (fun (D:Bool)=>a1=D) (fun D=>⟨[(94,.b D),(12,.i e.2.2.2),(11,.b e.2.2.1),(7,.h 1)],[(1,ROW rE174 174 f.1)],3⟩) ?_ ?_
          ·rintro _ rfl;refine .mv R (bS hm fun j eb32 hm=>?_);refine .cut 7 (fun (E:Bool)=>j=E) (fun E=>⟨[(102,.b E),(12,.i e.2.2.2),(11,.b e.2.2.1)],[],3⟩) ?_ ?_
           ·rintro _ rfl;refine .mv R ?_;refine .cut 3 (fun (F:Bool)=>(j&&(e.2.2.2==0))=F) (fun F=>⟨[(106,.b F),(11,.b e.2.2.1)],[],3⟩) ?_ ?_
            ·rintro _ rfl;refine .mv R ?_;refine .cut 3 (fun (G:Bool)=>((j&&(e.2.2.2==0))&&(!e.2.2.1))=G) (fun G=>⟨[(110,.b G)],[],3⟩) ?_ ?_
             ·rintro _ rfl;refine .an R (.ret ?_);cases hm;exact .r0 results49 (.tmp R .nil) R R
             ·intro V;rcases yEt (j&&(e.2.2.2==0)) with hc|hc
              ·refine .know (d:=107) R hc ?_;exact .mg R (.op (O.not (Gu.mk R R) R R) R (.pT R ((V (!e.2.2.1) (andT hc).symm).s0 R)))
              ·refine .know (d:=107) R hc ?_;exact .s2 R R (.pF R ((V false (andF hc).symm).s0 R))
            ·intro U;rcases yEt j with hc|hc
             ·refine .know (d:=103) R hc ?_;exact .mg R (.bg R (.pT R ((U (e.2.2.2==0) (andT hc).symm).s0 R)))
             ·refine .know (d:=103) R hc ?_;exact .s2 R R (.pF R ((U false (andF hc).symm).s0 R))
           ·intro T;rcases ifS eb32 with ⟨hc,hm⟩|⟨hc,hm⟩
            ·refine .know (d:=95) R hc ?_;exact .mg R (bS hm fun b2 o hm=> .op (O.ir sl166 (Gu.mk R R) R R R o R) R (.op (O.faR yei (Gu.mk R R) R R) R (.op (O.ld nag26 (Gu.mk R R) R (.R R o lv174) R R) R (.op (O.len sl26 (Gu.mk R R) R R) R (.bg R (.pT R ((T ((b2.2.2.1.length:Int)==0) (oj hm)).s0 R)))))))
            ·refine .know (d:=95) R hc ?_;exact .s2 R R (.s2 R R (.s2 R R (.pF R ((T false (oj hm)).s0 R))))
          ·intro S;rcases ifS eb29 with ⟨hc,hm⟩|⟨hc,hm⟩
           ·refine .know (d:=88) R hc ?_;exact .mg R (bS hm fun b3 q hm=> .op (O.ir sl166 (Gu.mk R R) R R R q R) R (.op (O.faR yao (Gu.mk R R) R R) R (.op (O.ld nag3 (Gu.mk R R) R (.R R q lv174) R R) R (.bg R (.pT R ((S (b3.2.2.2.1==(-1)) (oj hm)).s0 R))))))
           ·refine .know (d:=88) R hc ?_;exact .s2 R R (.s2 R R (.sk R (.pF R ((S false (oj hm)).s0 R))))
         ·intro Q;rcases yEt (((((g&&(a.2.2.2==0))&&a.2.2.1)&&(a.1==0))&&(a.2.1==1))&&(f.2==0)) with hc|hc
          ·refine .know (d:=83) R hc ?_;exact .mg R (.op (O.lenH sl166 (Gu.mk R R) R R R) R (.bg R (.pT R ((Q ((f.1.length:Int)==1) (andT hc).symm).s0 R))))
          ·refine .know (d:=83) R hc ?_;exact .s2 R R (.sk R (.pF R ((Q false (andF hc).symm).s0 R)))
        ·intro P;rcases yEt ((((g&&(a.2.2.2==0))&&a.2.2.1)&&(a.1==0))&&(a.2.1==1)) with hc|hc
         ·refine .know (d:=79) R hc ?_;exact .mg R (.bg R (.pT R ((P (f.2==0) (andT hc).symm).s0 R)))
         ·refine .know (d:=79) R hc ?_;exact .s2 R R (.pF R ((P false (andF hc).symm).s0 R))
       ·intro N;rcases yEt (((g&&(a.2.2.2==0))&&a.2.2.1)&&(a.1==0)) with hc|hc
        ·refine .know (d:=75) R hc ?_;exact .mg R (.bg R (.pT R ((N (a.2.1==1) (andT hc).symm).s0 R)))
        ·refine .know (d:=75) R hc ?_;exact .s2 R R (.pF R ((N false (andF hc).symm).s0 R))
      ·intro M;rcases yEt ((g&&(a.2.2.2==0))&&a.2.2.1) with hc|hc
       ·refine .know (d:=71) R hc ?_;exact .mg R (.bg R (.pT R ((M (a.1==0) (andT hc).symm).s0 R)))
       ·refine .know (d:=71) R hc ?_;exact .s2 R R (.pF R ((M false (andF hc).symm).s0 R))
     ·intro L;rcases yEt (g&&(a.2.2.2==0)) with hc|hc
      ·refine .know (d:=68) R hc ?_;exact .mg R (.pT R ((L a.2.2.1 (andT hc).symm).s0 R))
      ·refine .know (d:=68) R hc ?_;exact .sk R (.pF R ((L false (andF hc).symm).s0 R))
    ·intro K;rcases yEt g with hc|hc
     ·refine .know (d:=64) R hc ?_;exact .mg R (.bg R (.pT R ((K (a.2.2.2==0) (andT hc).symm).s0 R)))
     ·refine .know (d:=64) R hc ?_;exact .s2 R R (.pF R ((K false (andF hc).symm).s0 R))
   ·intro J;rcases ifS eb14 with ⟨hc,hm⟩|⟨hc,hm⟩
    ·refine .know (d:=58) R hc ?_;exact .mg R (bS hm fun b0 W hm=> .op (O.caY (r':= .h 2) [2] [(0,rwI b0)] (some 3) (y9n W) cf119 R R (Gu.mk R R) R R ⟨⟨R,.hr R,trivial⟩,trivial⟩ R ⟨.row flr3,trivial⟩ (fun _ _ _ _ h=>h) ⟨⟨_,R,I4⟩,trivial⟩ I3 R) R (.op (O.bsF (r:=qI) (zs:=([0,2]:LI)) bs26 R R (Gu.mk R R) R R R (.c .k (.c .k .n)) R R R) R (bS hm fun b1 X hm=> .op (O.caZ (y6n X) cf118 R R (Gu.mk R R) R ⟨⟨R,.hr R,trivial⟩,⟨R,LnL.rf⟩,trivial⟩ (fun _ _ _ _ _ h=>h) R) R (.pT R ((J b1 (oj hm)).s0 R)))))
    ·refine .know (d:=58) R hc ?_;exact .s2 R R (.s2 R R (.pF R ((J false (oj hm)).s0 R)))
  ·intro I;rcases ifS eb11 with ⟨hc,hm⟩|⟨hc,hm⟩
   ·refine .know (d:=52) R hc ?_;exact .mg R (bS hm fun b4 s hm=> .op (O.ir sl166 (Gu.mk R R) R R R s R) R (.op (O.faR ybi (Gu.mk R R) R R) R (.op (O.ld nag4 (Gu.mk R R) R (.R R s lv174) R R) R (.pT R ((I b4.2.2.2.2.1 (oj hm)).s0 R)))))
   ·refine .know (d:=52) R hc ?_;exact .s2 R R (.s2 R R (.pF R ((I false (oj hm)).s0 R)))
 ·intro H;rcases yEt (m.2==0) with hc|hc
  ·refine .know (d:=47) R hc ?_;exact .mg R (.op (O.lenH sl166 (Gu.mk R R) R R R) R (.bg R (.pT R ((H ((m.1.length:Int)==1) (andT hc).symm).s0 R))))
  ·refine .know (d:=47) R hc ?_;exact .s2 R R (.sk R (.pF R ((H false (andF hc).symm).s0 R)))
def y1F(b:Int×LI)(a:LI):Option ((Int×LI)⊕LI):=
 some (.inl (W (b.1+1),a))
def y2U(p0:Int)(a:Int×LI):Option ((Int×LI)⊕LI):=
 if decide (a.1<5) then
  (ng a.1).bind fun _=>
  if((IntKind.u8.wrap (((BitVec.ofInt 8 (p0.fdiv (2 ^ (min a.1.toNat 8))) &&& BitVec.ofInt 8 1).toNat:Int)))==1) then
   (app a.2 ([a.1]:LI)).bind fun b=>
   y1F a b
  else
   y1F a a.2
 else
  some (.inr a.2)
def y1x(p0:Int):Option LI:=
 (iter (y2U p0) (0,([]:LI))).bind fun a=>
 some a
theorem y5s{p0:Int}{r:LI}(hm:y1x p0=some r):
  F0 73 [.o (lV (.int .u8 p0))] [] (.h 0) [rwI r]:=by
 refine Fw.mk2 func73 ntmps73 R (fun C=>?_) R;refine .sr (.an R (.sr (.an R (.seq (.sr (.an R (.block (bS hm fun f l hm=>?_))))))));refine .cut1 (z:= .exit 0) f (fun (f:LI)=>⟨[(3,.h 0)],[(0,rwI f)],1⟩) ?_ fun j=>?_
 ·skip
  refine .blkE (.seqN (.sv R (.an R (.ret ?_))));cases hm;exact .rr [0] results73 (.tmp R .nil) R I3 ⟨⟨_,R,I4⟩,trivial⟩
 refine .nlg qI 3 3 0 R R (.iter (fun (a:Int×LI)=>⟨[(4,.i a.1),(3,.h 0),(0,.o (lV (.int .u8 p0)))],[(0,rwI a.2)],1⟩) l [] R ?_);intro a g hm p m;refine .seq (.sv R (.bi R (.ns ?_)));refine .cc hm R (fun hm=>?_) fun hm=> .xx ((j _ (m _ (oj hm))).s0 R);refine .sn ?_;refine .join1 (fun (b:LI)=>y1F a b=some g) (fun b=>⟨[(3,.h 0),(4,.i a.1),(0,.o (lV (.int .u8 p0)))],[(0,rwI b)],1⟩) ?_ ?_
 ·intro b hm;exact .reg (.mv R (.bi R (.sa R (.nil ((p _ (oj hm)).s0 R)))))
 ·intro d;refine .block (.sv R (.mv R (bS hm fun _ q hm=> .op (O.shr Z R R (ygh q) R) R (.bi R (.bi R (.ns ?_))))));exact .cc hm R (fun hm=> .reg (.mv R (.mv R (.bf (r:=qI) ([a.1]:LI) bs26 R (.c .k .n) R (bS hm fun s e hm=> .ap 1 underlying26 el3 R R (.fr R) e (.sa R (.nil (.blkN ((d _ hm).sub [(0,1)] R))))))))) fun hm=> .skip (.blkN ((d _ hm).s0 R))
def y2R(p0:LI):Option AutT:=
 (app ([]:LI) p0).bind fun a=>
 some (a,0,([]:LI),([]:List (Int×Int×Int)))
theorem y6X{p0:LI}{r:AutT}(hm:y2R p0=some r):
  F0 145 [.f qI p0] [] (.g [lH 0,lI r.2.1,lH 1,lH 2]) [rwI r.1,rwI r.2.2.1,ROW qT 112 r.2.2.2]:=by
 refine Fw.mk2 func145 ntmps145 R (fun C=>?_) R;refine .sr (.al 0 zz60 R (.nr (.op (O.b0O (r:=qI) 1 R bs26 R Z R) R (.mv R (bS hm fun b a hm=> .ap 2 underlying26 el3 R R (.fr R) a (.bu [lH 2,lI 0,lN,lN] pl60 R (.st ag60.sz R (.ns (.ret (.nlb qI 3 0 2 R R (.nlb qT 112 0 3 R R ?_)))))))))));cases hm;exact .rr [2,3,4] results145 (.cell R R ag60 R .nil) R I3 ⟨⟨_,R,I4⟩,⟨_,R,I4⟩,⟨_,R,I4⟩,trivial⟩
def y4X(p0:AutT)(p1:Int)(p2:Int)(a:Int):Option (Int⊕(Unit⊕Int)):=
 if decide (a<(p0.2.2.2.length:Int)) then
  (idx p0.2.2.2 a).bind fun c=>
  (if (c.1==p1) then
   (idx p0.2.2.2 a).bind fun e=>
   some (e.2.1==p2)
  else
   some false).bind fun b=>
  if b then
   (idx p0.2.2.2 a).bind fun d=>
   some (.inr (.inr (d.2.2)))
  else
   some (.inl (W (a+1)))
 else
  some (.inr (.inl ()))
def y4G(p0:AutT)(p1:Int)(p2:Int):Option Int:=
 (iter (y4X p0 p1 p2) 0).bind fun b=>
 match b with
 | .inl c=>
  some (-1)
 | .inr (a)=>
  some a
theorem y8w{p0:AutT}{p1:Int}{p2:Int}{r:Int}(hm:y4G p0 p1 p2=some r):
  F0 231 [.a (lx60 p0),.i p1,.i p2] [] (.i r) []:=by
 refine Fw.mk2 func231 ntmps231 R (fun C=>?_) R;refine .sr (.bo 0 R (.an R (.seq (.sr (.an R (.block (bS hm fun u s hm=>?_)))))));refine .cutU (z:= .exit 0) (fun f=> .inl f=u) (fun (f:Unit)=>⟨[],[],0⟩) ?_ fun n=>?_
 ·rintro f rfl;dsimp only at hm;refine .blkE (.seqN (.sr (.an R (.ret ?_))));cases hm;exact .r0 results231 (.tmp R .nil) R R
 refine .cutU (z:= .ret) (fun c=> .inr (c)=u) (fun (c:Int)=>⟨[(6,.i c)],[],0⟩) ?_ fun o=>?_
 ·rintro c rfl;dsimp only at hm;refine .blkR (.seqR ?_);cases hm;exact .r0 results231 (.tmp R .nil) R R
 refine .iter (fun (e:Int)=>⟨[(7,.i e),(3,.q 0 0),(1,.i p1),(2,.i p2)],[(0,.bx 60 (lx60 p0))],1⟩) s [] R ?_;intro e w hm t j;refine .seq (.sv R (.fa yF R (.lb nag27 R (.ln sl27 R (.bi R (.ns ?_))))));refine .cc hm R (fun hm=>?_) fun hm=> .xx ((n _ (j _ (oj hm))).s0 R);refine .sn (.seq (.block (.sr (.fa yF R (.lb nag27 R (.mv R (bS hm fun x k hm=> .ix sl27 k R (.fe y1A R (.le nag3 lv112 R (.mv R (.bi R (.mv R (bS hm fun p eb16 hm=>?_)))))))))))));refine .cut 9 (fun (g:Bool)=>p=g) (fun g=>⟨[(32,.b g),(7,.i e),(3,.q 0 0),(1,.i p1),(2,.i p2)],[(0,.bx 60 (lx60 p0))],1⟩) ?_ ?_
 ·rintro _ rfl;exact .ns (.cc hm R (fun hm=> .sr (.fa yF R (.lb nag27 R (.mv R (bS hm fun y l hm=> .ix sl27 l R (.fe y3l R (.le nag3 lv112 R (.an R (.ret (.blkR (.seqR (.seqR ((o _ (j _ (oj hm))).s0 R))))))))))))) fun hm=> .skip (.blkN (.seqN (.reg (.mv R (.bi R (.sa R (.nil ((t _ (oj hm)).s0 R)))))))))
 ·intro h;rcases ifS eb16 with ⟨hc,hm⟩|⟨hc,hm⟩
  ·refine .know (d:=23) R hc ?_;exact .fag yF R (.lbg nag27 R (.mg R (bS hm fun v m hm=> .op (O.ix sl27 (Gu.mk R R) R R m R) R (.op (O.faE y3F (Gu.mk R R) R R) R (.leg nag3 lv112 R (.mg R (.bg R (.pT R ((h (v.2.1==p2) (oj hm)).s0 R)))))))))
  ·refine .know (d:=23) R hc ?_;exact .s2 R R (.s2 R R (.s2 R R (.s2 R R (.pF R ((h false (oj hm)).s0 R)))))
def y5A(p0:LI)(p1:Int)(a:Int):Option (Int⊕(Unit⊕Unit)):=
 if decide (a<(p0.length:Int)) then
  (idx p0 a).bind fun b=>
  if(b==p1) then
   some (.inr (.inr (())))
  else
   some (.inl (W (a+1)))
 else
  some (.inr (.inl ()))
def y5i(p0:LI)(p1:Int):Option Bool:=
 (iter (y5A p0 p1) 0).bind fun a=>
 match a with
 | .inl b=>
  some false
 | .inr (c)=>
  some true
theorem y8L{p0:LI}{p1:Int}{r:Bool}(hm:y5i p0 p1=some r):
  F0 230 [.f qI p0,.i p1] [] (.b r) []:=by
 refine Fw.mk2 func230 ntmps230 R (fun C=>?_) R;refine .sr (.an R (.seq (.sr (.an R (.block (bS hm fun k g hm=>?_))))));refine .cutU (z:= .exit 0) (fun d=> .inl d=k) (fun (d:Unit)=>⟨[],[],0⟩) ?_ fun K6=>?_
 ·rintro d rfl;dsimp only at hm;refine .blkE (.seqN (.sr (.an R (.ret ?_))));cases hm;exact .r0 results230 (.tmp R .nil) R R
 refine .cutU (z:= .ret) (fun e=> .inr (e)=k) (fun (e:Unit)=>⟨[(4,.b true)],[],0⟩) ?_ fun K8=>?_
 ·rintro e rfl;dsimp only at hm;refine .blkR (.seqR ?_);cases hm;exact .r0 results230 (.tmp R .nil) R R
 refine .iter (fun (c:Int)=>⟨[(5,.i c),(0,.f qI p0),(1,.i p1)],[],0⟩) g [] R ?_;intro c l hm j a;refine .seq (.sv R (.mv R (.ln sl26 R (.bi R (.ns ?_)))));refine .cc hm R (fun hm=>?_) fun hm=> .xx ((K6 _ (a _ (oj hm))).s0 R);refine .sn (.seq (.block (.sv R (.mv R (bS hm fun m h hm=> .ix sl26 h R (.le nag3 lv3 R (.mv R (.bi R (.ns ?_)))))))));exact .cc hm R (fun hm=> .sr (.an R (.ret (.blkR (.seqR (.seqR ((K8 _ (a _ (oj hm))).s0 R))))))) fun hm=> .skip (.blkN (.seqN (.reg (.mv R (.bi R (.sa R (.nil ((j _ (oj hm)).s0 R))))))))
def y3b(a:Int×LI)(b:LI):Option ((Int×LI)⊕LI):=
 some (.inl (W (a.1+1),b))
def y3c(p0:AutT)(c:Int×LI)(a:Int×LI):Option ((Int×LI)⊕LI):=
 if decide (a.1<(p0.1.length:Int)) then
  (idx a.2 c.1).bind fun f=>
  (idx p0.1 a.1).bind fun g=>
  (y4G p0 f g).bind fun b=>
  (if decide (b≥0) then
   (y5i a.2 b).bind fun e=>
   some (!e)
  else
   some false).bind fun d=>
  if d then
   (app a.2 ([b]:LI)).bind fun h=>
   y3b a h
  else
   y3b a a.2
 else
  some (.inr a.2)
def y3d(p0:AutT)(a:Int×LI):Option ((Int×LI)⊕LI):=
 if decide (a.1<(a.2.length:Int)) then
  (iter (y3c p0 a) (0,a.2)).bind fun b=>
  some (.inl (W (a.1+1),b))
 else
  some (.inr a.2)
def y4H(p0:AutT)(b:LI):Option LI:=
 (iter (y3d p0) (0,b)).bind fun a=>
 some a
def y5S(p0:AutT):Option LI:=
 if decide (p0.2.1>0) then
  (app ([]:LI) ([0]:LI)).bind fun a=>
  y4H p0 a
 else
  y4H p0 ([]:LI)
theorem yaK{p0:AutT}{r:LI}(hm:y5S p0=some r):
  F0 229 [.a (lx60 p0)] [] (.h 0) [rwI r]:=by
 refine Fw.mk2 func229 ntmps229 R (fun C=>?_) R;refine .sr (.bo 0 R (.an R (.sr (.an R ?_))));refine .join1 (fun (u:LI)=>y4H p0 u=some r) (fun u=>⟨[(3,.h 0),(1,.q 1 0)],[(0,rwI u),(1,.bx 60 (lx60 p0))],2⟩) ?_ ?_
 ·intro u hm;refine .seq (.sr (.an R (.block (bS hm fun o y hm=>?_))));refine .cut1 (z:= .exit 0) o (fun (o:LI)=>⟨[(3,.h 0)],[(0,rwI o)],1⟩) ?_ fun P=>?_
  ·skip
   refine .blkE (.seqN (.sv R (.an R (.ret ?_))));cases hm;exact .rr [0] results229 (.tmp R .nil) R I3 ⟨⟨_,R,I4⟩,trivial⟩
  refine .iter (fun (f:Int×LI)=>⟨[(4,.i f.1),(3,.h 0),(1,.q 1 0)],[(0,rwI f.2),(1,.bx 60 (lx60 p0))],2⟩) y [] R ?_;intro f U hm M K;refine .seq (.sv R (.mv R (.lh sl26 R (.bi R (.ns ?_)))));refine .cc hm R (fun hm=>?_) fun hm=> .xx ((P _ (K _ (oj hm))).s0 R);refine .sn (.seq (.block (.sr (.an R (.block (bS hm fun p D hm=>?_))))));refine .cut1 (z:= .exit 2) p (fun (p:LI)=>⟨[(4,.i f.1),(3,.h 0),(1,.q 1 0)],[(0,rwI p),(1,.bx 60 (lx60 p0))],2⟩) ?_ fun Q=>?_
  ·skip
   exact .blkE (.blkN (.seqN (.reg (.mv R (.bi R (.sa R (.nil ((M _ (oj hm)).s0 R))))))))
  refine .iter (fun (e:Int×LI)=>⟨[(5,.i e.1),(4,.i f.1),(3,.h 0),(1,.q 1 0)],[(0,rwI e.2),(1,.bx 60 (lx60 p0))],2⟩) D [] R ?_;intro e v hm N L;refine .seq (.sv R (.fa yI R (.lb nag26 R (.ln sl26 R (.bi R (.ns ?_))))));refine .cc hm R (fun hm=>?_) fun hm=> .xx ((Q _ (L _ (oj hm))).s0 R);refine .sn ?_;refine .join1 (fun (g:LI)=>y3b e g=some v) (fun g=>⟨[(3,.h 0),(5,.i e.1),(4,.i f.1),(1,.q 1 0)],[(0,rwI g),(1,.bx 60 (lx60 p0))],2⟩) ?_ ?_
  ·intro g hm;exact .reg (.mv R (.bi R (.sa R (.nil ((N _ (oj hm)).s0 R)))))
  ·intro j;refine .block (.seq ?_);refine .sub (τ:=⟨[(5,.i e.1),(4,.i f.1),(3,.h 0),(1,.q 1 0)],[(0,rwI e.2),(1,.bx 60 (lx60 p0))],2⟩) ?_ [] R;refine bS hm fun V m hm=>bS hm fun W H hm=>bS hm fun s F hm=>?_;refine .drw [(2,[]),(2,[]),(2,[]),(2,[oF,oT,oT]),(2,fA 1 (tT 3)),(2,[]),(2,[oF,oF,oF,oF,oF,oT]),(2,[]),(2,fA 5 (tT 3)),(2,fA 5 (tT 4)),(2,tT 10),(2,tT 11)] [_,_,_,_,_,_,_,_,_,_,_,_] ⟨[(6,.i s),(5,.i e.1),(4,.i f.1),(3,.h 0),(1,.q 1 0)],[(0,rwI e.2),(1,.bx 60 (lx60 p0))],2⟩ ⟨O.lg (l':=(lx60 p0)) ag60 Z R (.B R) R R R,zM R,zM R,O.ir sl26 Z R R R m R,O.ld nag3 Z R (.R R m lv3) R R,O.faP yI Z R R,zB nag26 R,zM R,O.ix sl26 Z R R H R,O.ld nag3 Z R (.E lv3) R R,O.ca0 (y8w F) cf231 R R Z R R R,O.as Z R R,trivial⟩ (by kernel_rfl) R ?_;refine .seqN (.sv R (.bi R (.mv R (bS hm fun S eb59 hm=>?_))));refine .cut 5 (fun (t:Bool)=>S=t) (fun t=>⟨[(44,.b t),(6,.i s),(5,.i e.1),(4,.i f.1),(3,.h 0),(1,.q 1 0)],[(0,rwI e.2),(1,.bx 60 (lx60 p0))],2⟩) ?_ ?_
   ·rintro _ rfl;exact .ns (.cc hm R (fun hm=> .reg (.mv R (.mv R (.bf (r:=qI) ([s]:LI) bs26 R (.c .k .n) R (bS hm fun X I hm=> .ap 2 underlying26 el3 R R (.fr R) I (.sa R (.nil (.blkN ((j _ hm).sub [(0,2)] R))))))))) fun hm=> .skip (.blkN ((j _ hm).s0 R)))
   ·intro w;rcases ifS eb59 with ⟨hc,hm⟩|⟨hc,hm⟩
    ·refine .know (d:=39) R hc ?_;exact .mg R (.mg R (bS hm fun T G hm=> .op (O.caZ (y8L G) cf230 R R (Gu.mk R R) R ⟨⟨R,.hr R,trivial⟩,⟨R,LnL.rf⟩,trivial⟩ (fun _ _ _ _ _ h=>h) R) R (.op (O.not (Gu.mk R R) R R) R (.pT R ((w (!T) (oj hm)).s0 R)))))
    ·refine .know (d:=39) R hc ?_;exact .s2 R R (.s2 R R (.pF R ((w false (oj hm)).s0 R)))
 ·intro x;refine .sr (.fa y1r R (.lb nag3 R (.bi R (.ns ?_))));exact .cc hm R (fun hm=> .reg (.mv R (.bf (r:=qI) ([0]:LI) bs26 R (.c .k .n) R (bS hm fun Y J hm=> .op (O.apN (r:=qI) 1 underlying26 el3 R R Z R (.fr R) J R) R (.sa R (.nil ((x _ hm).sub [(0,1),(1,0)] R))))))) fun hm=> .skip (.nlg qI 3 3 0 R R ((x _ hm).sub [(0,1),(1,0)] R))
def y4I(p0:LI)(p1:Int)(a:Int):Option (Int⊕(Unit⊕Int)):=
 if decide (a<(p0.length:Int)) then
  (idx p0 a).bind fun b=>
  if(b==p1) then
   some (.inr (.inr (a)))
  else
   some (.inl (W (a+1)))
 else
  some (.inr (.inl ()))
def y5T(p0:LI)(p1:Int):Option Int:=
 (iter (y4I p0 p1) 0).bind fun a=>
 match a with
 | .inl c=>
  some (-1)
 | .inr (b)=>
  some b
theorem yaL{p0:LI}{p1:Int}{r:Int}(hm:y5T p0 p1=some r):
  F0 232 [.f qI p0,.i p1] [] (.i r) []:=by
 refine Fw.mk2 func232 ntmps232 R (fun C=>?_) R;refine .sr (.an R (.seq (.sr (.an R (.block (bS hm fun j g hm=>?_))))));refine .cutU (z:= .exit 0) (fun e=> .inl e=j) (fun (e:Unit)=>⟨[],[],0⟩) ?_ fun K7=>?_
 ·rintro e rfl;dsimp only at hm;refine .blkE (.seqN (.sr (.an R (.ret ?_))));cases hm;exact .r0 results232 (.tmp R .nil) R R
 refine .cutU (z:= .ret) (fun a=> .inr (a)=j) (fun (a:Int)=>⟨[(4,.i a)],[],0⟩) ?_ fun K9=>?_
 ·rintro a rfl;dsimp only at hm;refine .blkR (.seqR ?_);cases hm;exact .r0 results232 (.tmp R .nil) R R
 refine .iter (fun (c:Int)=>⟨[(5,.i c),(0,.f qI p0),(1,.i p1)],[],0⟩) g [] R ?_;intro c k hm h b;refine .seq (.sv R (.mv R (.ln sl26 R (.bi R (.ns ?_)))));refine .cc hm R (fun hm=>?_) fun hm=> .xx ((K7 _ (b _ (oj hm))).s0 R);refine .sn (.seq (.block (.sv R (.mv R (bS hm fun l d hm=> .ix sl26 d R (.le nag3 lv3 R (.mv R (.bi R (.ns ?_)))))))));exact .cc hm R (fun hm=> .sv R (.an R (.ret (.blkR (.seqR (.seqR ((K9 _ (b _ (oj hm))).s0 R))))))) fun hm=> .skip (.blkN (.seqN (.reg (.mv R (.bi R (.sa R (.nil ((h _ (oj hm)).s0 R))))))))
def y1T(a:Int×EdgL)(b:List (Int×Int×Int)):Option ((Int×EdgL)⊕EdgL):=
 some (.inl (W (a.1+1),b))
def y1U(p0:AutT)(d:LI)(b:Int×LI×EdgL)(a:Int×EdgL):Option ((Int×EdgL)⊕EdgL):=
 if decide (a.1<(p0.1.length:Int)) then
  (idx d b.1).bind fun f=>
  (idx p0.1 a.1).bind fun g=>
  (y4G p0 f g).bind fun c=>
  if decide (c≥0) then
   (idx p0.1 a.1).bind fun h=>
   (y5T d c).bind fun e=>
   (app a.2 ([(b.1,h,e)]:List (Int×Int×Int))).bind fun i=>
   y1T a i
  else
   y1T a a.2
 else
  some (.inr a.2)
def y1V(p0:AutT)(d:LI)(a:Int×LI×EdgL)(b:LI):Option ((Int×LI×EdgL)⊕(LI×EdgL)):=
 (iter (y1U p0 d a) (0,a.2.2)).bind fun c=>
 some (.inl (W (a.1+1),b,c))
def y3o(p0:AutT)(b:LI)(a:Int×LI×EdgL):Option ((Int×LI×EdgL)⊕(LI×EdgL)):=
 if decide (a.1<(b.length:Int)) then
  (idx b a.1).bind fun d=>
  (y5i p0.2.2.1 d).bind fun c=>
  if c then
   (app a.2.1 ([a.1]:LI)).bind fun e=>
   y1V p0 b a e
  else
   y1V p0 b a a.2.1
 else
  some (.inr a.2)
def y4t(p0:AutT):Option AutT:=
 (y5S p0).bind fun b=>
 (y2R p0.1).bind fun c=>
 (iter (y3o p0 b) (0,c.2.2)).bind fun a=>
 some (c.1,(b.length:Int),a)
theorem y9T{p0:AutT}{r:AutT}(hm:y4t p0=some r):
  F0 146 [.a (lx60 p0)] [] (.g [lH 0,lI r.2.1,lH 1,lH 2]) [rwI r.1,rwI r.2.2.1,ROW qT 112 r.2.2.2]:=by
 refine Fw.mk2 func146 ntmps146 R (fun C=>?_) R;refine .sr (.bo 0 R (.al 1 zz60 R (.nr (.lg (lx60 p0) ag60 R (.B R) R (bS hm fun e a0 hm=> .cm (r':= .h 2) [2] [(0,rwI e)] (some 3) (yaK a0) cf229 R ⟨⟨_,R,I4⟩,trivial⟩ R (.an R (.sr (.fa yI R (.lb nag26 R (bS hm fun m a1 hm=> .cm (r':= .g [lH 3,lI m.2.1,lH 4,lH 5]) [3,4,5] [(0,rwI m.1),(1,rwI m.2.2.1),(2,ROW qT 112 m.2.2.2)] (some 6) (y6X a1) cf145 R ⟨⟨_,R,I4⟩,⟨_,R,I4⟩,⟨_,R,I4⟩,trivial⟩ R (.al 6 zz60 R (.st ag60.sz R (.nr (.mv R (.lh sl26 R (.fa y1r R (.st nag3.sz R (.ns (.seq (.sr (.an R (.block (bS hm fun s I hm=>?_)))))))))))))))))))))));refine .cut1 (z:= .exit 0) s (fun (s:LI×EdgL)=>⟨[(4,.q 0 0),(2,.q 4 0)],[(0,.bx 60 [lH 1,lI e.length,lH 2,lH 3]),(1,rwI m.1),(2,rwI s.1),(3,ROW qT 112 s.2),(4,.bx 60 [lN,lI 0,lN,lN])],5⟩) ?_ fun X=>?_
 ·skip
  refine .blkE (.seqN (.sr (.lg [lH 1,lI e.length,lH 2,lH 3] ag60 R (.B R) R (.st ag60.sz R (.ns (.ret ?_))))));cases hm;exact .rr [1,2,3] results146 (.cell R R ag60 R .nil) R I3 ⟨⟨_,R,I4⟩,⟨_,R,I4⟩,⟨_,R,I4⟩,trivial⟩
 refine .iter (fun (d:Int×LI×EdgL)=>⟨[(5,.i d.1),(4,.q 0 0),(3,.h 4),(2,.q 5 0),(1,.q 6 0)],[(0,.bx 60 [lH 1,lI e.length,lH 2,lH 3]),(1,rwI m.1),(2,rwI d.2.1),(3,ROW qT 112 d.2.2),(4,rwI e),(5,.bx 60 [lN,lI 0,lN,lN]),(6,.bx 60 (lx60 p0))],7⟩) I [(0,6),(1,3),(2,4),(3,5),(4,2),(5,1),(6,0)] R ?_;intro d y hm V T;refine .seq (.sv R (.mv R (.lh sl26 R (.bi R (.ns ?_)))));refine .cc hm R (fun hm=>?_) fun hm=> .xx ((X _ (T _ (oj hm))).sub [(4,5)] R);refine .sn (.seq (.block ?_));refine .join1 (fun (j:LI)=>y1V p0 e d j=some y) (fun j=>⟨[(5,.i d.1),(4,.q 0 0),(3,.h 4),(2,.q 5 0),(1,.q 6 0)],[(0,.bx 60 [lH 1,lI e.length,lH 2,lH 3]),(1,rwI m.1),(2,rwI j),(3,ROW qT 112 d.2.2),(4,rwI e),(5,.bx 60 [lN,lI 0,lN,lN]),(6,.bx 60 (lx60 p0))],7⟩) ?_ ?_
 ·intro j hm;refine .sr (.an R (.block (bS hm fun x J hm=>?_)));refine .cut1 (z:= .exit 2) x (fun (x:EdgL)=>⟨[(5,.i d.1),(4,.q 0 0),(3,.h 4),(2,.q 5 0),(1,.q 6 0)],[(0,.bx 60 [lH 1,lI e.length,lH 2,lH 3]),(1,rwI m.1),(2,rwI j),(3,ROW qT 112 x),(4,rwI e),(5,.bx 60 [lN,lI 0,lN,lN]),(6,.bx 60 (lx60 p0))],7⟩) ?_ fun Y=>?_
  ·skip
   exact .blkE (.blkN (.seqN (.reg (.mv R (.bi R (.sa R (.nil ((V _ (oj hm)).s0 R))))))))
  refine .iter (fun (f:Int×EdgL)=>⟨[(6,.i f.1),(5,.i d.1),(4,.q 0 0),(3,.h 4),(2,.q 5 0),(1,.q 6 0)],[(0,.bx 60 [lH 1,lI e.length,lH 2,lH 3]),(1,rwI m.1),(2,rwI j),(3,ROW qT 112 f.2),(4,rwI e),(5,.bx 60 [lN,lI 0,lN,lN]),(6,.bx 60 (lx60 p0))],7⟩) J [] R ?_;intro f D hm W U;refine .seq (.sv R (.fa yI R (.lb nag26 R (.ln sl26 R (.bi R (.ns ?_))))));refine .cc hm R (fun hm=>?_) fun hm=> .xx ((Y _ (U _ (oj hm))).s0 R);refine .sn ?_;refine .join1 (fun (o:List (Int×Int×Int))=>y1T f o=some D) (fun o=>⟨[(6,.i f.1),(5,.i d.1),(4,.q 0 0),(3,.h 4),(2,.q 5 0),(1,.q 6 0)],[(0,.bx 60 [lH 1,lI e.length,lH 2,lH 3]),(1,rwI m.1),(2,rwI j),(3,ROW qT 112 o),(4,rwI e),(5,.bx 60 [lN,lI 0,lN,lN]),(6,.bx 60 (lx60 p0))],7⟩) ?_ ?_
  ·intro o hm;exact .reg (.mv R (.bi R (.sa R (.nil ((W _ (oj hm)).s0 R)))))
  ·intro u;refine .block (.seq ?_);refine .sub (τ:=⟨[(6,.i f.1),(5,.i d.1),(4,.q 0 0),(3,.h 4),(2,.q 5 0),(1,.q 6 0)],[(0,.bx 60 [lH 1,lI e.length,lH 2,lH 3]),(1,rwI m.1),(2,rwI j),(3,ROW qT 112 f.2),(4,rwI e),(5,.bx 60 [lN,lI 0,lN,lN]),(6,.bx 60 (lx60 p0))],7⟩) ?_ [] R;refine bS hm fun a4 v hm=>bS hm fun a5 N hm=>bS hm fun F K hm=>?_;refine .drw [(7,[]),(7,[]),(7,[]),(7,[oF,oT,oT]),(7,fA 1 (tT 3)),(7,[]),(7,[oF,oF,oF,oF,oF,oT]),(7,[]),(7,fA 5 (tT 3)),(7,fA 5 (tT 4)),(7,tT 10),(7,tT 11)] [_,_,_,_,_,_,_,_,_,_,_,_] ⟨[(7,.i F),(6,.i f.1),(5,.i d.1),(4,.q 0 0),(3,.h 4),(2,.q 5 0),(1,.q 6 0)],[(0,.bx 60 [lH 1,lI e.length,lH 2,lH 3]),(1,rwI m.1),(2,rwI j),(3,ROW qT 112 f.2),(4,rwI e),(5,.bx 60 [lN,lI 0,lN,lN]),(6,.bx 60 (lx60 p0))],7⟩ ⟨O.lg (l':=(lx60 p0)) ag60 Z R (.B R) R R R,zM R,zM R,O.ir sl26 Z R R R v R,O.ld nag3 Z R (.R R v lv3) R R,O.faP yI Z R R,zB nag26 R,zM R,O.ix sl26 Z R R N R,O.ld nag3 Z R (.E lv3) R R,O.ca0 (y8w K) cf231 R R Z R R R,O.as Z R R,trivial⟩ (by kernel_rfl) R ?_;refine .seqN (.sv R (.bi R (.ns ?_)));refine .cc hm R (fun hm=>?_) fun hm=> .skip (.blkN ((u _ hm).s0 R));refine .sub (τ:=⟨[(7,.i F),(6,.i f.1),(5,.i d.1),(4,.q 0 0),(3,.h 4),(2,.q 5 0),(1,.q 6 0)],[(0,.bx 60 [lH 1,lI e.length,lH 2,lH 3]),(1,rwI m.1),(2,rwI j),(3,ROW qT 112 f.2),(4,rwI e),(5,.bx 60 [lN,lI 0,lN,lN]),(6,.bx 60 (lx60 p0))],7⟩) ?_ [] R;refine bS hm fun H P hm=>bS hm fun G L hm=>bS hm fun a3 Q hm=>?_;refine .drg 8 [(7,[]),(7,[oT]),(7,[]),(7,[]),(7,[oF,oF,oF,oT]),(7,[]),(7,fA 3 (tT 3)),(7,fA 3 (tT 4)),(7,[]),(7,[]),(7,[oF,oF,oF,oF,oF,oF,oF,oF,oT,oT]),(7,fA 2 (tT 9)),(7,fA 2 (tT 10)),(7,tT 13),(8,tT 14),(8,tT 15)] [_,_,_,_,_,_,_,_,_,_,_,_,_,_,_,_] ⟨[(6,.i f.1),(5,.i d.1),(4,.q 0 0),(3,.h 4),(2,.q 5 0),(1,.q 6 0)],[(0,.bx 60 [lH 1,lI e.length,lH 2,lH 7]),(1,rwI m.1),(2,rwI j),(7,ROW qT 112 a3),(4,rwI e),(5,.bx 60 [lN,lI 0,lN,lN]),(6,.bx 60 (lx60 p0))],8⟩ ⟨O.faP yF Z R R,zB nag27 R,zM R,O.faP yI Z R R,zB nag26 R,zM R,O.ix sl26 Z R R P R,O.ld nag3 Z R (.E lv3) R R,zM R,zM R,O.caZ (yaL L) cf232 R R Z R ⟨⟨R,.hr R,trivial⟩,⟨R,LnL.rf⟩,trivial⟩ (fun _ _ _ _ _ h=>h) R,O.bu (l:=[lI d.1,lI H,lI G]) pl112 R Z R R R,O.bsF (r:=qT) (zs:=([(d.1,H,G)]:List (Int×Int×Int))) bs27 R R Z R R R (.c (.p .k (.p .k .k)) .n) R R R,O.ap 7 underlying27 el112 R R Z R R (.fr R) Q R,O.faP yF Z R R,O.st nag27.sz Z R R R R R,trivial⟩ (by kernel_rfl) R ?_;exact .blkN ((u _ hm).sub [(3,7)] R)
 ·intro t;refine .seq ?_;refine .sub (τ:=⟨[(5,.i d.1),(4,.q 0 0),(3,.h 4),(2,.q 5 0),(1,.q 6 0)],[(0,.bx 60 [lH 1,lI e.length,lH 2,lH 3]),(1,rwI m.1),(2,rwI d.2.1),(3,ROW qT 112 d.2.2),(4,rwI e),(5,.bx 60 [lN,lI 0,lN,lN]),(6,.bx 60 (lx60 p0))],7⟩) ?_ [] R;refine bS hm fun a6 w hm=>bS hm fun a2 M hm=>?_;refine .drw [(7,[]),(7,[oT]),(7,[]),(7,[]),(7,[oF,oF,oT,oT]),(7,fA 2 (tT 3)),(7,tT 6)] [_,_,_,_,_,_,_] ⟨[(28,.b a2),(5,.i d.1),(4,.q 0 0),(3,.h 4),(2,.q 5 0),(1,.q 6 0)],[(0,.bx 60 [lH 1,lI e.length,lH 2,lH 3]),(1,rwI m.1),(2,rwI d.2.1),(3,ROW qT 112 d.2.2),(4,rwI e),(5,.bx 60 [lN,lI 0,lN,lN]),(6,.bx 60 (lx60 p0))],7⟩ ⟨O.faP y5D Z R R,zB nag26 R,zM R,zM R,O.ir sl26 Z R R R w R,O.ld nag3 Z R (.R R w lv3) R R,O.ca0 (y8L M) cf230 R R Z R R R,trivial⟩ (by kernel_rfl) R ?_;exact .seqN (.cc hm R (fun hm=> .reg (.fa y5D R (.lb nag26 R (.mv R (.bf (r:=qI) ([d.1]:LI) bs26 R (.c .k .n) R (bS hm fun a7 S hm=> .ap 7 underlying26 el3 R R (.fr R) S (.fa y5D R (.st nag26.sz R (.nil ((t _ hm).sub [(2,7)] R)))))))))) fun hm=> .skip ((t _ hm).s0 R))
def y3t(a:Int×EdgL)(b:List (Int×Int×Int)):Option ((Int×EdgL)⊕EdgL):=
 some (.inl (W (a.1+1),b))
def y4Y(p0:LI)(p1:y1h)(b:Int×LI×EdgL)(a:Int×EdgL):Option ((Int×EdgL)⊕EdgL):=
 if((decide (a.1<(p0.length:Int)))&&(decide (a.1<5))) then
  (rng b.1 5).bind fun _=>
  (rng a.1 5).bind fun _=>
  (([p1.2.2.1.1,p1.2.2.1.2.1,p1.2.2.1.2.2.1,p1.2.2.1.2.2.2.1,p1.2.2.1.2.2.2.2,p1.2.2.2.1.1,p1.2.2.2.1.2.1,p1.2.2.2.1.2.2.1,p1.2.2.2.1.2.2.2.1,p1.2.2.2.1.2.2.2.2,p1.2.2.2.2.1.1,p1.2.2.2.2.1.2.1,p1.2.2.2.2.1.2.2.1,p1.2.2.2.2.1.2.2.2.1,p1.2.2.2.2.1.2.2.2.2,p1.2.2.2.2.2.1.1,p1.2.2.2.2.2.1.2.1,p1.2.2.2.2.2.1.2.2.1,p1.2.2.2.2.2.1.2.2.2.1,p1.2.2.2.2.2.1.2.2.2.2,p1.2.2.2.2.2.2.1,p1.2.2.2.2.2.2.2.1,p1.2.2.2.2.2.2.2.2.1,p1.2.2.2.2.2.2.2.2.2.1,p1.2.2.2.2.2.2.2.2.2.2]:LI)[b.1.toNat*5+a.1.toNat*1]?).bind fun c=>
  (nz (W ((W (1+(W (p1.1.tmod 5))))+2))).bind fun _=>
  if decide (((W c).tmod (W ((W (1+(W (p1.1.tmod 5))))+2)))<(W (1+(W (p1.1.tmod 5))))) then
   (idx p0 a.1).bind fun d=>
   (app a.2 ([(b.1,d,((W c).tmod (W ((W (1+(W (p1.1.tmod 5))))+2))))]:List (Int×Int×Int))).bind fun e=>
   y3t a e
  else
   y3t a a.2
 else
  some (.inr a.2)
def y3u(p0:LI)(p1:y1h)(a:Int×LI×EdgL)(b:LI):Option ((Int×LI×EdgL)⊕(LI×EdgL)):=
 (iter (y4Y p0 p1 a) (0,a.2.2)).bind fun c=>
 some (.inl (W (a.1+1),b,c))
def y4Z(p0:LI)(p1:y1h)(a:Int×LI×EdgL):Option ((Int×LI×EdgL)⊕(LI×EdgL)):=
 if decide (a.1<(W (1+(W (p1.1.tmod 5))))) then
  (ng a.1).bind fun _=>
  if((IntKind.u8.wrap (((BitVec.ofInt 8 (p1.2.1.fdiv (2 ^ (min a.1.toNat 8))) &&& BitVec.ofInt 8 1).toNat:Int)))==1) then
   (app a.2.1 ([a.1]:LI)).bind fun b=>
   y3u p0 p1 a b
  else
   y3u p0 p1 a a.2.1
 else
  some (.inr a.2)
def y4J(p0:LI)(p1:y1h):Option AutT:=
 if decide (p1.1≥250) then
  (y2R p0).bind fun d=>
  some d
 else
  (y2R p0).bind fun b=>
  (iter (y4Z p0 p1) (0,b.2.2)).bind fun a=>
  (y4t (b.1,W (1+(W (p1.1.tmod 5))),a)).bind fun c=>
  some c
theorem y8x{p0:LI}{p1:y1h}{r:AutT}(hm:y4J p0 p1=some r):
    F0 72 [.f qI p0,.a (lx45 p1)] [] (.g [lH 0,lI r.2.1,lH 1,lH 2]) [rwI r.1,rwI r.2.2.1,ROW qT 112 r.2.2.2]:=by
  refine Fw.mk2 func72 ntmps72 R (fun C=>?_) R;refine .sr (.bo 0 R (.al 1 zz60 R (.ns (.seq (.sr (.fa yhQ R (.lb nag5 R (.bi R (.ns ?_)))))))));refine .cc hm R (fun hm=>?_) fun hm=>?_
  ·refine .sv R (bS hm fun G a2 hm=> .cm (r':= .g [lH 2,lI G.2.1,lH 3,lH 4]) [2,3,4] [(0,rwI G.1),(1,rwI G.2.2.1),(2,ROW qT 112 G.2.2.2)] (some 5) (y6X a2) cf145 R ⟨⟨_,R,I4⟩,⟨_,R,I4⟩,⟨_,R,I4⟩,trivial⟩ R (.st ag60.sz R (.ns (.ret (.seqR ?_)))));cases hm;exact .rr [2,3,4] results72 (.cell R R ag60 R .nil) R I3 ⟨⟨_,R,I4⟩,⟨_,R,I4⟩,⟨_,R,I4⟩,trivial⟩
  ·refine .sn (.sv R (bS hm fun s a3 hm=> .cm (r':= .g [lH 2,lI s.2.1,lH 3,lH 4]) [2,3,4] [(0,rwI s.1),(1,rwI s.2.2.1),(2,ROW qT 112 s.2.2.2)] (some 5) (y6X a3) cf145 R ⟨⟨_,R,I4⟩,⟨_,R,I4⟩,⟨_,R,I4⟩,trivial⟩ R (.al 5 zz60 R (.st ag60.sz R (.nr (.fa yhQ R (.lb nag5 R (.op (O.rem Z R R (by decide) R) R (.op (O.cv underlying5 underlying3 Z R R) R (.bi R (.fa y1r R (.st nag3.sz R (.ns (.seq (.sr (.an R (.block (bS hm fun u L hm=>?_))))))))))))))))));refine .cut1 (z:= .exit 0) u (fun (u:LI×EdgL)=>⟨[(5,.q 0 0),(4,.q 4 0)],[(0,.bx 60 [lH 1,lI (W (1+(W (p1.1.tmod 5)))),lH 2,lH 3]),(1,rwI s.1),(2,rwI u.1),(3,ROW qT 112 u.2),(4,.bx 60 [lN,lI 0,lN,lN])],5⟩) ?_ fun a0=>?_
   · skip
     refine .blkE (.seqN (.sr (.lg [lH 1,lI (W (1+(W (p1.1.tmod 5)))),lH 2,lH 3] ag60 R (.B R) R (bS hm fun v N hm=> .op (O.caY (r':= .g [lH 5,lI v.2.1,lH 6,lH 7]) [5,6,7] [(0,rwI v.1),(1,rwI v.2.2.1),(2,ROW qT 112 v.2.2.2)] (some 8) (y9T N) cf146 R R Z R R ⟨⟨R,.hr R,.rf,.hr R,.hr R,trivial⟩,trivial⟩ R ⟨.row flr3,.row flr3,.row y5c,trivial⟩ (fun _ _ _ _ h=>h) ⟨⟨_,R,I4⟩,⟨_,R,I4⟩,⟨_,R,I4⟩,trivial⟩ I3 R) R (.st ag60.sz R (.ns (.ret ?_)))))));cases hm;exact .rr [5,6,7] results72 (.cell R R ag60 R .nil) R I3 ⟨⟨_,R,I4⟩,⟨_,R,I4⟩,⟨_,R,I4⟩,trivial⟩
   refine .iter (fun (e:Int×LI×EdgL)=>⟨[(6,.i e.1),(5,.q 0 0),(4,.q 4 0),(3,.q 5 0),(0,.f qI p0)],[(0,.bx 60 [lH 1,lI (W (1+(W (p1.1.tmod 5)))),lH 2,lH 3]),(1,rwI s.1),(2,rwI e.2.1),(3,ROW qT 112 e.2.2),(4,.bx 60 [lN,lI 0,lN,lN]),(5,.bx 45 (lx45 p1))],6⟩) L [(0,5),(1,2),(2,3),(3,4),(4,1),(5,0)] R ?_;intro e H hm X U;refine .seq (.sv R (.fa y1r R (.lb nag3 R (.bi R (.ns ?_)))));refine .cc hm R (fun hm=>?_) fun hm=> .xx ((a0 _ (U _ (oj hm))).s0 R);refine .sn (.seq (.block ?_));refine .join1 (fun (o:LI)=>y3u p0 p1 e o=some H) (fun o=>⟨[(6,.i e.1),(5,.q 0 0),(4,.q 4 0),(3,.q 5 0),(0,.f qI p0)],[(0,.bx 60 [lH 1,lI (W (1+(W (p1.1.tmod 5)))),lH 2,lH 3]),(1,rwI s.1),(2,rwI o),(3,ROW qT 112 e.2.2),(4,.bx 60 [lN,lI 0,lN,lN]),(5,.bx 45 (lx45 p1))],6⟩) ?_ ?_
   · intro o hm;refine .sr (.an R (.block (bS hm fun D M hm=>?_)));refine .cut1 (z:= .exit 2) D (fun (D:EdgL)=>⟨[(6,.i e.1),(5,.q 0 0),(4,.q 4 0),(3,.q 5 0),(0,.f qI p0)],[(0,.bx 60 [lH 1,lI (W (1+(W (p1.1.tmod 5)))),lH 2,lH 3]),(1,rwI s.1),(2,rwI o),(3,ROW qT 112 D),(4,.bx 60 [lN,lI 0,lN,lN]),(5,.bx 45 (lx45 p1))],6⟩) ?_ fun a1=>?_
     · skip
       exact .blkE (.blkN (.seqN (.reg (.mv R (.bi R (.sa R (.nil ((X _ (oj hm)).s0 R))))))))
     refine .iter (fun (j:Int×EdgL)=>⟨[(7,.i j.1),(6,.i e.1),(5,.q 0 0),(4,.q 4 0),(3,.q 5 0),(0,.f qI p0)],[(0,.bx 60 [lH 1,lI (W (1+(W (p1.1.tmod 5)))),lH 2,lH 3]),(1,rwI s.1),(2,rwI o),(3,ROW qT 112 j.2),(4,.bx 60 [lN,lI 0,lN,lN]),(5,.bx 45 (lx45 p1))],6⟩) M [] R ?_;intro j I hm Y V;refine .seq (.sv R (.mv R (.ln sl26 R (.bi R (.mv R ?_)))));refine .cut 3 (fun (F:Bool)=>((decide (j.1<(p0.length:Int)))&&(decide (j.1<5)))=F) (fun F=>⟨[(47,.b F),(7,.i j.1),(6,.i e.1),(5,.q 0 0),(4,.q 4 0),(3,.q 5 0),(0,.f qI p0)],[(0,.bx 60 [lH 1,lI (W (1+(W (p1.1.tmod 5)))),lH 2,lH 3]),(1,rwI s.1),(2,rwI o),(3,ROW qT 112 j.2),(4,.bx 60 [lN,lI 0,lN,lN]),(5,.bx 45 (lx45 p1))],6⟩) ?_ ?_
     · rintro _ rfl;refine .ns ?_;refine .cc hm R (fun hm=>?_) fun hm=> .xx ((a1 _ (V _ (oj hm))).s0 R);refine .sn ?_;refine .join1 (fun (t:List (Int×Int×Int))=>y3t j t=some I) (fun t=>⟨[(7,.i j.1),(6,.i e.1),(5,.q 0 0),(4,.q 4 0),(3,.q 5 0),(0,.f qI p0)],[(0,.bx 60 [lH 1,lI (W (1+(W (p1.1.tmod 5)))),lH 2,lH 3]),(1,rwI s.1),(2,rwI o),(3,ROW qT 112 t),(4,.bx 60 [lN,lI 0,lN,lN]),(5,.bx 45 (lx45 p1))],6⟩) ?_ ?_
       · intro t hm;exact .reg (.mv R (.bi R (.sa R (.nil ((Y _ (oj hm)).s0 R)))))
       · intro y;refine .block (.seq ?_);refine .sub (τ:=⟨[(7,.i j.1),(6,.i e.1),(5,.q 0 0),(4,.q 4 0),(3,.q 5 0),(0,.f qI p0)],[(0,.bx 60 [lH 1,lI (W (1+(W (p1.1.tmod 5)))),lH 2,lH 3]),(1,rwI s.1),(2,rwI o),(3,ROW qT 112 j.2),(4,.bx 60 [lN,lI 0,lN,lN]),(5,.bx 45 (lx45 p1))],6⟩) ?_ [] R;refine bS hm fun _ a5 hm=>bS hm fun _ a6 hm=>bS hm fun w P hm=>bS hm fun _ a7 hm=>?_;refine .drw [(6,[]),(6,[]),(6,[]),(6,[oT,oF,oT]),(6,tT 4),(6,tT 5),(6,tT 6),(6,[]),(6,[oF,oF,oF,oF,oF,oF,oF,oT]),(6,[oF,oF,oF,oF,oF,oF,oF,oT,oT]),(6,tT 10),(6,tT 11)] [_,_,_,_,_,_,_,_,_,_,_,_] ⟨[(8,.i ((W w).tmod (W ((W (1+(W (p1.1.tmod 5))))+2)))),(7,.i j.1),(6,.i e.1),(5,.q 0 0),(4,.q 4 0),(3,.q 5 0),(0,.f qI p0)],[(0,.bx 60 [lH 1,lI (W (1+(W (p1.1.tmod 5)))),lH 2,lH 3]),(1,rwI s.1),(2,rwI o),(3,ROW qT 112 j.2),(4,.bx 60 [lN,lI 0,lN,lN]),(5,.bx 45 (lx45 p1))],6⟩ ⟨zM R,zM R,O.faP ykX Z R R,O.ia ia43 Z R R a5 R,O.ia ia42 Z R R a6 R,O.ldA (off:=2) (k:=e.1.toNat*5+j.1.toNat*1) (m:=25) (cs:=[p1.2.2.1.1,p1.2.2.1.2.1,p1.2.2.1.2.2.1,p1.2.2.1.2.2.2.1,p1.2.2.1.2.2.2.2,p1.2.2.2.1.1,p1.2.2.2.1.2.1,p1.2.2.2.1.2.2.1,p1.2.2.2.1.2.2.2.1,p1.2.2.2.1.2.2.2.2,p1.2.2.2.2.1.1,p1.2.2.2.2.1.2.1,p1.2.2.2.2.1.2.2.1,p1.2.2.2.2.1.2.2.2.1,p1.2.2.2.2.1.2.2.2.2,p1.2.2.2.2.2.1.1,p1.2.2.2.2.2.1.2.1,p1.2.2.2.2.2.1.2.2.1,p1.2.2.2.2.2.1.2.2.2.1,p1.2.2.2.2.2.1.2.2.2.2,p1.2.2.2.2.2.2.1,p1.2.2.2.2.2.2.2.1,p1.2.2.2.2.2.2.2.2.1,p1.2.2.2.2.2.2.2.2.2.1,p1.2.2.2.2.2.2.2.2.2.2]) nag5 Z R R R (by omega) P R,O.cv underlying5 underlying3 Z R R,O.faP y1r Z R R,zB nag3 R,O.bi Z R R R R,O.rem Z R R (yk4 a7) R,O.as Z R R,trivial⟩ (by kernel_rfl) R ?_;refine .seqN (.sv R (.fa y1r R (.lb nag3 R (.bi R (.ns ?_)))));refine .cc hm R (fun hm=>?_) fun hm=> .skip (.blkN ((y _ hm).s0 R));refine .sub (τ:=⟨[(8,.i ((W w).tmod (W ((W (1+(W (p1.1.tmod 5))))+2)))),(7,.i j.1),(6,.i e.1),(5,.q 0 0),(4,.q 4 0),(3,.q 5 0),(0,.f qI p0)],[(0,.bx 60 [lH 1,lI (W (1+(W (p1.1.tmod 5)))),lH 2,lH 3]),(1,rwI s.1),(2,rwI o),(3,ROW qT 112 j.2),(4,.bx 60 [lN,lI 0,lN,lN]),(5,.bx 45 (lx45 p1))],6⟩) ?_ [] R;refine bS hm fun K Q hm=>bS hm fun a4 S hm=>?_;refine .drg 7 [(6,[]),(6,[oT]),(6,[]),(6,[]),(6,[]),(6,[oF,oF,oF,oT,oT]),(6,fA 3 (tT 3)),(6,[]),(6,fA 2 (tT 6)),(6,fA 2 (tT 7)),(6,tT 10),(7,tT 11),(7,tT 12)] [_,_,_,_,_,_,_,_,_,_,_,_,_] ⟨[(7,.i j.1),(6,.i e.1),(5,.q 0 0),(4,.q 4 0),(3,.q 5 0),(0,.f qI p0)],[(0,.bx 60 [lH 1,lI (W (1+(W (p1.1.tmod 5)))),lH 2,lH 6]),(1,rwI s.1),(2,rwI o),(6,ROW qT 112 a4),(4,.bx 60 [lN,lI 0,lN,lN]),(5,.bx 45 (lx45 p1))],7⟩ ⟨O.faP yF Z R R,zB nag27 R,zM R,zM R,zM R,O.ix sl26 Z R R Q R,O.ld nag3 Z R (.E lv3) R R,zM R,O.bu (l:=[lI e.1,lI K,lI ((W w).tmod (W ((W (1+(W (p1.1.tmod 5))))+2)))]) pl112 R Z R R R,O.bsF (r:=qT) (zs:=([(e.1,K,((W w).tmod (W ((W (1+(W (p1.1.tmod 5))))+2))))]:List (Int×Int×Int))) bs27 R R Z R R R (.c (.p .k (.p .k .k)) .n) R R R,O.ap 6 underlying27 el112 R R Z R R (.fr R) S R,O.faP yF Z R R,O.st nag27.sz Z R R R R R,trivial⟩ (by kernel_rfl) R ?_;exact .blkN ((y _ hm).sub [(3,6)] R)
     · intro J;rcases yEt (decide (j.1<(p0.length:Int))) with hc|hc
       · refine .know (d:=44) R hc ?_;exact .mg R (.bg R (.pT R ((J (decide (j.1<5)) (andT hc).symm).s0 R)))
       · refine .know (d:=44) R hc ?_;exact .s2 R R (.pF R ((J false (andF hc).symm).s0 R))
   · intro x;refine .sr (.fa ykW R (.lb nag5 R (.mv R (bS hm fun _ a8 hm=> .op (O.shr Z R R (ygh a8) R) R (.bi R (.bi R (.ns ?_)))))));exact .cc hm R (fun hm=> .reg (.fa y5D R (.lb nag26 R (.mv R (.bf (r:=qI) ([e.1]:LI) bs26 R (.c .k .n) R (bS hm fun a9 T hm=> .ap 6 underlying26 el3 R R (.fr R) T (.fa y5D R (.st nag26.sz R (.nil ((x _ hm).sub [(2,6)] R)))))))))) fun hm=> .skip ((x _ hm).s0 R)
def y6A(p0:(Int×y1h)×(Int×y1h)×Int):Option PbT:=
 (y1x p0.1.1).bind fun b=>
 (y4J b p0.1.2).bind fun a=>
 (y1x p0.2.1.1).bind fun c=>
 (y4y c a.1).bind fun d=>
 (y4J d p0.2.1.2).bind fun e=>
 (y1x p0.2.2).bind fun f=>
 some (a,e,f)
theorem yaZ{p0:(Int×y1h)×(Int×y1h)×Int}{r:PbT}(hm:y6A p0=some r):
  F0 190 [.a (lx93 p0)] [] (.tp [.a [lH 0,lI r.1.2.1,lH 1,lH 2],.a [lH 3,lI r.2.1.2.1,lH 4,lH 5],.h 6]) [rwI r.1.1,rwI r.1.2.2.1,ROW qT 112 r.1.2.2.2,rwI r.2.1.1,rwI r.2.1.2.2.1,ROW qT 112 r.2.1.2.2.2,rwI r.2.2]:=by
 refine Fw.mk2 func190 ntmps190 R (fun C=>?_) R;refine .sr (.bo 0 R (.al 1 zz60 R (.al 2 zz60 R (.an R (.seq ?_)))));refine .sub (τ:=⟨[(3,.q 2 0),(2,.q 1 0),(1,.q 0 0)],[(2,.bx 60 [lN,lI 0,lN,lN]),(1,.bx 60 [lN,lI 0,lN,lN]),(0,.bx 93 (lx93 p0))],3⟩) ?_ [] R;refine bS hm fun n d hm=>bS hm fun b e hm=>?_;refine .drg 7 [(3,[]),(3,[oT]),(3,[oT,oT]),(3,tT 3),(3,[]),(3,[oF,oF,oF,oF,oT]),(3,[oF,oF,oF,oF,oT,oT]),(4,tT 7),(7,tT 8)] [_,_,_,_,_,_,_,_,_] ⟨[(3,.q 2 0),(2,.q 1 0),(1,.q 0 0)],[(2,.bx 60 [lN,lI 0,lN,lN]),(1,.bx 60 [lH 4,lI b.2.1,lH 5,lH 6]),(4,rwI b.1),(5,rwI b.2.2.1),(6,ROW qT 112 b.2.2.2),(0,.bx 93 (lx93 p0))],7⟩ ⟨O.faP yhT Z R R,O.faP yhR Z R R,zB nag40 R,O.ca (r':= .h 3) [3] [(0,rwI n)] (some 4) (y5s d) cf73 R R Z R R R R ⟨⟨_,R,I4⟩,trivial⟩ I3 R,O.faP yhT Z R R,O.faP yhS Z R R,O.lg (l':=(lx45 p0.1.2)) ag45 Z R (.B R) R R R,O.caY (r':= .g [lH 4,lI b.2.1,lH 5,lH 6]) [4,5,6] [(0,rwI b.1),(1,rwI b.2.2.1),(2,ROW qT 112 b.2.2.2)] (some 7) (y8x e) cf72 R R Z R R ⟨⟨R,.hr R,trivial⟩,⟨R,LnL.rf⟩,trivial⟩ R ⟨.row flr3,.row flr3,.row y5c,trivial⟩ (fun _ _ _ _ h=>h) ⟨⟨_,R,I4⟩,⟨_,R,I4⟩,⟨_,R,I4⟩,trivial⟩ I3 R,O.st ag60.sz Z R R R R R,trivial⟩ (by kernel_rfl) R ?_;refine .seqN (.seq ?_);refine .sub (τ:=⟨[(3,.q 2 0),(2,.q 1 0),(1,.q 0 0)],[(2,.bx 60 [lN,lI 0,lN,lN]),(1,.bx 60 [lH 4,lI b.2.1,lH 5,lH 6]),(4,rwI b.1),(5,rwI b.2.2.1),(6,ROW qT 112 b.2.2.2),(0,.bx 93 (lx93 p0))],7⟩) ?_ [] R;refine bS hm fun o f hm=>bS hm fun p i hm=>bS hm fun c j hm=>?_;refine .drg 12 [(7,[]),(7,[oT]),(7,[oT,oT]),(7,tT 3),(7,[]),(7,[oF,oF,oF,oF,oT]),(8,tT 6),(7,[]),(7,[oF,oF,oF,oF,oF,oF,oF,oT]),(7,[oF,oF,oF,oF,oF,oF,oF,oT,oT]),(9,tT 10),(12,tT 11)] [_,_,_,_,_,_,_,_,_,_,_,_] ⟨[(3,.q 2 0),(2,.q 1 0),(1,.q 0 0)],[(2,.bx 60 [lH 9,lI c.2.1,lH 10,lH 11]),(9,rwI c.1),(10,rwI c.2.2.1),(11,ROW qT 112 c.2.2.2),(1,.bx 60 [lH 4,lI b.2.1,lH 5,lH 6]),(4,rwI b.1),(5,rwI b.2.2.1),(6,ROW qT 112 b.2.2.2),(0,.bx 93 (lx93 p0))],12⟩ ⟨O.faP yhU Z R R,O.faP yhR Z R R,zB nag40 R,O.ca (r':= .h 7) [7] [(0,rwI o)] (some 8) (y5s f) cf73 R R Z R R R R ⟨⟨_,R,I4⟩,trivial⟩ I3 R,O.faP yI Z R R,zB nag26 R,O.caY (r':= .h 8) [8] [(0,rwI p)] (some 9) (y8v i) cf162 R R Z R R ⟨⟨R,.hr R,trivial⟩,⟨R,.hr R,trivial⟩,trivial⟩ R ⟨.row flr3,trivial⟩ (fun _ _ _ _ h=>h) ⟨⟨_,R,I4⟩,trivial⟩ I3 R,O.faP yhU Z R R,O.faP yhS Z R R,O.lg (l':=(lx45 p0.2.1.2)) ag45 Z R (.B R) R R R,O.caY (r':= .g [lH 9,lI c.2.1,lH 10,lH 11]) [9,10,11] [(0,rwI c.1),(1,rwI c.2.2.1),(2,ROW qT 112 c.2.2.2)] (some 12) (y8x j) cf72 R R Z R R ⟨⟨R,.hr R,trivial⟩,⟨R,LnL.rf⟩,trivial⟩ R ⟨.row flr3,.row flr3,.row y5c,trivial⟩ (fun _ _ _ _ h=>h) ⟨⟨_,R,I4⟩,⟨_,R,I4⟩,⟨_,R,I4⟩,trivial⟩ I3 R,O.st ag60.sz Z R R R R R,trivial⟩ (by kernel_rfl) R ?_;refine .seqN (.seq ?_);refine .sub (τ:=⟨[(3,.q 2 0),(2,.q 1 0),(1,.q 0 0)],[(2,.bx 60 [lH 9,lI c.2.1,lH 10,lH 11]),(9,rwI c.1),(10,rwI c.2.2.1),(11,ROW qT 112 c.2.2.2),(1,.bx 60 [lH 4,lI b.2.1,lH 5,lH 6]),(4,rwI b.1),(5,rwI b.2.2.1),(6,ROW qT 112 b.2.2.2),(0,.bx 93 (lx93 p0))],12⟩) ?_ [] R;refine bS hm fun m k hm=>?_;refine .drd 13 [(12,[],[]),(12,[],[1]),(12,[],[]),(12,[oF,oF,oT],[]),(12,[oF,oF,oT,oT],[]),(13,tA 1 (fA 1 (tT 3)),[]),(13,tT 6,[]),(13,tT 7,[])] [_,_,_,_,_,_,_,_] ⟨[(4,.h 12),(3,.q 2 0),(2,.q 1 0)],[(12,rwI m),(2,.bx 60 [lH 9,lI c.2.1,lH 10,lH 11]),(9,rwI c.1),(10,rwI c.2.2.1),(11,ROW qT 112 c.2.2.2),(1,.bx 60 [lH 4,lI b.2.1,lH 5,lH 6]),(4,rwI b.1),(5,rwI b.2.2.1),(6,ROW qT 112 b.2.2.2)],13⟩ ⟨O.lg (l':=[lH 4,lI b.2.1,lH 5,lH 6]) ag60 Z R (.B R) R R R,O.lg (l':=[lH 9,lI c.2.1,lH 10,lH 11]) ag60 Z R (.B R) R R R,O.faP ykY Z R R,zB nag40 R,O.ca (r':= .h 12) [12] [(0,rwI m)] (some 13) (y5s k) cf73 R R Z R R R R ⟨⟨_,R,I4⟩,trivial⟩ I3 R,O.st ag60.sz Z R R R R R,O.st ag60.sz Z R R R R R,O.as Z R R,trivial⟩ (by kernel_rfl) R ?_
 refine .seqN (.ret ?_);cases hm;exact .rr [4,5,6,9,10,11,12] results190 (.cell R R ag60 R (.cell R R ag60 R (.tmp R .nil))) R I3 ⟨⟨_,R,I4⟩,⟨_,R,I4⟩,⟨_,R,I4⟩,⟨_,R,I4⟩,⟨_,R,I4⟩,⟨_,R,I4⟩,⟨_,R,I4⟩,trivial⟩
def y5a(p0:AutT)(p1:Int)(p2:Int)(a:Int):Option (Int⊕(Unit⊕Int)):=
 if decide (a<(p0.2.2.2.length:Int)) then
  (idx p0.2.2.2 a).bind fun c=>
  (if (c.1==p1) then
   (idx p0.2.2.2 a).bind fun e=>
   some (e.2.1==p2)
  else
   some false).bind fun b=>
  if b then
   (idx p0.2.2.2 a).bind fun d=>
   some (.inr (.inr (d.2.2)))
  else
   some (.inl (W (a+1)))
 else
  some (.inr (.inl ()))
def y4K(p0:AutT)(p1:Int)(p2:Int):Option Int:=
 (iter (y5a p0 p1 p2) 0).bind fun b=>
 match b with
 | .inl c=>
  some (-1)
 | .inr (a)=>
  some a
theorem y8y{p0:AutT}{p1:Int}{p2:Int}{r:Int}(hm:y4K p0 p1 p2=some r):
  F0 191 [.a (lx60 p0),.i p1,.i p2] [] (.i r) []:=by
 refine Fw.mk2 func191 ntmps191 R (fun C=>?_) R;refine .sr (.bo 0 R (.an R (.seq (.sr (.an R (.block (bS hm fun u s hm=>?_)))))));refine .cutU (z:= .exit 0) (fun f=> .inl f=u) (fun (f:Unit)=>⟨[],[],0⟩) ?_ fun n=>?_
 ·rintro f rfl;dsimp only at hm;refine .blkE (.seqN (.sr (.an R (.ret ?_))));cases hm;exact .r0 results191 (.tmp R .nil) R R
 refine .cutU (z:= .ret) (fun c=> .inr (c)=u) (fun (c:Int)=>⟨[(6,.i c)],[],0⟩) ?_ fun o=>?_
 ·rintro c rfl;dsimp only at hm;refine .blkR (.seqR ?_);cases hm;exact .r0 results191 (.tmp R .nil) R R
 refine .iter (fun (e:Int)=>⟨[(7,.i e),(3,.q 0 0),(1,.i p1),(2,.i p2)],[(0,.bx 60 (lx60 p0))],1⟩) s [] R ?_;intro e w hm t j;refine .seq (.sv R (.fa yF R (.lb nag27 R (.ln sl27 R (.bi R (.ns ?_))))));refine .cc hm R (fun hm=>?_) fun hm=> .xx ((n _ (j _ (oj hm))).s0 R);refine .sn (.seq (.block (.sr (.fa yF R (.lb nag27 R (.mv R (bS hm fun x k hm=> .ix sl27 k R (.fe y1A R (.le nag3 lv112 R (.mv R (.bi R (.mv R (bS hm fun p eb16 hm=>?_)))))))))))));refine .cut 9 (fun (g:Bool)=>p=g) (fun g=>⟨[(32,.b g),(7,.i e),(3,.q 0 0),(1,.i p1),(2,.i p2)],[(0,.bx 60 (lx60 p0))],1⟩) ?_ ?_
 ·rintro _ rfl;exact .ns (.cc hm R (fun hm=> .sr (.fa yF R (.lb nag27 R (.mv R (bS hm fun y l hm=> .ix sl27 l R (.fe y3l R (.le nag3 lv112 R (.an R (.ret (.blkR (.seqR (.seqR ((o _ (j _ (oj hm))).s0 R))))))))))))) fun hm=> .skip (.blkN (.seqN (.reg (.mv R (.bi R (.sa R (.nil ((t _ (oj hm)).s0 R)))))))))
 ·intro h;rcases ifS eb16 with ⟨hc,hm⟩|⟨hc,hm⟩
  ·refine .know (d:=23) R hc ?_;exact .fag yF R (.lbg nag27 R (.mg R (bS hm fun v m hm=> .op (O.ix sl27 (Gu.mk R R) R R m R) R (.op (O.faE y3F (Gu.mk R R) R R) R (.leg nag3 lv112 R (.mg R (.bg R (.pT R ((h (v.2.1==p2) (oj hm)).s0 R)))))))))
  ·refine .know (d:=23) R hc ?_;exact .s2 R R (.s2 R R (.s2 R R (.s2 R R (.pF R ((h false (oj hm)).s0 R)))))
def y7p(p0:AutT)(p1:LI)(p2:LI):Option Int:=
 (y1J p0).bind fun a=>
 if(a != 0) then
  some a
 else
  (y1H p1 p0.2.1).bind fun b=>
  if(b != 0) then
   some b
  else
   (y1H p2 32).bind fun c=>
   some c
theorem ycf{p0:AutT}{p1:LI}{p2:LI}{r:Int}(hm:y7p p0 p1 p2=some r):
    F0 265 [.a (lx60 p0),.f qI p1,.f qI p2] [] (.i r) []:=by
  refine Fw.mk2 func265 ntmps265 R (fun C=>?_) R;refine .sr (.bo 0 R (.an R (.seq (.sr (.lg (lx60 p0) ag60 R (.B R) R (bS hm fun e b hm=> .c0 (y6Q b) cf114 R (.an R (.sv R (.bi R (.ns ?_))))))))));refine .cc hm R (fun hm=>?_) fun hm=>?_
  ·refine .sv R (.an R (.ret (.seqR ?_)));cases hm;exact .r0 results265 (.tmp R .nil) R R
  ·refine .sn (.seq (.sv R (.fa y1r R (.lb nag3 R (bS hm fun g c hm=> .c0 (y4e c) cf111 R (.an R (.sv R (.bi R (.ns ?_)))))))));refine .cc hm R (fun hm=>?_) fun hm=>?_
   ·refine .sv R (.an R (.ret (.seqR ?_)));cases hm;exact .r0 results265 (.tmp R .nil) R R
   ·refine .sn (.sv R (bS hm fun h d hm=> .c0 (y4e d) cf111 R (.an R (.ret ?_))));cases hm;exact .r0 results265 (.tmp R .nil) R R
def y6B(p0:AutT)(a:Int×(List (Int×LI))):Option ((Int×(List (Int×LI)))⊕(List (Int×LI))):=
 if decide (a.1<(p0.2.2.2.length:Int)) then
  (idx p0.2.2.2 a.1).bind fun b=>
  (app ((kget a.2 b.2.2).getD []) ([b.1]:LI)).bind fun c=>
  some (.inl (W (a.1+1),(kput a.2 b.2.2 c)))
 else
  some (.inr a.2)
def y6C(p1:LI)(a:Int×List Bool):Option ((Int×List Bool)⊕(List Bool)):=
 if decide (a.1<(p1.length:Int)) then
  (idx p1 a.1).bind fun b=>
  (idx a.2 b).bind fun d=>
  (upd a.2 b false).bind fun c=>
  some (.inl (W (a.1+1),c))
 else
  some (.inr a.2)
def y4L(c:List Bool)(a:Int×List Bool):Option ((Int×List Bool)⊕(List Bool)):=
 if decide (a.1<(c.length:Int)) then
  (idx a.2 a.1).bind fun d=>
  (upd a.2 a.1 true).bind fun b=>
  some (.inl (W (a.1+1),b))
 else
  some (.inr a.2)
def y7q(p0:AutT)(p1:LI)(p2:LI):Option (AutT×LI×(List (Int×LI))×List Bool):=
 (mkL p0.2.1 false).bind fun c=>
 (iter (y4L c) (0,c)).bind fun d=>
 (iter (y6C p1) (0,d)).bind fun a=>
 (iter (y6B p0) (0,([]:List (Int×LI)))).bind fun b=>
 some (p0,p2,b,a)
theorem ycg{p0:AutT}{p1:LI}{p2:LI}{r:(AutT×LI×(List (Int×LI))×List Bool)}(hm:y7q p0 p1 p2=some r):
  F0 298 [.a (lx60 p0),.f qI p1,.f qI p2] [] (.q 0 0) [.bx 377 [lF qI r.1.1,lI r.1.2.1,lF qI r.1.2.2.1,lF qT r.1.2.2.2,lF qI r.2.1,lM kvI (rL qI) r.2.2.1,lH 1],ROW rB 4 r.2.2.2]:=by
 refine Fw.mk2 func298 ntmps298 R (fun C=>?_) R;refine .sr (.bo 0 R (.an R (.seq ?_)));refine .sub (τ:=⟨[(3,.q 0 0),(1,.f qI p1),(2,.f qI p2)],[(0,.bx 60 (lx60 p0))],1⟩) ?_ [] R;refine bS hm fun U Q hm=>?_;refine .drw [(1,[]),(1,[]),(1,[]),(1,[]),(1,[oF,oF,oF,oT]),(1,[oF,oF,oF,oT,oT]),(3,tT 6),(3,tT 7),(4,tT 8)] [_,_,_,_,_,_,_,_,_] ⟨[(7,.q 3 0),(3,.q 0 0),(1,.f qI p1)],[(3,.bx 377 [lF qI p0.1,lI p0.2.1,lF qI p0.2.2.1,lF qT p0.2.2.2,lF qI p2,lH 1,lH 2]),(1,MTB flr3 3 none ([]:List (Int×LI))),(2,ROW rB 4 U),(0,.bx 60 (lx60 p0))],4⟩ ⟨O.lg (l':=(lx60 p0)) ag60 Z R (.B R) R R R,zM R,O.mkM flr3 3 1 R Z R,O.faP y1r Z R R,zB nag3 R,O.mk (z:=false) 2 underlying177 zr4 R R Z R R Q R,O.bu (l:=[lF qI p0.1,lI p0.2.1,lF qI p0.2.2.1,lF qT p0.2.2.2,lF qI p2,lH 1,lH 2]) pl377 R Z R R R,O.box 3 R Z R R R,O.as Z R R,trivial⟩ (by kernel_rfl) R ?_;refine .seqN (.seq (.sv R (.op (O.nc .B Z R R) R (.fa y6Z R (.lb y2r R (.lh sl177 R (.mv R (.ns (.block (bS hm fun K P hm=>?_))))))))));refine .cut1 (z:= .exit 0) K (fun (K:List Bool)=>⟨[(7,.q 0 0),(3,.q 3 0),(1,.f qI p1)],[(0,.bx 377 [lF qI p0.1,lI p0.2.1,lF qI p0.2.2.1,lF qT p0.2.2.2,lF qI p2,lH 1,lH 2]),(1,MTB flr3 3 none ([]:List (Int×LI))),(2,ROW rB 4 K),(3,.bx 60 (lx60 p0))],4⟩) ?_ fun L=>?_
 ·skip
  refine .blkE (.seqN (.seq (.sv R (.ln sl26 R (.mv R (.ns (.block (bS hm fun h u hm=>?_))))))));refine .cut1 (z:= .exit 2) h (fun (h:List Bool)=>⟨[(7,.q 0 0),(3,.q 3 0)],[(0,.bx 377 [lF qI p0.1,lI p0.2.1,lF qI p0.2.2.1,lF qT p0.2.2.2,lF qI p2,lH 1,lH 2]),(1,MTB flr3 3 none ([]:List (Int×LI))),(2,ROW rB 4 h),(3,.bx 60 (lx60 p0))],4⟩) ?_ fun M=>?_
  ·skip
   refine .blkE (.seqN (.seq (.sr (.fa yF R (.lb nag27 R (.ln sl27 R (.mv R (.ns (.block (bS hm fun s v hm=>?_))))))))));refine .cut1 (z:= .exit 4) s (fun (s:(List (Int×LI)))=>⟨[(7,.q 0 0)],[(0,.bx 377 [lF qI p0.1,lI p0.2.1,lF qI p0.2.2.1,lF qT p0.2.2.2,lF qI p2,lH 1,lH 2]),(1,MTB flr3 3 none s),(2,ROW rB 4 h)],3⟩) ?_ fun N=>?_
   ·skip
    refine .blkE (.seqN (.sv R (.an R (.ret (.fz 1 [] [0] R R fMt R R ?_)))));cases hm;exact .rr [0,2] results298 (.tmp R .nil) R I3 ⟨⟨_,R,I4⟩,⟨_,R,I4⟩,trivial⟩
   refine .iter (fun (g:Int×(List (Int×LI)))=>⟨[(52,.i g.1),(51,.i p0.2.2.2.length),(50,.f qT p0.2.2.2),(7,.q 0 0)],[(0,.bx 377 [lF qI p0.1,lI p0.2.1,lF qI p0.2.2.1,lF qT p0.2.2.2,lF qI p2,lH 1,lH 2]),(1,MTB flr3 3 none g.2),(2,ROW rB 4 h)],3⟩) v [] R ?_;intro g X hm J H;refine .sr (.bi R (.ns (.seq ?_)));refine .cc hm R (fun hm=>?_) fun hm=> .xx ((N _ (H _ (oj hm))).s0 R);refine .sn (.seq (.block (.sr (bS hm fun d w hm=> .ix sl27 w R (.lg [lI d.1,lI d.2.1,lI d.2.2] ag112 R (.E lv112) R (.al 3 zz112 R (.st ag112.sz R (.ns ?_))))))));refine .sub (τ:=⟨[(12,.q 3 0),(52,.i g.1),(51,.i p0.2.2.2.length),(50,.f qT p0.2.2.2),(7,.q 0 0)],[(3,.bx 112 [lI d.1,lI d.2.1,lI d.2.2]),(0,.bx 377 [lF qI p0.1,lI p0.2.1,lF qI p0.2.2.1,lF qT p0.2.2.2,lF qI p2,lH 1,lH 2]),(1,MTB flr3 3 none g.2),(2,ROW rB 4 h)],4⟩) ?_ [] R;refine bS hm fun V x hm=>?_;refine .drz 6 [(12,1),(12,4),(16,5)] [(4,[],[1],[]),(4,[oT],[1],[]),(4,[oT,oT],[1],[]),(4,tT 3,[1],[]),(4,[],[1],[]),(4,[oF,oF,oF,oF,oT],[1],[]),(4,[],[],[]),(4,[oF,oF,oF,oF,oF,oF,oT],[],[]),(4,[oF,oF,oF,oF,oF,oF,oT,oT],[],[]),(4,fA 6 (tT 3),[],[]),(4,[],[],[]),(4,[oF,oF,oF,oF,oF,oF,oF,oF,oF,oF,oT],[],[]),(4,fA 6 (tT 6),[],[]),(4,[],[1],[]),(4,[oF,oF,oF,oF,oF,oF,oF,oF,oF,oF,oF,oF,oF,oT],[1],[]),(4,[oF,oF,oF,oF,oF,oF,oF,oF,oF,oF,oF,oF,oF,oT,oT],[1],[]),(5,fA 6 (tT 10),[],[]),(6,tT 17,[],[(12,4)])] [_,_,_,_,_,_,_,_,_,_,_,_,_,_,_,_,_,_] ⟨[(52,.i g.1),(51,.i p0.2.2.2.length),(50,.f qT p0.2.2.2),(7,.q 0 0)],[(0,.bx 377 [lF qI p0.1,lI p0.2.1,lF qI p0.2.2.1,lF qT p0.2.2.2,lF qI p2,lH 1,lH 2]),(1,MTB flr3 3 none (kput g.2 d.2.2 V)),(2,ROW rB 4 h)],6⟩ ⟨zM R,O.nc .B Z R R,O.faP yel Z R R,zB yfz R,O.faP y3l Z R R,zB nag3 R,zM R,O.nc .B Z R R,O.faP yel Z R R,zB yfz R,O.faP y3l Z R R,zB nag3 R,O.luM (k:=d.2.2) 4 ydJ R Z R R (.o R) R,O.faP y1A Z R R,zB nag3 R,O.bsF (r:=qI) (zs:=([d.1]:LI)) bs26 R R Z R R R (.c .k .n) R R R,O.ap 5 underlying26 el3 R R Z R R (.fr R) x R,O.muM (k:=d.2.2) ydJ Z R R (.o R) R R R (fun _ e=>by cases e;rfl),trivial⟩ (by kernel_rfl) R ?_;exact .blkN (.seqN (.reg (.bi R (.mv R (.nil ((J _ (oj hm)).s0 R))))))
  refine .iter (fun (j:Int×List Bool)=>⟨[(38,.i j.1),(37,.i p1.length),(36,.f qI p1),(7,.q 0 0),(3,.q 3 0)],[(0,.bx 377 [lF qI p0.1,lI p0.2.1,lF qI p0.2.2.1,lF qT p0.2.2.2,lF qI p2,lH 1,lH 2]),(1,MTB flr3 3 none ([]:List (Int×LI))),(2,ROW rB 4 j.2),(3,.bx 60 (lx60 p0))],4⟩) u [] R ?_;intro j W hm I G;refine .sr (.bi R (.ns (.seq ?_)));exact .cc hm R (fun hm=> .sn (.seq (.block (.sr (bS hm fun a0 y hm=> .ix sl26 y R (.le nag3 lv3 R (.an R (.reg (.mv R (.op (O.nc .B Z R R) R (.fa y6Z R (.lb y2r R (.mv R (bS hm fun a1 m hm=> .op (O.ir sl177 Z R R R m R) R (bS hm fun a2 D hm=> .op (O.su (z:=false) nag4.sz Z R R m D R R R lv4 R .b) R (.nil (.blkN (.seqN (.reg (.bi R (.mv R (.nil ((I _ (oj hm)).s0 R))))))))))))))))))))))) fun hm=> .xx ((M _ (G _ (oj hm))).s0 R)
 refine .iter (fun (t:Int×List Bool)=>⟨[(26,.i t.1),(25,.i U.length),(7,.q 0 0),(3,.q 3 0),(1,.f qI p1)],[(0,.bx 377 [lF qI p0.1,lI p0.2.1,lF qI p0.2.2.1,lF qT p0.2.2.2,lF qI p2,lH 1,lH 2]),(1,MTB flr3 3 none ([]:List (Int×LI))),(2,ROW rB 4 t.2),(3,.bx 60 (lx60 p0))],4⟩) P [(0,3),(3,0)] R ?_;intro t Y hm T S;refine .sr (.bi R (.ns (.seq ?_)));exact .cc hm R (fun hm=> .sn (.seq (.block (.sv R (.an R (.reg (.mv R (.op (O.nc .B Z R R) R (.fa y6Z R (.lb y2r R (.mv R (bS hm fun a3 p hm=> .op (O.ir sl177 Z R R R p R) R (bS hm fun a4 F hm=> .op (O.su (z:=true) nag4.sz Z R R p F R R R lv4 R .b) R (.nil (.blkN (.seqN (.reg (.bi R (.mv R (.nil ((T _ (oj hm)).s0 R))))))))))))))))))))) fun hm=> .xx ((L _ (S _ (oj hm))).s0 R)
def y1q(a:Int×(List (Int×Int×Int×Int)))(b:List (Int×Int×Int×Int)):Option ((Int×(List (Int×Int×Int×Int)))⊕(List (Int×Int×Int×Int))):=
 some (.inl (W (a.1+1),b))
def y2i(p1:Int)(a:Int×(List (Int×Int×Int×Int)))(b:Int×Int×Int)(c:Bool):Option ((Int×(List (Int×Int×Int×Int)))⊕(List (Int×Int×Int×Int))):=
 if c then
  y1q a a.2
 else
  (app a.2 ([(b.1,p1,2,b.2.1)]:List (Int×Int×Int×Int))).bind fun d=>
  y1q a d
def yL(p1:Int)(a:Int×(List (Int×Int×Int×Int)))(b:Int×Int×Int)(c:Bool):Option ((Int×(List (Int×Int×Int×Int)))⊕(List (Int×Int×Int×Int))):=
 if c then
  y1q a a.2
 else
  if decide ((a.2.length:Int)>0) then
   (idx a.2 (W ((a.2.length:Int)-1))).bind fun d=>
   y2i p1 a b (d.1==b.1)
  else
   y2i p1 a b false
def y3A(p0:AutT×LI×(List (Int×LI))×List Bool)(p1:Int)(a:Int×(List (Int×Int×Int×Int))):Option ((Int×(List (Int×Int×Int×Int)))⊕(List (Int×Int×Int×Int))):=
 if decide (a.1<(p0.1.2.2.2.length:Int)) then
  (idx p0.1.2.2.2 a.1).bind fun b=>
  (idx p0.2.2.2 b.1).bind fun d=>
  if(!d) then
   yL p1 a b true
  else
   (idx p0.2.2.2 b.2.2).bind fun e=>
   if e then
    yL p1 a b true
   else
    (yf p0.2.1 b.2.1).bind fun c=>
    yL p1 a b (!c)
 else
  some (.inr a.2)
def y4M(p0:AutT×LI×(List (Int×LI))×List Bool)(p1:Int):Option (List (Int×Int×Int×Int)):=
 (iter (y3A p0 p1) (0,([]:List (Int×Int×Int×Int)))).bind fun a=>
 some a
theorem ya6{p0:AutT×LI×(List (Int×LI))×List Bool}{p1:Int}{r:(List (Int×Int×Int×Int))}(hm:y4M p0 p1=some r):
  F0 317 [.o (lQ 377 (lx377 p0) 0),.i p1] [] (.h 0) [ROW rE374 374 r]:=by
 refine Fw.mk2 func317 ntmps317 R (fun C=>?_) R;refine .sr (.an R (.sr (.an R (.seq (.sv R (.op (O.nc .Q Z R R) R (.fq y8I R (.fq yF R (.lq nag27 R (.ln sl27 R (.mv R (.ns (.block (bS hm fun G H hm=>?_))))))))))))));refine .cut1 (z:= .exit 0) G (fun (G:(List (Int×Int×Int×Int)))=>⟨[(5,.h 0)],[(0,ROW rE374 374 G)],1⟩) ?_ fun S=>?_
 ·skip
  refine .blkE (.seqN (.sv R (.an R (.ret ?_))));cases hm;exact .rr [0] results317 (.tmp R .nil) R I3 ⟨⟨_,R,I4⟩,trivial⟩
 refine .nlg rE374 374 5 0 R R (.iter (fun (d:Int×(List (Int×Int×Int×Int)))=>⟨[(15,.i d.1),(14,.i p0.1.2.2.2.length),(13,.f qT p0.1.2.2.2),(5,.h 0),(0,.o (lQ 377 (lx377 p0) 0)),(1,.i p1)],[(0,ROW rE374 374 d.2)],1⟩) H [] R ?_);intro d e hm P N;refine .sr (.bi R (.ns (.seq ?_)));refine .cc hm R (fun hm=>?_) fun hm=> .xx ((S _ (N _ (oj hm))).s0 R);refine .sn ?_;refine .join1 (fun (v:List (Int×Int×Int×Int))=>y1q d v=some e) (fun v=>⟨[(15,.i d.1),(14,.i p0.1.2.2.2.length),(13,.f qT p0.1.2.2.2),(5,.h 0),(0,.o (lQ 377 (lx377 p0) 0)),(1,.i p1)],[(0,ROW rE374 374 v)],1⟩) ?_ ?_
 ·intro v hm;exact .reg (.bi R (.mv R (.nil ((P _ (oj hm)).s0 R))))
 ·intro g;refine .block (.sr (bS hm fun a J hm=> .ix sl27 J R (.lg [lI a.1,lI a.2.1,lI a.2.2] ag112 R (.E lv112) R (.al 1 zz112 R (.st ag112.sz R (.ns (.seq ?_)))))));refine .join1 (fun (t:Bool)=>yL p1 d a t=some e) (fun t=>⟨[(47,.b t),(7,.q 0 0),(15,.i d.1),(14,.i p0.1.2.2.2.length),(13,.f qT p0.1.2.2.2),(5,.h 1),(0,.o (lQ 377 (lx377 p0) 0)),(1,.i p1)],[(0,.bx 112 [lI a.1,lI a.2.1,lI a.2.2]),(1,ROW rE374 374 d.2)],2⟩) ?_ ?_
  ·intro t hm;refine .cc hm R (fun hm=> .exit (.seqX (.blkE ((g _ hm).sub [(0,1)] R)))) fun hm=>?_;refine .sn (.seq (.sv R (.lh sl268 R (.an R ?_))));refine .join1 (fun (u:Bool)=>y2i p1 d a u=some e) (fun u=>⟨[(62,.b u),(7,.q 0 0),(15,.i d.1),(14,.i p0.1.2.2.2.length),(13,.f qT p0.1.2.2.2),(5,.h 1),(0,.o (lQ 377 (lx377 p0) 0)),(1,.i p1)],[(0,.bx 112 [lI a.1,lI a.2.1,lI a.2.2]),(1,ROW rE374 374 d.2)],2⟩) ?_ ?_
   ·intro u hm;exact .cc hm R (fun hm=> .exit (.seqX (.blkE ((g _ hm).sub [(0,1)] R)))) fun hm=> .sn (.reg (.mv R (.fa y1A R (.lb nag3 R (.mv R (.fa y3F R (.lb nag3 R (.bu [lI a.1,lI p1,lI 2,lI a.2.1] pl374 R (.op (O.bsF (r:=rE374) (zs:=([(a.1,p1,2,a.2.1)]:List (Int×Int×Int×Int))) bs268 R R Z R R R (.c (.p .k (.p .k (.p .k .k))) .n) R R R) R (bS hm fun V K hm=> .ap 2 underlying268 el374 R R (.fr R) K (.sa R (.nil (.blkN ((g _ hm).sub [(0,2)] R))))))))))))))
   ·intro w;refine .sub (τ:=⟨[(8,.i d.2.length),(7,.q 0 0),(15,.i d.1),(14,.i p0.1.2.2.2.length),(13,.f qT p0.1.2.2.2),(5,.h 1),(0,.o (lQ 377 (lx377 p0) 0)),(1,.i p1)],[(0,.bx 112 [lI a.1,lI a.2.1,lI a.2.2]),(1,ROW rE374 374 d.2)],2⟩) ?_ [] R;refine .drP 2 [(2,[]),(2,[oT])] [_,_] ⟨zM R,O.bi Z R R R R,trivial⟩ fun y=>?_;rcases ifS hm with ⟨l,hm⟩|⟨l,hm⟩
    ·skip
     exact bS hm fun U x hm=> .drF y [(2,[oT,oT]),(2,tT 3),(2,tT 3),(2,tA 3 (fA 1 (tT 1))),(2,tT 6),(2,tT 7),(2,tT 8),(2,tT 3),(2,tA 3 (fA 6 (tT 1))),(2,tT 11),(2,tT 12)] [_,_,_,_,_,_,_,_,_,_,_] ⟨[(62,.b (U.1==a.1)),(7,.q 0 0),(15,.i d.1),(14,.i p0.1.2.2.2.length),(13,.f qT p0.1.2.2.2),(5,.h 1),(0,.o (lQ 377 (lx377 p0) 0)),(1,.i p1)],[(0,.bx 112 [lI a.1,lI a.2.1,lI a.2.2]),(1,ROW rE374 374 d.2)],2⟩ ⟨O.kn (zM R) l,O.mv (Gu.mk R R) R R,O.mv (Gu.mk R R) R R,O.bi (Gu.mk R R) R R R R,O.ir sl268 (Gu.mk R R) R R R x R,O.faR ygA (Gu.mk R R) R R,O.ld nag3 (Gu.mk R R) R (.R R x lv374) R R,O.faP y1A (Gu.mk R R) R R,O.ld nag3 (Gu.mk R R) R (.B R) R R,O.bi (Gu.mk R R) R R R R,O.pkT Z R R R R,trivial⟩ (by kernel_rfl) R ((w _ hm).s0 R)
    ·skip
     exact .drF y [(2,[oT,oT]),(2,tT 3),(2,tT 3),(2,tA 3 (fA 1 (tT 1))),(2,tT 6),(2,tT 7),(2,tT 8),(2,tT 3),(2,tA 3 (fA 6 (tT 1))),(2,tT 11),(2,tT 12)] [_,_,_,_,_,_,_,_,_,_,_] ⟨[(62,.b false),(7,.q 0 0),(15,.i d.1),(14,.i p0.1.2.2.2.length),(13,.f qT p0.1.2.2.2),(5,.h 1),(0,.o (lQ 377 (lx377 p0) 0)),(1,.i p1)],[(0,.bx 112 [lI a.1,lI a.2.1,lI a.2.2]),(1,ROW rE374 374 d.2)],2⟩ ⟨O.kn (zM R) l,zK R,zK R,zK R,zK R,zK R,zK R,zK R,zK R,zK R,O.pkF Z R R R R,trivial⟩ (by kernel_rfl) R ((w _ hm).s0 R)
  ·intro j;refine .sub (τ:=⟨[(7,.q 1 0),(15,.i d.1),(14,.i p0.1.2.2.2.length),(13,.f qT p0.1.2.2.2),(5,.h 0),(0,.o (lQ 377 (lx377 p0) 0)),(1,.i p1)],[(1,.bx 112 [lI a.1,lI a.2.1,lI a.2.2]),(0,ROW rE374 374 d.2)],2⟩) ?_ [] R;refine bS hm fun W L hm=> .drP 9 [(2,[]),(2,[oT]),(2,[oT,oT]),(2,tT 3),(2,[]),(2,[oF,oF,oF,oF,oT]),(2,tT 6),(2,tT 7),(2,tT 8)] [_,_,_,_,_,_,_,_,_] ⟨zM R,O.nc .Q Z R R,O.faQ y6Z Z R R,O.ld y2r Z R .Q R R,O.faP y1A Z R R,zB nag3 R,O.ix sl177 Z R R L R,O.ld nag4 Z R (.E lv4) R R,O.not Z R R,trivial⟩ fun D=>?_;rcases ifS hm with ⟨m,hm⟩|⟨m,hm⟩
   ·skip
    exact .drF D [(2,tT 9),(2,tT 10),(2,tT 11),(2,tT 12),(2,tT 13),(2,tT 10),(2,tA 10 (fA 4 (tT 1))),(2,tT 16),(2,tT 17),(2,tT 18),(2,tT 19),(2,tT 20),(2,tT 21),(2,tT 22),(2,tT 23),(2,tT 20),(2,tA 20 (fA 4 (tT 1))),(2,tT 26),(2,tT 27),(2,tT 28)] [_,_,_,_,_,_,_,_,_,_,_,_,_,_,_,_,_,_,_,_] ⟨[(47,.b true),(7,.q 1 0),(15,.i d.1),(14,.i p0.1.2.2.2.length),(13,.f qT p0.1.2.2.2),(5,.h 0),(0,.o (lQ 377 (lx377 p0) 0)),(1,.i p1)],[(1,.bx 112 [lI a.1,lI a.2.1,lI a.2.2]),(0,ROW rE374 374 d.2)],2⟩ ⟨O.kn (zM R) m,zK R,zK R,zK R,zK R,zK R,zK R,zK R,zK R,O.pkT Z R R R R,zM R,zK R,zK R,zK R,zK R,zK R,zK R,zK R,zK R,O.pkT Z R R R R,trivial⟩ (by kernel_rfl) R ((j _ hm).sub [(0,1),(1,0)] R)
   ·skip
    refine bS hm fun X M hm=> .drX D 19 [(2,tT 9),(2,tT 10),(2,tT 11),(2,tT 12),(2,tT 13),(2,tT 10),(2,tA 10 (fA 4 (tT 1))),(2,tT 16),(2,tT 17),(2,tT 18)] [_,_,_,_,_,_,_,_,_,_] ⟨O.kn (zM R) m,O.mv (Gu.mk R R) R R,O.nc .Q (Gu.mk R R) R R,O.faQ y6Z (Gu.mk R R) R R,O.ld y2r (Gu.mk R R) R .Q R R,O.faP y3l (Gu.mk R R) R R,O.ld nag3 (Gu.mk R R) R (.B R) R R,O.ix sl177 (Gu.mk R R) R R M R,O.ld nag4 (Gu.mk R R) R (.E lv4) R R,O.pkF Z R R R R,trivial⟩ (by kernel_rfl) fun F=>?_;rcases ifS hm with ⟨s,hm⟩|⟨s,hm⟩
    ·skip
     exact .drF F [(2,tT 19),(2,tT 20),(2,tT 21),(2,tT 22),(2,tT 23),(2,tT 20),(2,tA 20 (fA 4 (tT 1))),(2,tT 26),(2,tT 27),(2,tT 28)] [_,_,_,_,_,_,_,_,_,_] ⟨[(47,.b true),(7,.q 1 0),(15,.i d.1),(14,.i p0.1.2.2.2.length),(13,.f qT p0.1.2.2.2),(5,.h 0),(0,.o (lQ 377 (lx377 p0) 0)),(1,.i p1)],[(1,.bx 112 [lI a.1,lI a.2.1,lI a.2.2]),(0,ROW rE374 374 d.2)],2⟩ ⟨O.kn (zM R) s,zK R,zK R,zK R,zK R,zK R,zK R,zK R,zK R,O.pkT Z R R R R,trivial⟩ (by kernel_rfl) R ((j _ hm).sub [(0,1),(1,0)] R)
    ·skip
     exact bS hm fun T I hm=> .drF F [(2,tT 19),(2,tT 20),(2,tT 21),(2,tT 22),(2,tT 23),(2,tT 20),(2,tA 20 (fA 4 (tT 1))),(2,tT 26),(2,tT 27),(2,tT 28)] [_,_,_,_,_,_,_,_,_,_] ⟨[(47,.b (!T)),(7,.q 1 0),(15,.i d.1),(14,.i p0.1.2.2.2.length),(13,.f qT p0.1.2.2.2),(5,.h 0),(0,.o (lQ 377 (lx377 p0) 0)),(1,.i p1)],[(1,.bx 112 [lI a.1,lI a.2.1,lI a.2.2]),(0,ROW rE374 374 d.2)],2⟩ ⟨O.kn (zM R) s,O.mv (Gu.mk R R) R R,O.nc .Q (Gu.mk R R) R R,O.faQ yki (Gu.mk R R) R R,O.ld nag26 (Gu.mk R R) R .Q R R,O.faP y3F (Gu.mk R R) R R,O.ld nag3 (Gu.mk R R) R (.B R) R R,O.ca0 (yi I) cf41 R R (Gu.mk R R) R R R,O.not (Gu.mk R R) R R,O.pkF Z R R R R,trivial⟩ (by kernel_rfl) R ((j _ hm).sub [(0,1),(1,0)] R)
def y1j(c:Int×LI×LI)(a:LI)(b:LI):Option ((Int×LI×LI)⊕(LI×LI)):=
 some (.inl (W (c.1+1),a,b))
def y1k(p0:AutT×LI×(List (Int×LI))×List Bool)(e:Int×LI×LI)(c:Int)(a:Int×LI×LI):Option ((Int×LI×LI)⊕(LI×LI)):=
 if decide (a.1<(((kget p0.2.2.1 c).getD []).length:Int)) then
  (idx ((kget p0.2.2.1 c).getD []) a.1).bind fun b=>
  (idx p0.2.2.2 b).bind fun f=>
  (if f then
   (idx a.2.2 b).bind fun k=>
   some (decide (k<0))
  else
   some false).bind fun d=>
  if d then
   (idx a.2.1 e.1).bind fun g=>
   (idx a.2.2 g).bind fun h=>
   (idx a.2.2 b).bind fun l=>
   (upd a.2.2 b (W (h+1))).bind fun i=>
   (app a.2.1 ([b]:LI)).bind fun j=>
   y1j a j i
  else
   y1j a a.2.1 a.2.2
 else
  some (.inr a.2)
def y1l(p0:AutT×LI×(List (Int×LI))×List Bool)(a:Int×LI×LI):Option ((Int×LI×LI)⊕LI):=
 if decide (a.1<(a.2.1.length:Int)) then
  (idx a.2.1 a.1).bind fun c=>
  (iter (y1k p0 a c) (0,a.2)).bind fun b=>
  some (.inl (W (a.1+1),b))
 else
  some (.inr a.2.2)
def y1m(c:Int×LI×LI)(a:LI)(b:LI):Option ((Int×LI×LI)⊕(LI×LI)):=
 some (.inl (W (c.1+1),a,b))
def y1n(p0:AutT×LI×(List (Int×LI))×List Bool)(a:Int×LI×LI):Option ((Int×LI×LI)⊕(LI×LI)):=
 if decide (a.1<(p0.1.2.2.1.length:Int)) then
  (idx p0.1.2.2.1 a.1).bind fun b=>
  (idx p0.2.2.2 b).bind fun c=>
  if c then
   (idx a.2.2 b).bind fun f=>
   (upd a.2.2 b 0).bind fun d=>
   (app a.2.1 ([b]:LI)).bind fun e=>
   y1m a e d
  else
   y1m a a.2.1 a.2.2
 else
  some (.inr a.2)
def y1o(c:LI)(a:Int×LI):Option ((Int×LI)⊕LI):=
 if decide (a.1<(c.length:Int)) then
  (idx a.2 a.1).bind fun d=>
  (upd a.2 a.1 (-1)).bind fun b=>
  some (.inl (W (a.1+1),b))
 else
  some (.inr a.2)
def y1G(p0:AutT×LI×(List (Int×LI))×List Bool):Option LI:=
 (mkL p0.1.2.1 (0:Int)).bind fun c=>
 (iter (y1o c) (0,c)).bind fun d=>
 (iter (y1n p0) (0,([]:LI),d)).bind fun a=>
 (iter (y1l p0) (0,a)).bind fun b=>
 some b
theorem y6V{p0:AutT×LI×(List (Int×LI))×List Bool}{r:LI}(hm:y1G p0=some r):
  F0 302 [.o (lQ 377 (lx377 p0) 0)] [] (.h 0) [rwI r]:=by
 refine Fw.mk2 func302 ntmps302 R (fun C=>?_) R;refine .sr (.an R (.sv R (.op (O.nc .Q Z R R) R (.fq y8I R (.fq y1r R (.lq nag3 R (bS hm fun x1 b9 hm=> .op (O.mk (z:=(0:Int)) 0 underlying26 zr3 R R Z R R b9 R) R (.an R (.seq (.sv R (.lh sl26 R (.mv R (.ns (.block (bS hm fun o8 b8 hm=>?_)))))))))))))));refine .cut1 (z:= .exit 0) o8 (fun (o8:LI)=>⟨[(3,.h 0),(0,.o (lQ 377 (lx377 p0) 0))],[(0,rwI o8)],1⟩) ?_ fun b5=>?_
 ·skip
  refine .blkE (.seqN (.sr (.an R (.seq (.sv R (.op (O.nc .Q Z R R) R (.fq y8I R (.fq y5D R (.lq nag26 R (.ln sl26 R (.mv R (.ns (.block (bS hm fun E a3 hm=>?_))))))))))))));refine .cut1 (z:= .exit 2) E (fun (E:LI×LI)=>⟨[(5,.h 0),(3,.h 1),(0,.o (lQ 377 (lx377 p0) 0))],[(0,rwI E.1),(1,rwI E.2)],2⟩) ?_ fun b6=>?_
  ·skip
   refine .blkE (.seqN (.seq (.sr (.an R (.block (bS hm fun I a4 hm=>?_))))));refine .cut1 (z:= .exit 4) I (fun (I:LI)=>⟨[(3,.h 0)],[(0,rwI I)],1⟩) ?_ fun b7=>?_
   ·skip
    refine .blkE (.seqN (.sv R (.an R (.ret ?_))));cases hm;exact .rr [0] results302 (.tmp R .nil) R I3 ⟨⟨_,R,I4⟩,trivial⟩
   refine .iter (fun (a:Int×LI×LI)=>⟨[(8,.i a.1),(5,.h 0),(3,.h 1),(0,.o (lQ 377 (lx377 p0) 0))],[(0,rwI a.2.1),(1,rwI a.2.2)],2⟩) a4 [] R ?_;intro a c2 hm b0 a7;refine .seq (.sv R (.mv R (.lh sl26 R (.bi R (.ns ?_)))));refine .cc hm R (fun hm=>?_) fun hm=> .xx ((b7 _ (a7 _ (oj hm))).sub [(0,1)] R);refine .sn (.seq (.block (.seq ?_)));refine .sub (τ:=⟨[(8,.i a.1),(5,.h 0),(3,.h 1),(0,.o (lQ 377 (lx377 p0) 0))],[(0,rwI a.2.1),(1,rwI a.2.2)],2⟩) ?_ [] R;refine bS hm fun g H hm=>?_;refine .drw [(2,[]),(2,[oT]),(2,[oT,oT]),(2,tT 3),(2,[]),(2,[]),(2,[oF,oF,oF,oF,oT,oT]),(2,fA 4 (tT 3)),(2,tT 8),(2,tT 9),(2,[])] [_,_,_,_,_,_,_,_,_,_,_] ⟨[(67,.i 0),(66,.i (((kget p0.2.2.1 g).getD []).length:Int)),(65,.f qI ((kget p0.2.2.1 g).getD [])),(8,.i a.1),(5,.h 0),(3,.h 1),(0,.o (lQ 377 (lx377 p0) 0))],[(0,rwI a.2.1),(1,rwI a.2.2)],2⟩ ⟨zM R,O.nc .Q Z R R,O.faQ yel Z R R,O.ld yfz Z R .Q R R,zM R,zM R,O.ir sl26 Z R R R H R,O.ld nag3 Z R (.R R H lv3) R R,O.mlS (k:=g) yhM Z R (.o R) R,O.len sl26 Z R R,zM R,trivial⟩ (by kernel_rfl) R ?_;refine .seqN (.block (bS hm fun F a5 hm=>?_));refine .cut1 (z:= .exit 6) F (fun (F:LI×LI)=>⟨[(8,.i a.1),(5,.h 0),(3,.h 1),(0,.o (lQ 377 (lx377 p0) 0))],[(0,rwI F.1),(1,rwI F.2)],2⟩) ?_ fun a1=>?_
   ·skip
    exact .blkE (.blkN (.seqN (.reg (.mv R (.bi R (.sa R (.nil ((b0 _ (oj hm)).s0 R))))))))
   refine .iter (fun (e:Int×LI×LI)=>⟨[(67,.i e.1),(66,.i (((kget p0.2.2.1 g).getD []).length:Int)),(65,.f qI ((kget p0.2.2.1 g).getD [])),(8,.i a.1),(5,.h 0),(3,.h 1),(0,.o (lQ 377 (lx377 p0) 0))],[(0,rwI e.2.1),(1,rwI e.2.2)],2⟩) a5 [] R ?_;intro e a0 hm b1 a8;refine .sr (.bi R (.ns (.seq ?_)));refine .cc hm R (fun hm=>?_) fun hm=> .xx ((a1 _ (a8 _ (oj hm))).s0 R);refine .sn ?_;refine .join2 (fun (l:LI) (m:LI)=>y1j e l m=some a0) (fun l m=>⟨[(5,.h 0),(67,.i e.1),(66,.i (((kget p0.2.2.1 g).getD []).length:Int)),(65,.f qI ((kget p0.2.2.1 g).getD [])),(8,.i a.1),(3,.h 1),(0,.o (lQ 377 (lx377 p0) 0))],[(0,rwI l),(1,rwI m)],2⟩) ?_ ?_
   ·intro l m hm;exact .reg (.bi R (.mv R (.nil ((b1 _ (oj hm)).s0 R))))
   ·intro t;refine .block (.sr (bS hm fun K L hm=> .ix sl26 L R (.le nag3 lv3 R (.an R (.sv R (.op (O.nc .Q Z R R) R (.fq y6Z R (.lq y2r R (.mv R (bS hm fun c4 M hm=> .ix sl177 M R (.le nag4 lv4 R (.mv R (bS hm fun a2 eb107 hm=>?_)))))))))))));refine .cut 6 (fun (s:Bool)=>a2=s) (fun s=>⟨[(84,.b s),(10,.i K),(67,.i e.1),(66,.i (((kget p0.2.2.1 g).getD []).length:Int)),(65,.f qI ((kget p0.2.2.1 g).getD [])),(8,.i a.1),(5,.h 0),(3,.h 1),(0,.o (lQ 377 (lx377 p0) 0))],[(0,rwI e.2.1),(1,rwI e.2.2)],2⟩) ?_ ?_
    ·rintro _ rfl;exact .ns (.cc hm R (fun hm=> .sv R (.mv R (.mv R (.mv R (.mv R (bS hm fun c5 v hm=> .op (O.ir sl26 Z R R R v R) R (.op (O.ld nag3 Z R (.R R v lv3) R R) R (bS hm fun b2 w hm=> .op (O.ir sl26 Z R R R w R) R (.op (O.ld nag3 Z R (.R R w lv3) R R) R (.bi R (bS hm fun c6 x hm=> .op (O.ir sl26 Z R R R x R) R (bS hm fun c7 N hm=> .op (O.su (z:=W (b2+1)) nag3.sz Z R R x N R R R lv3 R .k) R (.ns (.reg (.mv R (.mv R (.bf (r:=qI) ([K]:LI) bs26 R (.c .k .n) R (bS hm fun c8 P hm=> .ap 2 underlying26 el3 R R (.fr R) P (.sa R (.nil (.blkN ((t _ _ hm).sub [(0,2)] R)))))))))))))))))))))) fun hm=> .skip (.blkN ((t _ _ hm).s0 R)))
    ·intro G;rcases ifS eb107 with ⟨hc,hm⟩|⟨hc,hm⟩
     ·refine .know (d:=78) R hc ?_;exact .mg R (.mg R (bS hm fun b3 y hm=> .op (O.ir sl26 (Gu.mk R R) R R R y R) R (.op (O.ld nag3 (Gu.mk R R) R (.R R y lv3) R R) R (.bg R (.pT R ((G (decide (b3<0)) (oj hm)).s0 R))))))
     ·refine .know (d:=78) R hc ?_;exact .s2 R R (.s2 R R (.sk R (.pF R ((G false (oj hm)).s0 R))))
  refine .nlg qI 3 5 0 R R (.iter (fun (j:Int×LI×LI)=>⟨[(32,.i j.1),(31,.i p0.1.2.2.1.length),(30,.f qI p0.1.2.2.1),(5,.h 0),(3,.h 1),(0,.o (lQ 377 (lx377 p0) 0))],[(0,rwI j.2.1),(1,rwI j.2.2)],2⟩) a3 [(0,1),(1,0)] R ?_);intro j Y hm a9 a6;refine .sr (.bi R (.ns (.seq ?_)));refine .cc hm R (fun hm=>?_) fun hm=> .xx ((b6 _ (a6 _ (oj hm))).s0 R);refine .sn ?_;refine .join2 (fun (p:LI) (q:LI)=>y1m j p q=some Y) (fun p q=>⟨[(5,.h 0),(32,.i j.1),(31,.i p0.1.2.2.1.length),(30,.f qI p0.1.2.2.1),(3,.h 1),(0,.o (lQ 377 (lx377 p0) 0))],[(0,rwI p),(1,rwI q)],2⟩) ?_ ?_
  ·intro p q hm;exact .reg (.bi R (.mv R (.nil ((a9 _ (oj hm)).s0 R))))
  ·intro u;refine .block (.sr (bS hm fun b4 S hm=> .ix sl26 S R (.le nag3 lv3 R (.an R (.sv R (.op (O.nc .Q Z R R) R (.fq y6Z R (.lq y2r R (.mv R (bS hm fun c9 T hm=> .ix sl177 T R (.le nag4 lv4 R (.ns ?_))))))))))));exact .cc hm R (fun hm=> .sv R (.mv R (bS hm fun d0 B hm=> .op (O.ir sl26 Z R R R B R) R (bS hm fun d1 U hm=> .op (O.su (z:=0) nag3.sz Z R R B U R R R lv3 R .k) R (.ns (.reg (.mv R (.mv R (.bf (r:=qI) ([b4]:LI) bs26 R (.c .k .n) R (bS hm fun d2 V hm=> .ap 2 underlying26 el3 R R (.fr R) V (.sa R (.nil (.blkN ((u _ _ hm).sub [(0,2)] R)))))))))))))) fun hm=> .skip (.blkN ((u _ _ hm).s0 R))
 refine .iter (fun (J:Int×LI)=>⟨[(19,.i J.1),(18,.i x1.length),(3,.h 0),(0,.o (lQ 377 (lx377 p0) 0))],[(0,rwI J.2)],1⟩) b8 [] R ?_;intro J c3 hm c1 c0;refine .sr (.bi R (.ns (.seq ?_)));exact .cc hm R (fun hm=> .sn (.seq (.block (.sv R (.an R (.reg (.mv R (.mv R (bS hm fun d3 D hm=> .op (O.ir sl26 Z R R R D R) R (bS hm fun d4 X hm=> .op (O.su (z:=(-1)) nag3.sz Z R R D X R R R lv3 R .k) R (.nil (.blkN (.seqN (.reg (.bi R (.mv R (.nil ((c1 _ (oj hm)).s0 R)))))))))))))))))) fun hm=> .xx ((b5 _ (c0 _ (oj hm))).s0 R)
def y1y(a:Int×(List (Int×Int×Int×Int)))(b:List (Int×Int×Int×Int)):Option ((Int×(List (Int×Int×Int×Int)))⊕(List (Int×Int×Int×Int))):=
 some (.inl (W (a.1+1),b))
def y2K(p0:AutT×LI×(List (Int×LI))×List Bool)(p1:Int)(b:LI)(a:Int×(List (Int×Int×Int×Int))):Option ((Int×(List (Int×Int×Int×Int)))⊕(List (Int×Int×Int×Int))):=
 if decide (a.1<(b.length:Int)) then
  (idx b a.1).bind fun c=>
  (idx p0.2.2.2 a.1).bind fun d=>
  if(d&&(decide (c<0))) then
   (app a.2 ([(a.1,p1,3,(-1))]:List (Int×Int×Int×Int))).bind fun e=>
   y1y a e
  else
   y1y a a.2
 else
  some (.inr a.2)
def y3B(p0:AutT×LI×(List (Int×LI))×List Bool)(p1:Int):Option (List (Int×Int×Int×Int)):=
 (y1G p0).bind fun b=>
 (iter (y2K p0 p1 b) (0,([]:List (Int×Int×Int×Int)))).bind fun a=>
 some a
theorem y9k{p0:AutT×LI×(List (Int×LI))×List Bool}{p1:Int}{r:(List (Int×Int×Int×Int))}(hm:y3B p0 p1=some r):
  F0 318 [.o (lQ 377 (lx377 p0) 0),.i p1] [] (.h 0) [ROW rE374 374 r]:=by
 refine Fw.mk2 func318 ntmps318 R (fun C=>?_) R;refine .sr (.an R (.sr (.an R (.seq (.sv R (bS hm fun e E hm=> .cm (r':= .h 0) [0] [(0,rwI e)] (some 1) (y6V E) cf302 R ⟨⟨_,R,I4⟩,trivial⟩ R (.lh sl26 R (.mv R (.ns (.block (bS hm fun l v hm=>?_)))))))))));refine .cut1 (z:= .exit 0) l (fun (l:(List (Int×Int×Int×Int)))=>⟨[(5,.h 0)],[(0,ROW rE374 374 l)],1⟩) ?_ fun D=>?_
 ·skip
  refine .blkE (.seqN (.sv R (.an R (.ret ?_))));cases hm;exact .rr [0] results318 (.tmp R .nil) R I3 ⟨⟨_,R,I4⟩,trivial⟩
 refine .nlg rE374 374 5 0 R R (.iter (fun (a:Int×(List (Int×Int×Int×Int)))=>⟨[(11,.i a.1),(10,.i e.length),(9,.h 0),(5,.h 1),(0,.o (lQ 377 (lx377 p0) 0)),(1,.i p1)],[(0,rwI e),(1,ROW rE374 374 a.2)],2⟩) v [] R ?_);intro a q hm B y;refine .sr (.bi R (.ns (.seq ?_)));refine .cc hm R (fun hm=>?_) fun hm=> .xx ((D _ (y _ (oj hm))).sub [(0,1)] R);refine .sn ?_;refine .join1 (fun (f:List (Int×Int×Int×Int))=>y1y a f=some q) (fun f=>⟨[(5,.h 0),(11,.i a.1),(10,.i e.length),(9,.h 1),(0,.o (lQ 377 (lx377 p0) 0)),(1,.i p1)],[(0,ROW rE374 374 f),(1,rwI e)],2⟩) ?_ ?_
 ·intro f hm;exact .reg (.bi R (.mv R (.nil ((B _ (oj hm)).sub [(0,1),(1,0)] R))))
 ·intro g;refine .block (.sv R (bS hm fun t j hm=> .op (O.ir sl26 Z R R R j R) R (.op (O.ld nag3 Z R (.R R j lv3) R R) R (.sa R (.an R (.sv R (.op (O.nc .Q Z R R) R (.fq y6Z R (.lq y2r R (.mv R (bS hm fun u w hm=> .ix sl177 w R (.le nag4 lv4 R (.mv R ?_)))))))))))));refine .cut 3 (fun (m:Bool)=>(u&&(decide (t<0)))=m) (fun m=>⟨[(26,.b m),(6,.i a.1),(11,.i a.1),(10,.i e.length),(9,.h 0),(5,.h 1),(0,.o (lQ 377 (lx377 p0) 0)),(1,.i p1)],[(0,rwI e),(1,ROW rE374 374 a.2)],2⟩) ?_ ?_
  ·rintro _ rfl;exact .ns (.cc hm R (fun hm=> .reg (.mv R (.mv R (.mv R (.bu [lI a.1,lI p1,lI 3,lI (-1)] pl374 R (.op (O.bsF (r:=rE374) (zs:=([(a.1,p1,3,(-1))]:List (Int×Int×Int×Int))) bs268 R R Z R R R (.c (.p .k (.p .k (.p .k .k))) .n) R R R) R (bS hm fun F x hm=> .ap 2 underlying268 el374 R R (.fr R) x (.sa R (.nil (.blkN ((g _ hm).sub [(0,2),(1,0)] R))))))))))) fun hm=> .skip (.blkN ((g _ hm).sub [(0,1),(1,0)] R)))
  ·intro s;rcases yEt u with hc|hc
   ·refine .know (d:=23) R hc ?_;exact .mg R (.bg R (.pT R ((s (decide (t<0)) (andT hc).symm).s0 R)))
   ·refine .know (d:=23) R hc ?_;exact .s2 R R (.pF R ((s false (andF hc).symm).s0 R))
def y4N(p0:AutT×LI×(List (Int×LI))×List Bool)(p1:Int)(p2:Bool):Option (List (Int×Int×Int×Int)):=
 (y4M p0 p1).bind fun a=>
 if((decide ((a.length:Int)>0))||(!p2)) then
  some a
 else
  (y3B p0 p1).bind fun b=>
  some b
theorem ya7{p0:AutT×LI×(List (Int×LI))×List Bool}{p1:Int}{p2:Bool}{r:(List (Int×Int×Int×Int))}(hm:y4N p0 p1 p2=some r):
    F0 299 [.o (lQ 377 (lx377 p0) 0),.i p1,.b p2] [] (.h 0) [ROW rE374 374 r]:=by
  refine Fw.mk2 func299 ntmps299 R (fun C=>?_) R;refine .sr (.an R (.seq (.sv R (.mv R (bS hm fun a f hm=> .cm (r':= .h 0) [0] [(0,ROW rE374 374 a)] (some 1) (ya6 f) cf317 R ⟨⟨_,R,I4⟩,trivial⟩ R (.an R (.sv R (.lh sl268 R (.bi R (.mv R ?_))))))))));refine .cut 3 (fun (c:Bool)=>((decide ((a.length:Int)>0))||(!p2))=c) (fun c=>⟨[(17,.b c),(7,.h 0),(0,.o (lQ 377 (lx377 p0) 0)),(1,.i p1)],[(0,ROW rE374 374 a)],1⟩) ?_ ?_
  · rintro _ rfl;refine .ns ?_;refine .cc hm R (fun hm=>?_) fun hm=>?_
    ·refine .sv R (.an R (.ret (.seqR ?_)));cases hm;exact .rr [0] results299 (.tmp R .nil) R I3 ⟨⟨_,R,I4⟩,trivial⟩
    ·refine .sn (.sv R (.mv R (bS hm fun j g hm=> .cm (r':= .h 1) [1] [(0,ROW rE374 374 j)] (some 2) (y9k g) cf318 R ⟨⟨_,R,I4⟩,trivial⟩ R (.an R (.ret ?_)))));cases hm;exact .rr [1] results299 (.tmp R .nil) R I3 ⟨⟨_,R,I4⟩,trivial⟩
  · intro e;rcases yEt (decide ((a.length:Int)>0)) with hc|hc
    · refine .know (d:=14) R hc ?_;exact .s2 R R (.pT R ((e true (orT hc).symm).s0 R))
    · refine .know (d:=14) R hc ?_;exact .mg R (.op (O.not (Gu.mk R R) R R) R (.pF R ((e (!p2) (orF hc).symm).s0 R)))
def yZ(a:Int×LI×(List (Int×Int))×LI×EdgL)(b:LI)(c:List (Int×Int))(d:LI)(e:List (Int×Int×Int)):Option ((Int×LI×(List (Int×Int))×LI×EdgL)⊕(LI×LI×EdgL)):=
 some (.inl (W (a.1+1),b,c,d,e))
def y1a(e:Int×LI×(List (Int×Int))×LI×EdgL)(f:Int×Int×Int)(a:Int×LI×(List (Int×Int))×EdgL)(b:LI)(d:Int)(c:List (Int×Int)):Option ((Int×LI×(List (Int×Int))×EdgL)⊕(LI×(List (Int×Int))×EdgL)):=
 (app a.2.2.2 ([(e.1,f.2.1,d)]:List (Int×Int×Int))).bind fun g=>
 some (.inl (W (a.1+1),b,c,g))
def y1b(c:Int×LI×(List (Int×Int))×LI×EdgL)(d:List (Int×Int×Int))(a:Int×LI×(List (Int×Int))×EdgL):Option ((Int×LI×(List (Int×Int))×EdgL)⊕(LI×(List (Int×Int))×EdgL)):=
 if decide (a.1<(d.length:Int)) then
  (idx d a.1).bind fun b=>
  if(!((kget a.2.2.1 b.2.2).isSome)) then
   (app a.2.1 ([b.2.2]:LI)).bind fun e=>
   y1a c b a e (a.2.1.length:Int) (kput a.2.2.1 b.2.2 (a.2.1.length:Int))
  else
   y1a c b a a.2.1 ((kget a.2.2.1 b.2.2).getD 0) a.2.2.1
 else
  some (.inr a.2)
def y1c(p0:AutT×LI×(List (Int×LI))×List Bool)(f:(List EdgL))(a:Int×LI×(List (Int×Int))×LI×EdgL):Option ((Int×LI×(List (Int×Int))×LI×EdgL)⊕(LI×LI×EdgL)):=
 if decide (a.1<(a.2.1.length:Int)) then
  (idx a.2.1 a.1).bind fun g=>
  (idx f g).bind fun h=>
  (iter (y1b a h) (0,a.2.1,a.2.2.1,a.2.2.2.2)).bind fun b=>
  (idx b.1 a.1).bind fun d=>
  (yf p0.1.2.2.1 d).bind fun c=>
  if c then
   (app a.2.2.2.1 ([a.1]:LI)).bind fun e=>
   yZ a b.1 b.2.1 e b.2.2
  else
   yZ a b.1 b.2.1 a.2.2.2.1 b.2.2
 else
  some (.inr (a.2.1,a.2.2.2))
def y1d(b:Int×(List EdgL))(a:List EdgL):Option ((Int×(List EdgL))⊕(List EdgL)):=
 some (.inl (W (b.1+1),a))
def y1e(p0:AutT×LI×(List (Int×LI))×List Bool)(a:Int×(List EdgL)):Option ((Int×(List EdgL))⊕(List EdgL)):=
 if decide (a.1<(p0.1.2.2.2.length:Int)) then
  (idx p0.1.2.2.2 a.1).bind fun b=>
  (idx p0.2.2.2 b.2.2).bind fun c=>
  if c then
   (idx a.2 b.1).bind fun d=>
   (app d ([b]:List (Int×Int×Int))).bind fun e=>
   (idx a.2 b.1).bind fun g=>
   (upd a.2 b.1 e).bind fun f=>
   y1d a f
  else
   y1d a a.2
 else
  some (.inr a.2)
def y2L(p0:AutT×LI×(List (Int×LI))×List Bool):Option (AutT×LI):=
 (yB p0.1.1).bind fun d=>
 (if (p0.1.2.1==0) then
  some true
 else
  (idx p0.2.2.2 0).bind fun b=>
  some (!b)).bind fun e=>
 if e then
  some ((d,0,([]:LI),([]:List (Int×Int×Int))),([]:LI))
 else
  (mkL p0.1.2.1 ([]:List (Int×Int×Int))).bind fun f=>
  (iter (y1e p0) (0,f)).bind fun c=>
  (iter (y1c p0 c) (0,([0]:LI),(kput ([]:List (Int×Int)) 0 0),([]:LI),([]:List (Int×Int×Int)))).bind fun a=>
  some ((d,(a.1.length:Int),a.2),a.1)
theorem y8G{p0:AutT×LI×(List (Int×LI))×List Bool}{r:AutT×LI}(hm:y2L p0=some r):
    F0 303 [.o (lQ 377 (lx377 p0) 0)] [] (.tp [.a [lH 0,lI r.1.2.1,lH 1,lH 2],.h 3]) [rwI r.1.1,rwI r.1.2.2.1,ROW qT 112 r.1.2.2.2,rwI r.2]:=by
  refine Fw.mk2 func303 ntmps303 R (fun C=>?_) R;refine .sr (.al 0 zz60 R (.an R (.sv R (.op (O.nc .Q Z R R) R (.fq y8I R (.fq yI R (.lq nag26 R (bS hm fun w c9 hm=> .cm (r':= .h 1) [1] [(0,rwI w)] (some 2) (y2q c9) cf58 R ⟨⟨_,R,I4⟩,trivial⟩ R (.bu [lH 1,lI 0,lN,lN] pl60 R (.al 2 zz60 R (.st ag60.sz R (.ns (.seq (.sv R (.op (O.nc .Q Z R R) R (.fq y8I R (.fq y1r R (.lq nag3 R (.bi R (.mv R (bS hm fun b2 eb2 hm=>?_)))))))))))))))))))));refine .cut 8 (fun (v3:Bool)=>b2=v3) (fun v3=>⟨[(36,.b v3),(4,.q 2 0),(2,.q 0 0),(0,.o (lQ 377 (lx377 p0) 0))],[(2,.bx 60 [lH 1,lI 0,lN,lN]),(1,rwI w),(0,.bx 60 [lN,lI 0,lN,lN])],3⟩) ?_ ?_
  · rintro _ rfl;refine .ns ?_;refine .cc hm R (fun hm=>?_) fun hm=>?_
    ·refine .sr (.lg [lH 1,lI 0,lN,lN] ag60 R (.B R) R (.st ag60.sz R (.an R (.ret (.seqR (.nlb qI 3 0 2 R R (.nlb qT 112 0 3 R R (.nlg qI 3 3 0 R R ?_))))))));cases hm;exact .rr [1,3,4,5] results303 (.cell R R ag60 R (.tmp R .nil)) R I3 ⟨⟨_,R,I4⟩,⟨_,R,I4⟩,⟨_,R,I4⟩,⟨_,R,I4⟩,trivial⟩
    ·refine .sn (.sv R (.op (O.nc .Q Z R R) R (.fq y8I R (.fq y1r R (.lq nag3 R (bS hm fun x5 d0 hm=> .op (O.mkT y5c 112 3 underlying395 zv27 R R Z R R d0 R) R (.an R (.seq (.sv R (.op (O.nc .Q Z R R) R (.fq y8I R (.fq yF R (.lq nag27 R (.ln sl27 R (.mv R (.ns (.block (bS hm fun x b1 hm=>?_))))))))))))))))));refine .cut1 (z:= .exit 0) x (fun (x:(List EdgL))=>⟨[(5,.h 0),(4,.q 1 0),(2,.q 3 0),(0,.o (lQ 377 (lx377 p0) 0))],[(0,TAB y5c 27 112 none x),(1,.bx 60 [lH 2,lI 0,lN,lN]),(2,rwI w),(3,.bx 60 [lN,lI 0,lN,lN])],4⟩) ?_ fun c6=>?_
     · skip
       refine .blkE (.seqN (.sr (.op (O.mk2 (kv:=kvI) (r:=qI) 4 R Z R) R (.op (O.ins (k:=0) (v:=0) md297 (fun _ _=>eqI) Z R R (.o R) R .k) R (.mv R (.an R (.sr (.op (O.bsO (r:=qI) (zs:=([0]:LI)) 5 R bs26 R R Z R R R (.c .k .n) R R R) R (.an R (.seq (.sr (.an R (.block (bS hm fun D b3 hm=>?_))))))))))))));refine .cut1 (z:= .exit 2) D (fun (D:LI×LI×EdgL)=>⟨[(9,.h 0),(4,.q 1 0),(2,.q 5 0)],[(0,rwI D.1),(1,.bx 60 [lH 2,lI 0,lH 3,lH 4]),(2,rwI w),(3,rwI D.2.1),(4,ROW qT 112 D.2.2),(5,.bx 60 [lN,lI 0,lN,lN])],6⟩) ?_ fun c7=>?_
       · skip
         refine .blkE (.seqN (.sv R (.lh sl26 R (.fa y1r R (.st nag3.sz R (.nr (.lg [lH 2,lI D.1.length,lH 3,lH 4] ag60 R (.B R) R (.mv R (.st ag60.sz R (.an R (.ret ?_)))))))))));cases hm;exact .rr [2,3,4,0] results303 (.cell R R ag60 R (.tmp R .nil)) R I3 ⟨⟨_,R,I4⟩,⟨_,R,I4⟩,⟨_,R,I4⟩,⟨_,R,I4⟩,trivial⟩
       refine .fz 0 [5] [] R R fTb R R (.nlb qI 3 1 2 R R (.nlb qT 112 1 3 R R (.iter (fun (g:Int×LI×(List (Int×Int))×LI×EdgL)=>⟨[(10,.i g.1),(9,.h 0),(8,.h 1),(5,.f (rL qT) x),(4,.q 2 0),(2,.q 6 0),(0,.o (lQ 377 (lx377 p0) 0))],[(0,rwI g.2.1),(1,MAP kvI qI 297 g.2.2.1),(2,.bx 60 [lH 3,lI 0,lH 4,lH 5]),(3,rwI w),(4,rwI g.2.2.2.1),(5,ROW qT 112 g.2.2.2.2),(6,.bx 60 [lN,lI 0,lN,lN])],7⟩) b3 [(0,5),(1,4),(2,1),(3,2),(4,6),(5,7),(6,3)] R ?_)));intro g a9 hm c0 b7;refine .seq (.sv R (.mv R (.lh sl26 R (.bi R (.ns ?_)))));refine .cc hm R (fun hm=>?_) fun hm=> .xx ((c7 _ (b7 _ (oj hm))).sub [(1,2),(2,3),(3,4),(4,5),(5,6)] R);refine .sn ?_;refine .join4 (fun (M:LI) (N:List (Int×Int)) (P:LI) (S:List (Int×Int×Int))=>yZ g M N P S=some a9) (fun M N P S=>⟨[(10,.i g.1),(9,.h 0),(8,.h 1),(5,.f (rL qT) x),(4,.q 2 0),(2,.q 6 0),(0,.o (lQ 377 (lx377 p0) 0))],[(0,rwI M),(1,MAP kvI qI 297 N),(2,.bx 60 [lH 3,lI 0,lH 4,lH 5]),(3,rwI w),(4,rwI P),(5,ROW qT 112 S),(6,.bx 60 [lN,lI 0,lN,lN])],7⟩) ?_ ?_
       · intro M N P S hm;exact .reg (.mv R (.bi R (.sa R (.nil ((c0 _ (oj hm)).s0 R)))))
       · intro U;refine .block (.seq (.sv R (.mv R (.mv R (bS hm fun d8 V hm=> .op (O.ir sl26 Z R R R V R) R (.op (O.ld nag3 Z R (.R R V lv3) R R) R (bS hm fun T b5 hm=> .ix sl395 b5 R (.le nag27 lv27 R (.ln sl27 R (.mv R (.ns (.block (bS hm fun u b4 hm=>?_)))))))))))));refine .cut1 (z:= .exit 4) u (fun (u:LI×(List (Int×Int))×EdgL)=>⟨[(10,.i g.1),(9,.h 0),(8,.h 1),(5,.f (rL qT) x),(4,.q 2 0),(2,.q 6 0),(0,.o (lQ 377 (lx377 p0) 0))],[(0,rwI u.1),(1,MAP kvI qI 297 u.2.1),(2,.bx 60 [lH 3,lI 0,lH 4,lH 5]),(3,rwI w),(4,rwI g.2.2.2.1),(5,ROW qT 112 u.2.2),(6,.bx 60 [lN,lI 0,lN,lN])],7⟩) ?_ fun c8=>?_
         · skip
           refine .blkE (.seqN (.seq ?_));refine .sub (τ:=⟨[(10,.i g.1),(9,.h 0),(8,.h 1),(5,.f (rL qT) x),(4,.q 2 0),(2,.q 6 0),(0,.o (lQ 377 (lx377 p0) 0))],[(0,rwI u.1),(1,MAP kvI qI 297 u.2.1),(2,.bx 60 [lH 3,lI 0,lH 4,lH 5]),(3,rwI w),(4,rwI g.2.2.2.1),(5,ROW qT 112 u.2.2),(6,.bx 60 [lN,lI 0,lN,lN])],7⟩) ?_ [] R;refine bS hm fun d1 K hm=>bS hm fun c2 W hm=>?_;refine .drw [(7,[]),(7,[oT]),(7,[oT,oT]),(7,tT 3),(7,tT 4),(7,[]),(7,[]),(7,[oF,oF,oF,oF,oF,oT,oT]),(7,fA 5 (tT 3)),(7,tT 9)] [_,_,_,_,_,_,_,_,_,_] ⟨[(136,.b c2),(10,.i g.1),(9,.h 0),(8,.h 1),(5,.f (rL qT) x),(4,.q 2 0),(2,.q 6 0),(0,.o (lQ 377 (lx377 p0) 0))],[(0,rwI u.1),(1,MAP kvI qI 297 u.2.1),(2,.bx 60 [lH 3,lI 0,lH 4,lH 5]),(3,rwI w),(4,rwI g.2.2.2.1),(5,ROW qT 112 u.2.2),(6,.bx 60 [lN,lI 0,lN,lN])],7⟩ ⟨zM R,O.nc .Q Z R R,O.faQ y8I Z R R,O.faQ y5D Z R R,O.ld nag26 Z R .Q R R,zM R,zM R,O.ir sl26 Z R R R K R,O.ld nag3 Z R (.R R K lv3) R R,O.ca0 (yi W) cf41 R R Z R R R,trivial⟩ (by kernel_rfl) R ?_;exact .seqN (.cc hm R (fun hm=> .reg (.fa y5D R (.lb nag26 R (.mv R (.bf (r:=qI) ([g.1]:LI) bs26 R (.c .k .n) R (bS hm fun d2 X hm=> .ap 7 underlying26 el3 R R (.fr R) X (.fa y5D R (.st nag26.sz R (.nil (.blkN ((U _ _ _ _ hm).sub [(4,7)] R))))))))))) fun hm=> .skip (.blkN ((U _ _ _ _ hm).s0 R)))
         refine .iter (fun (t:Int×LI×(List (Int×Int))×EdgL)=>⟨[(92,.i t.1),(91,.i T.length),(90,.f qT T),(10,.i g.1),(9,.h 0),(8,.h 1),(5,.f (rL qT) x),(4,.q 2 0),(2,.q 6 0),(0,.o (lQ 377 (lx377 p0) 0))],[(0,rwI t.2.1),(1,MAP kvI qI 297 t.2.2.1),(2,.bx 60 [lH 3,lI 0,lH 4,lH 5]),(3,rwI w),(4,rwI g.2.2.2.1),(5,ROW qT 112 t.2.2.2),(6,.bx 60 [lN,lI 0,lN,lN])],7⟩) b4 [] R ?_;intro t b0 hm c1 b8;refine .sr (.bi R (.ns (.seq ?_)));refine .cc hm R (fun hm=>?_) fun hm=> .xx ((c8 _ (b8 _ (oj hm))).s0 R);refine .sn (.seq (.block (.sr (bS hm fun s Y hm=> .ix sl27 Y R (.lg [lI s.1,lI s.2.1,lI s.2.2] ag112 R (.E lv112) R (.al 7 zz112 R (.st ag112.sz R (.nr (.mv R (.fa y3l R (.lb nag3 R (.op (O.mi2 (k:=s.2.2) md297 Z (.ow R R) (.o R) R) R (.mv R (.ex R (.ex R (.sa R (.an R ?_)))))))))))))))));refine .join3 (fun (F:LI) (y:Int) (G:List (Int×Int))=>y1a g s t F y G=some b0) (fun F y G=>⟨[(9,.h 0),(13,.i y),(12,.q 1 0),(92,.i t.1),(91,.i T.length),(90,.f qT T),(10,.i g.1),(8,.h 2),(5,.f (rL qT) x),(4,.q 3 0),(2,.q 7 0),(0,.o (lQ 377 (lx377 p0) 0))],[(0,rwI F),(1,.bx 112 [lI s.1,lI s.2.1,lI s.2.2]),(2,MAP kvI qI 297 G),(3,.bx 60 [lH 4,lI 0,lH 5,lH 6]),(4,rwI w),(5,rwI g.2.2.2.1),(6,ROW qT 112 t.2.2.2),(7,.bx 60 [lN,lI 0,lN,lN])],8⟩) ?_ ?_
         · intro F y G hm;exact .reg (.fa yF R (.lb nag27 R (.mv R (.fa y3F R (.lb nag3 R (.mv R (.bu [lI g.1,lI s.2.1,lI y] pl112 R (.bf (r:=qT) ([(g.1,s.2.1,y)]:List (Int×Int×Int)) bs27 R (.c (.p .k (.p .k .k)) .n) R (bS hm fun d3 a0 hm=> .ap 8 underlying27 el112 R R (.fr R) a0 (.fa yF R (.st nag27.sz R (.nil (.blkN (.seqN (.reg (.bi R (.mv R (.nil ((c1 _ (oj hm)).sub [(1,2),(2,3),(3,4),(4,5),(5,8),(6,7)] R)))))))))))))))))))
         · intro I;refine .sv R (.no R (.ns ?_));exact .cc hm R (fun hm=> .sv R (.lh sl26 R (.an R (.sv R (.fa y3l R (.lb nag3 R (.mv R (.op (O.mu (k:=s.2.2) (v:=(t.2.1.length:Int)) md297 (fun _ _=>eqI) Z R R (.o R) R .k) R (.ns (.reg (.mv R (.fa y3l R (.lb nag3 R (.bf (r:=qI) ([s.2.2]:LI) bs26 R (.c .k .n) R (bS hm fun d4 a1 hm=> .ap 8 underlying26 el3 R R (.fr R) a1 (.sa R (.nil ((I _ _ _ hm).sub [(0,8),(1,7),(2,1),(3,2),(4,3),(5,4),(6,5),(7,6)] R)))))))))))))))))) fun hm=> .skip ((I _ _ _ hm).sub [(1,7),(2,1),(3,2),(4,3),(5,4),(6,5),(7,6)] R)
     refine .iter (fun (m:Int×(List EdgL))=>⟨[(50,.i m.1),(49,.i p0.1.2.2.2.length),(48,.f qT p0.1.2.2.2),(5,.h 0),(4,.q 1 0),(2,.q 3 0),(0,.o (lQ 377 (lx377 p0) 0))],[(0,TAB y5c 27 112 none m.2),(1,.bx 60 [lH 2,lI 0,lN,lN]),(2,rwI w),(3,.bx 60 [lN,lI 0,lN,lN])],4⟩) b1 [(0,3),(1,2),(2,1),(3,0)] R ?_;intro m a8 hm b9 b6;refine .sr (.bi R (.ns (.seq ?_)));refine .cc hm R (fun hm=>?_) fun hm=> .xx ((c6 _ (b6 _ (oj hm))).s0 R);refine .sn ?_;refine .join1 (fun (H:List EdgL)=>y1d m H=some a8) (fun H=>⟨[(50,.i m.1),(49,.i p0.1.2.2.2.length),(48,.f qT p0.1.2.2.2),(5,.h 0),(4,.q 1 0),(2,.q 3 0),(0,.o (lQ 377 (lx377 p0) 0))],[(0,TAB y5c 27 112 none H),(1,.bx 60 [lH 2,lI 0,lN,lN]),(2,rwI w),(3,.bx 60 [lN,lI 0,lN,lN])],4⟩) ?_ ?_
     · intro H hm;exact .reg (.bi R (.mv R (.nil ((b9 _ (oj hm)).s0 R))))
     · intro J;refine .block (.sr (bS hm fun j a2 hm=> .ix sl27 a2 R (.lg [lI j.1,lI j.2.1,lI j.2.2] ag112 R (.E lv112) R (.al 4 zz112 R (.st ag112.sz R (.ns (.seq ?_)))))));refine .sub (τ:=⟨[(7,.q 4 0),(50,.i m.1),(49,.i p0.1.2.2.2.length),(48,.f qT p0.1.2.2.2),(5,.h 0),(4,.q 1 0),(2,.q 3 0),(0,.o (lQ 377 (lx377 p0) 0))],[(4,.bx 112 [lI j.1,lI j.2.1,lI j.2.2]),(0,TAB y5c 27 112 none m.2),(1,.bx 60 [lH 2,lI 0,lN,lN]),(2,rwI w),(3,.bx 60 [lN,lI 0,lN,lN])],5⟩) ?_ [] R;refine bS hm fun c3 a3 hm=>?_;refine .drw [(5,[]),(5,[oT]),(5,[oT,oT]),(5,tT 3),(5,[]),(5,[oF,oF,oF,oF,oT]),(5,tT 6),(5,tT 7)] [_,_,_,_,_,_,_,_] ⟨[(61,.b c3),(7,.q 4 0),(50,.i m.1),(49,.i p0.1.2.2.2.length),(48,.f qT p0.1.2.2.2),(5,.h 0),(4,.q 1 0),(2,.q 3 0),(0,.o (lQ 377 (lx377 p0) 0))],[(4,.bx 112 [lI j.1,lI j.2.1,lI j.2.2]),(0,TAB y5c 27 112 none m.2),(1,.bx 60 [lH 2,lI 0,lN,lN]),(2,rwI w),(3,.bx 60 [lN,lI 0,lN,lN])],5⟩ ⟨zM R,O.nc .Q Z R R,O.faQ y6Z Z R R,O.ld y2r Z R .Q R R,O.faP y3l Z R R,zB nag3 R,O.ix sl177 Z R R a3 R,O.ld nag4 Z R (.E lv4) R R,trivial⟩ (by kernel_rfl) R ?_;refine .seqN ?_;refine .cc hm R (fun hm=>?_) fun hm=> .skip (.blkN ((J _ hm).s0 R));refine .sub (τ:=⟨[(7,.q 4 0),(50,.i m.1),(49,.i p0.1.2.2.2.length),(48,.f qT p0.1.2.2.2),(5,.h 0),(4,.q 1 0),(2,.q 3 0),(0,.o (lQ 377 (lx377 p0) 0))],[(4,.bx 112 [lI j.1,lI j.2.1,lI j.2.2]),(0,TAB y5c 27 112 none m.2),(1,.bx 60 [lH 2,lI 0,lN,lN]),(2,rwI w),(3,.bx 60 [lN,lI 0,lN,lN])],5⟩) ?_ [] R;refine bS hm fun d5 L hm=>bS hm fun d6 a4 hm=>bS hm fun d7 a5 hm=>bS hm fun c4 a6 hm=>?_;refine .drz 7 [(7,0),(7,5),(10,6)] [(5,[],[0],[]),(5,[],[0],[]),(5,[oF,oT],[0],[]),(5,[],[],[]),(5,[],[],[]),(5,[oF,oF,oF,oF,oT],[],[]),(5,fA 3 (tT 3),[],[]),(5,fA 3 (tT 4),[],[]),(5,[],[0],[]),(5,[oF,oF,oF,oF,oF,oF,oF,oF,oT],[0],[]),(6,fA 3 (tT 7),[],[]),(7,tT 11,[],[(7,5)]),(7,tT 12,[],[(7,5)])] [_,_,_,_,_,_,_,_,_,_,_,_,_] ⟨[(50,.i m.1),(49,.i p0.1.2.2.2.length),(48,.f qT p0.1.2.2.2),(5,.h 0),(4,.q 1 0),(2,.q 3 0),(0,.o (lQ 377 (lx377 p0) 0))],[(0,TAB y5c 27 112 none c4),(1,.bx 60 [lH 2,lI 0,lN,lN]),(2,rwI w),(3,.bx 60 [lN,lI 0,lN,lN])],7⟩ ⟨zM R,O.faP y1A Z R R,zB nag3 R,zM R,O.faP y1A Z R R,zB nag3 R,O.irT sl395 Z R R R L R,O.ldT 5 nag27 R Z R R L R,O.lg (l':=[lI j.1,lI j.2.1,lI j.2.2]) ag112 Z R (.B R) R R R,O.bsF (r:=qT) (zs:=([j]:List (Int×Int×Int))) bs27 R R Z R R R (.c (.p .k (.p .k .k)) .n) R R R,O.ap 6 underlying27 el112 R R Z R R (.fr R) a4 R,O.irT sl395 Z R R R a5 R,O.stT nag27.sz Z R R a6 R R R (fun _ e=>by cases e;rfl),trivial⟩ (by kernel_rfl) R ?_;exact .blkN ((J _ hm).s0 R)
  · intro J4;rcases ifS eb2 with ⟨hc,hm⟩|⟨hc,hm⟩
    · refine .know (d:=28) R hc ?_;exact .s2 R R (.s2 R R (.s2 R R (.sk R (.pT R ((J4 true (oj hm)).s0 R)))))
    · refine .know (d:=28) R hc ?_;exact .mg R (.op (O.nc .Q (Gu.mk R R) R R) R (.op (O.faQ y6Z (Gu.mk R R) R R) R (.op (O.ld y2r (Gu.mk R R) R .Q R R) R (bS hm fun c5 a7 hm=> .op (O.ix sl177 (Gu.mk R R) R R a7 R) R (.leg nag4 lv4 R (.op (O.not (Gu.mk R R) R R) R (.pF R ((J4 (!c5) (oj hm)).s0 R))))))))
end
end
section
open Tryz Go Go.RowKit Go.Sort Go.Lib
theorem ydn{β:Type}{f:β→List Value}{k:Nat}(hk:∀x,(f x).length=k)(k0:0<k):∀(l:List β) (t:Nat),(l.flatMap f)[t]? =(l[t/k]?).bind fun x=>(f x)[t % k]?
 | [],t=>by simp
 | x::l,t=>by
  rw [List.flatMap_cons];by_cases h:t<k
  ·rw [yAl (by rw [hk];exact h),Nat.div_eq_of_lt h,Nat.mod_eq_of_lt h];rfl
  ·obtain ⟨u,rfl⟩:∃u,t=u+k:=⟨t-k,by omega⟩;rw [yAr (by rw [hk];omega),hk,Nat.add_sub_cancel,ydn hk k0 l u,Nat.add_div_right u k0,Nat.add_mod_right];rfl
theorem yfA{β:Type}{f:β→List Value}{k:Nat}(hk:∀x,(f x).length=k):∀l:List β,(l.flatMap f).length=l.length*k
 | []=>by simp
 | x::l=>by rw [List.flatMap_cons,yLa,hk,yfA hk l,yLc,Nat.succ_mul,Nat.add_comm]
theorem Cells.enc{α:Type}{r:Rep α}{enc:α→List Value}(hr:∀s cs x,r.rd s cs x↔cs=enc x){s:Sig}:∀{cs:List Value} {xs:List α},Cells r s cs xs↔cs=xs.flatMap enc
 | cs,[]=>by simp [Cells]
 | cs,x::xs=>by
  rw [List.flatMap_cons];constructor
  ·rintro ⟨c,d,rfl,h1,h2⟩;rw [(hr _ _ _).1 h1,(Cells.enc hr).1 h2]
  ·intro h;exact⟨_,_,h,(hr _ _ _).2 rfl,(Cells.enc hr).2 rfl⟩
theorem yh7{w:World}{b off n:Nat}{d:Array Value}{os:Array Obj}{cur:Array Value}{T:TypeId}(h:w.heap[b]? =some (.cells cur T (0,0))):(grow (putRow id (Sort.ahead w n) b off d) os).heap[b]? =some (.cells (putCells id off d cur) T (0,0)):=by
 have hb:b<w.heap.size:=(yAs.1 h).1;show((w.heap.modify b (onCells (putCells id off d)))++os)[b]? =_;rw [Array.getElem?_append_left (by simpa using hb),Array.getElem?_modify,iP rfl,h];rfl
theorem yh8{w:World}{b b' off n:Nat}{d:Array Value}{os:Array Obj}(hb:b'<w.heap.size)(hne:b'≠b):(grow (putRow id (Sort.ahead w n) b off d) os).heap[b']? =w.heap[b']? :=by
 show((w.heap.modify b (onCells (putCells id off d)))++os)[b']? =_;rw [Array.getElem?_append_left (by simpa using hb),Array.getElem?_modify,iN (Ne.symm hne)]
theorem RowT.sortK{α:Type}{r:Rep α}{enc:α→List Value}(hr:∀s cs x,r.rd s cs x↔cs=enc x)(hk:∀x,(enc x).length=r.sz)(k0:0<r.sz){s:Sig}{t:Nat}{T:TypeId}{a:Option Addr}{cap:Nat}{xs:List α}(h:RowT r s t T a cap xs)[Inhabited (_root_.Fin xs.length)](h0:0<xs.length)(ht:0<t):
  ∃b off,a=some ⟨b,off,none⟩∧b<s.w.heap.size∧s.tag b=t∧HoldsK (fun i:_root_.Fin xs.length=>enc (xs.get i)) r.sz s.w b off (List.finRange xs.length).toArray∧∀(d:Array (_root_.Fin xs.length)) (n:Nat) (os:Array Obj),d.size=xs.length→
   ∃s',sortWorldK (fun i=>enc (xs.get i)) r.sz s.w b off n d os=s'.w∧Mv (One t) s s'∧RowT r s' t T (some ⟨b,off,none⟩) cap (d.toList.map xs.get):=by
 obtain⟨cs,⟨hl,hrow⟩,hc⟩:=h;rcases hrow with ⟨e,hn⟩|⟨b,off,cap',cur,e,ho,k1,k2,k3,k4⟩
 ·omega
 simp only [Value.slice.injEq,true_and] at e;obtain⟨rfl,rfl⟩:=e;have hcs:=(Cells.enc hr).1 hc;have hkF:∀i:_root_.Fin xs.length,(enc (xs.get i)).length=r.sz:=fun i=>hk _;have hb:b<s.w.heap.size:=(yAs.1 ho.heap).1;have hdz:∀(d:Array (_root_.Fin xs.length)) (j:Nat),d.size=xs.length→j<xs.length*r.sz→∃(q:Nat) (hq:q<d.size) (x:Value),q=j/r.sz∧(enc (xs.get d[q]))[j % r.sz]? =some x∧(flatK (fun i:_root_.Fin xs.length=>enc (xs.get i)) r.sz d)[j]! =x:=fun d j hd hj=>by
  have hq:j/r.sz<d.size:=by rw [hd];exact Nat.div_lt_of_lt_mul (by rw [Nat.mul_comm];exact hj)
  have hm:j % r.sz<(enc (xs.get d[j/r.sz])).length:=by rw [hk];exact Nat.mod_lt _ k0
  refine⟨_,hq,_,rfl,yGe hm,?_⟩;rw [get_flatK _ _ _ _ (by rw [hd];exact hj),getElem!_pos d _ hq,getElem!_pos (enc (xs.get d[j/r.sz])) _ hm]
 refine⟨b,off,rfl,hb,ho.htag,fun j hj=>?_,fun d n os hd=>?_⟩
 ·have hj':j<xs.length*r.sz:=by simpa using hj
  obtain⟨q,hq,x,rfl,h1,h2⟩:=hdz (List.finRange xs.length).toArray j (by simp) hj';have hcell:cur[off+j]? =some x:=by
   have e2:cs[j]? =cur.toList[off+j]? :=by rw [←k4,List.getElem?_take,iP hj',List.getElem?_drop]
   rw [hcs,ydn hk k0] at e2;have hx:xs[j/r.sz]? =some (xs.get ((List.finRange xs.length).toArray[j/r.sz])):=by
    rw [yGe (by simpa using hq)];simp
   rw [hx,yOb,h1] at e2;rw [←Array.getElem?_toList];exact e2.symm
  refine⟨?_,?_⟩
  ·unfold World.cell?;rw [ho.heap];show cur[off+j]? =_;rw [hcell,h2];rfl
  ·unfold World.frozen?;rw [ho.heap];show(decide (0≤off+j)&&decide (off+j<0))=false;simp
 ·have hm:Mv (One t) s ⟨sortWorldK (fun i=>enc (xs.get i)) r.sz s.w b off n d os,fun b=>if b<s.w.heap.size then s.tag b else 0⟩:=⟨rfl,rfl,rfl,(by show _≤((s.w.heap.modify b _)++os).size;simp),fun b' hb' hn=>⟨yh8 hb' fun e=>hn (by rw [e];exact ho.htag),iP hb'⟩⟩;refine⟨_,rfl,hm,(d.toList.map xs.get).flatMap enc,⟨by rw [yfA hk],.inr ⟨b,off,cap,putCells id off (flatK (fun i:_root_.Fin xs.length=>enc (xs.get i)) r.sz d) cur,rfl,⟨yh7 ho.heap,?_,yZl _⟩,?_,k2,?_,?_⟩⟩,(Cells.enc hr).2 rfl⟩
  ·show (if b<s.w.heap.size then s.tag b else 0)=t;rw [iP hb];exact ho.htag
  ·rw [yLm,Array.length_toList,hd];exact k1
  ·rw [putCells,Array.size_mapIdx];exact k3
  ·apply List.ext_getElem?;intro j;have hmul:xs.length*r.sz≤cap*r.sz:=Nat.mul_le_mul_right _ k1;rw [List.getElem?_take,List.getElem?_drop,yLm,Array.length_toList,hd,ydn hk k0,List.getElem?_map];by_cases hj:j<xs.length*r.sz
   ·obtain ⟨q,hq,x,rfl,h1,h2⟩:=hdz d j hd hj;rw [iP hj,Array.getElem?_toList,putCells,Array.getElem?_mapIdx,Array.getElem?_eq_getElem (by omega),Option.map_some,iP ⟨by omega,by rw [size_flatK,hd];omega⟩,Nat.add_sub_cancel_left,h2,Array.getElem?_toList,Array.getElem?_eq_getElem hq,Option.map_some,yOb,h1];rfl
   ·rw [iN hj];have hdj:¬j/r.sz<d.size:=fun hlt=>hj (by
     have:=(Nat.div_lt_iff_lt_mul k0).1 hlt;rw [hd] at this;exact this)
    rw [Array.getElem?_toList,Array.getElem?_eq_none (by omega)];rfl
end
end Go.Proofs.YtfdeiphkmjdifaaGreatDoor
namespace Go.Proofs
open Go.Shelf
def Tryz.sortR_ren :Go.Shelf.Ren:=⟨fun|6=>300|15=>107|14=>319|28=>177|29=>178|20=>328|21=>329|22=>330|23=>331|24=>332|25=>333|26=>334|27=>335|46=>344|47=>255|48=>256|49=>345|50=>346|57=>361|n=>n,fun|22=>268|24=>374|25=>379|3=>3|39=>157|0=>0|53=>114|55=>248|4=>4|46=>241|45=>240|50=>129|5=>5|9=>9|66=>326|70=>330|76=>361|77=>288|n=>n,fun|n=>n⟩
theorem Tryz.sortR :Go.Proofs.SlLaysF0.n6 Tryz.prog Tryz.sortR_ren:={
 mixed:=by kernel_rfl
 f6:=⟨Tryz.f300.name,by decide,Tryz.func300.trans (congrArg some (by kernel_rfl))⟩
 f14:=⟨Tryz.f319.name,by decide,Tryz.func319.trans (congrArg some (by kernel_rfl))⟩
 f15:=Tryz.func107.trans (congrArg some (by kernel_rfl))
 f20:=⟨Tryz.f328.name,by decide,Tryz.func328.trans (congrArg some (by kernel_rfl))⟩
 f21:=⟨Tryz.f329.name,by decide,Tryz.func329.trans (congrArg some (by kernel_rfl))⟩
 f22:=⟨Tryz.f330.name,by decide,Tryz.func330.trans (congrArg some (by kernel_rfl))⟩
 f23:=⟨Tryz.f331.name,by decide,Tryz.func331.trans (congrArg some (by kernel_rfl))⟩
 f24:=⟨Tryz.f332.name,by decide,Tryz.func332.trans (congrArg some (by kernel_rfl))⟩
 f25:=⟨Tryz.f333.name,by decide,Tryz.func333.trans (congrArg some (by kernel_rfl))⟩
 f26:=⟨Tryz.f334.name,by decide,Tryz.func334.trans (congrArg some (by kernel_rfl))⟩
 f27:=⟨Tryz.f335.name,by decide,Tryz.func335.trans (congrArg some (by kernel_rfl))⟩
 f28:=Tryz.func177.trans (congrArg some (by kernel_rfl))
 f29:=Tryz.func178.trans (congrArg some (by kernel_rfl))
 f46:=⟨Tryz.f344.name,by decide,Tryz.func344.trans (congrArg some (by kernel_rfl))⟩
 f47:=Tryz.func255.trans (congrArg some (by kernel_rfl))
 f48:=Tryz.func256.trans (congrArg some (by kernel_rfl))
 f49:=⟨Tryz.f345.name,by decide,Tryz.func345.trans (congrArg some (by kernel_rfl))⟩
 f50:=⟨Tryz.f346.name,by decide,Tryz.func346.trans (congrArg some (by kernel_rfl))⟩
 f57:=⟨Tryz.f361.name,by decide,Tryz.func361.trans (congrArg some (by kernel_rfl))⟩
 t0:=Tryz.underlying0
 a0:=Tryz.isAgg0
 z0:=Tryz.sizeOf0
 v0:=Tryz.zeroValue0
 t3:=Tryz.underlying3
 a3:=Tryz.isAgg3
 z3:=Tryz.sizeOf3
 v3:=Tryz.zeroValue3
 t4:=Tryz.underlying4
 a4:=Tryz.isAgg4
 z4:=Tryz.sizeOf4
 v4:=Tryz.zeroValue4
 t5:=Tryz.underlying5
 a5:=Tryz.isAgg5
 z5:=Tryz.sizeOf5
 v5:=Tryz.zeroValue5
 t9:=Tryz.underlying9
 a9:=Tryz.isAgg9
 z9:=Tryz.sizeOf9
 v9:=Tryz.zeroValue9
 t22:=Tryz.underlying268
 a22:=Tryz.isAgg268
 z22:=Tryz.sizeOf268
 v22:=Tryz.zeroValue268
 t25:=Tryz.underlying379
 a25:=Tryz.isAgg379
 z25:=Tryz.sizeOf379
 v25:=Tryz.zeroValue379
 t39:=Tryz.underlying157
 a39:=Tryz.isAgg157
 z39:=Tryz.sizeOf157
 v39:=Tryz.zeroValue157
 t45:=Tryz.underlying240
 a45:=Tryz.isAgg240
 z45:=Tryz.sizeOf240
 v45:=Tryz.zeroValue240
 t46:=Tryz.underlying241
 a46:=Tryz.isAgg241
 z46:=Tryz.sizeOf241
 v46:=Tryz.zeroValue241
 t50:=Tryz.underlying129
 a50:=Tryz.isAgg129
 z50:=Tryz.sizeOf129
 v50:=Tryz.zeroValue129
 t53:=Tryz.underlying114
 a53:=Tryz.isAgg114
 z53:=Tryz.sizeOf114
 v53:=Tryz.zeroValue114
 t55:=Tryz.underlying248
 a55:=Tryz.isAgg248
 z55:=Tryz.sizeOf248
 v55:=Tryz.zeroValue248
 t66:=Tryz.underlying326
 a66:=Tryz.isAgg326
 z66:=Tryz.sizeOf326
 v66:=Tryz.zeroValue326
 t70:=Tryz.underlying330
 a70:=Tryz.isAgg330
 z70:=Tryz.sizeOf330
 v70:=Tryz.zeroValue330
 t76:=Tryz.underlying361
 a76:=Tryz.isAgg361
 z76:=Tryz.sizeOf361
 v76:=Tryz.zeroValue361
 t77:=Tryz.underlying288
 a77:=Tryz.isAgg288
 z77:=Tryz.sizeOf288
 v77:=Tryz.zeroValue288 }
end Go.Proofs
namespace Go.Proofs.YtfdeiphkmjdifaaGreatDoor
open Tryz Go Go.RowKit Go.Sort Go.Lib
def encR(x:Int×Int×Int×Int):List Value:=[.int .i64 x.1,.int .i64 x.2.1,.int .i64 x.2.2.1,.int .i64 x.2.2.2]
theorem ykl(s:Sig)(cs:List Value)(x:Int×Int×Int×Int):(rP qI (rP qI (rP qI qI))).rd s cs x↔cs=encR x:=by
 constructor
 ·rintro ⟨_,_,rfl,rfl,_,_,rfl,rfl,_,_,rfl,rfl,rfl⟩;rfl
 ·rintro rfl;exact⟨_,_,rfl,rfl,_,_,rfl,rfl,_,_,rfl,rfl,rfl⟩
noncomputable def y1B(p0:List (Int×Int×Int×Int)):Option (List (Int×Int×Int×Int)):=
 if h:(∀x∈p0,0≤x.1∧x.1<4294967296)∧p0.length≤4294967296∧0<p0.length then
  haveI:Inhabited (_root_.Fin p0.length):=⟨⟨0,h.2.2⟩⟩
  some ((pdq (ltOf fun i j:_root_.Fin p0.length=>(p0.get i).1-(p0.get j).1) (List.finRange p0.length).toArray 0 p0.length (Lib.bitLen p0.length) true true).toList.map p0.get)
 else if p0= [] then some [] else none
set_option maxHeartbeats 2000000 in
theorem yfZ(x y:Int×Int×Int×Int)(w:World)(hx:0≤x.1∧x.1<4294967296)(hy:0≤y.1∧y.1<4294967296):
  Calls prog 301 #[.agg (encR x).toArray,.agg (encR y).toArray] w fun e w'=>e= .returned (.int .i64 (x.1-y.1))∧∃q os',w'=grow (w.drewN q) os':=by
 obtain⟨x1,x2,x3,x4⟩:=x;obtain⟨y1,y2,y3,y4⟩:=y;simp only at hx hy ⊢;show Calls prog _ #[.agg #[.int .i64 x1,.int .i64 x2,.int .i64 x3,.int .i64 x4],.agg #[.int .i64 y1,.int .i64 y2,.int .i64 y3,.int .i64 y4]] w _
 go_enter func301,ntmps301
 go_wp2_with fail
 go_ret
 exact⟨rfl,0,_,by rw [alloc_eq_grow,alloc_eq_grow,grow_grow];rfl⟩
theorem y9U{s:Sig}{p0:List (Int×Int×Int×Int)}{t0:Nat}{a1:Option Addr}{c1:Nat}{r:List (Int×Int×Int×Int)}(zt0:0<t0)(h1:RowT (rP qI (rP qI (rP qI qI))) s t0 374 a1 c1 p0)(hm:y1B p0=some r):
  Calls prog 300 #[.slice a1 p0.length c1,.func (.func 301) #[] #[]] s.w (RetS (One t0) s fun v s'=>v= .tuple #[]∧r.length=p0.length∧RowT (rP qI (rP qI (rP qI qI))) s' t0 374 a1 c1 r):=by
 unfold y1B at hm;split at hm
 ·rename_i h;obtain⟨hb,hl,h0⟩:=h
  letI:Inhabited (_root_.Fin p0.length):=⟨⟨0,h0⟩⟩
  obtain⟨b,off,rfl,hblk,htag,hH,hput⟩:=h1.sortK ykl (fun _=>rfl) (by decide) h0 zt0;have hin:∀i:_root_.Fin p0.length,0≤(p0.get i).1∧(p0.get i).1<4294967296:=fun i=>hb _ (List.get_mem _ _);have hO:SWO (ltOf fun i j:_root_.Fin p0.length=>(p0.get i).1-(p0.get j).1):=⟨fun i=>by unfold ltOf;simp,fun i j k g1 g2=>by unfold ltOf at *;simp at *;omega,fun i j k g1 g2=>by unfold ltOf at *;simp at *;omega⟩;have eg:∀args w,(callFunc 301 args).run prog w= .ok (.enter 301 args) w:=enters_of func301 (by kernel_rfl) rfl;have hsz:(List.finRange p0.length).toArray.size=p0.length:=by simp
  have hcmp:CmpLays prog 301 #[] (fun i:_root_.Fin p0.length=>encR (p0.get i)) 4 (fun i j=>(p0.get i).1-(p0.get j).1) b off (List.finRange p0.length).toArray.size s.w:=fun m os dk hdk i j=>yfZ _ _ _ (hin i) (hin j);have hS:=AnyQ.slices_SortFunc_eq Tryz.sortR 4 Tryz.isAgg374 Tryz.sizeOf374 (fun i:_root_.Fin p0.length=>encR (p0.get i)) (fun _=>rfl) (fun x v hv=>by simp [encR] at hv;rcases hv with rfl|rfl|rfl|rfl <;> rfl) (fun i j=>(p0.get i).1-(p0.get j).1) hO 301 #[] b off c1 (List.finRange p0.length).toArray s.w eg hcmp hH hblk (by rw [hsz];omega);rw [hsz] at hS;have hS:Calls prog 300 #[.slice (some ⟨b,off,none⟩) p0.length c1,.func (.func 301) #[] #[]] s.w _:=hS;refine hS.mono ?_;rintro e w' ⟨rfl,n,os,rfl⟩;have hz:=(pdq_sorts (ltOf fun i j:_root_.Fin p0.length=>(p0.get i).1-(p0.get j).1) hO (List.finRange p0.length).toArray 0 p0.length (Lib.bitLen p0.length) true true (yZl _) (Nat.le_of_eq hsz.symm) (Or.inl rfl)).1.1;rw [hsz] at hz;obtain⟨s',hw',hm',hr⟩:=hput _ n os hz;cases hm;exact⟨_,s',hw',rfl,hm',rfl,by rw [yLm,Array.length_toList,hz],hr⟩
 ·split at hm
  ·rename_i h0;cases hm;subst h0;refine(AnyF.slices_SortFunc_none (P:=prog) (ρ:=Tryz.sortR_ren) Tryz.sortR a1 c1 (.func (.func 301) #[] #[]) s.w).mono ?_;rintro e w' ⟨rfl,rfl⟩;exact⟨_,s,rfl,rfl,Mv.refl _ _,rfl,rfl,h1⟩
  ·cases hm
theorem y9V{p0:List (Int×Int×Int×Int)}{r:List (Int×Int×Int×Int)}(hm:y1B p0=some r):Fw prog 300 ⟨1,[0]⟩ [.h 0,.o (lV (.func (.func 301) #[] #[]))] [ROW (rP qI (rP qI (rP qI qI))) 374 p0] (.tp []) [ROW (rP qI (rP qI (rP qI qI))) 374 r]:=
 ⟨fun ts β s vs ht _ _ hp ⟨v,us,h,⟨v2,us2,h2,hu,e3⟩,e2⟩ ho=>by
  have hu:us2= []:=hu;subst hu;subst e3;subst e2;obtain⟨rfl,_⟩:=h2;obtain⟨t,rfl⟩:∃t,ts= [t]:=by
   match ts,ht with
   | [t],_=>exact⟨t,rfl⟩
  obtain⟨a,c,e,h2⟩:=ho 0 _ rfl;have hv:v= .slice a p0.length c:=h.1.trans e;subst hv;exact Calls.mono (y9U (hp t (.head _)) h2 hm) fun en w' ⟨v,s',e1,e2,m,hv,hl,hr⟩=>⟨v,s',e1,e2,m.weak fun t' ht'=>⟨0,.head _,by rw [show t'=t from ht'];rfl⟩,β,fun _ _=>rfl,⟨[],rfl,hv⟩,fun i o ho=>by
   match i,ho with
   | 0,ho=>cases ho;exact⟨a,c,by rw [e,hl],hr⟩⟩⟩
end Go.Proofs.YtfdeiphkmjdifaaGreatDoor
set_option maxRecDepth 100000
set_option maxHeartbeats 8000000
namespace Go.Proofs.YtfdeiphkmjdifaaGreatDoor
open Tryz Go Go.RowKit
noncomputable section
def y4i(a:Int×LI×LI)(b:LI)(c:LI):Option ((Int×LI×LI)⊕(LI×LI)):=
 some (.inl (W (a.1+1),b,c))
def y4j(c:(List (Int×Int×Int×Int))×Int×List Bool)(b:LI)(a:Int×LI×LI):Option ((Int×LI×LI)⊕(LI×LI)):=
 if decide (a.1<(b.length:Int)) then
  (idx b a.1).bind fun d=>
  (idx c.2.2 a.1).bind fun e=>
  if e then
   (app a.2.1 ([a.1]:LI)).bind fun f=>
   (app a.2.2 ([d]:LI)).bind fun g=>
   y4i a f g
  else
   y4i a a.2.1 a.2.2
 else
  some (.inr a.2)
def y4k(b:(List (Int×Int×Int×Int)))(a:Int×List Bool):Option ((Int×List Bool)⊕(List Bool)):=
 if decide (a.1<(b.length:Int)) then
  (idx b a.1).bind fun c=>
  (idx a.2 c.1).bind fun e=>
  (upd a.2 c.1 false).bind fun d=>
  some (.inl (W (a.1+1),d))
 else
  some (.inr a.2)
def y5U(p3:Bool)(c:(AutT×LI×(List (Int×LI))×List Bool))(a:Int×(List (Int×Int×Int×Int))×Int×List Bool):Option ((Int×(List (Int×Int×Int×Int))×Int×List Bool)⊕((List (Int×Int×Int×Int))×Int×List Bool)):=
 (y4N (c.1,c.2.1,c.2.2.1,a.2.2.2) a.1 p3).bind fun b=>
 if((b.length:Int)==0) then
  some (.inr a.2)
 else
  (iter (y4k b) (0,a.2.2.2)).bind fun d=>
  (app a.2.1 b).bind fun e=>
  some (.inl (W (a.1+1),e,a.1,d))
def y5V(p1:LI)(a:Int×(List (Int×Int×Int×Int))×Int):Option ((Int×(List (Int×Int×Int×Int))×Int)⊕((List (Int×Int×Int×Int))×Int)):=
 if decide (a.1<(p1.length:Int)) then
  (idx p1 a.1).bind fun b=>
  (app a.2.1 ([(b,1,1,(-1))]:List (Int×Int×Int×Int))).bind fun c=>
  some (.inl (W (a.1+1),c,1))
 else
  some (.inr a.2)
def y7h(p0:AutT)(p1:LI)(p2:LI)(p3:Bool):Option ((LI×LI×(List (Int×Int×Int×Int)))×Int×AutT×LI):=
 (y7q p0 p1 p2).bind fun b=>
 (iter (y5V p1) (0,([]:List (Int×Int×Int×Int)),0)).bind fun c=>
 (iter (y5U p3 b) (2,c.1,c.2,b.2.2.2)).bind fun a=>
 (y1B a.1).bind fun e=>
 (y1G (b.1,b.2.1,b.2.2.1,a.2.2)).bind fun f=>
 (iter (y4j a f) (0,([]:LI),([]:LI))).bind fun d=>
 (y2L (b.1,b.2.1,b.2.2.1,a.2.2)).bind fun g=>
 some ((d.1,d.2,e),a.2.1,g)
theorem ybS{p0:AutT}{p1:LI}{p2:LI}{p3:Bool}{r:((LI×LI×(List (Int×Int×Int×Int)))×Int×AutT×LI)}(hm:y7h p0 p1 p2 p3=some r):
  F0 266 [.a (lx60 p0),.f qI p1,.f qI p2,.b p3] [] (.g [lH 0,lH 1,lH 2,lI r.2.1,lH 3,lI r.2.2.1.2.1,lH 4,lH 5,lH 6]) [rwI r.1.1,rwI r.1.2.1,ROW rE374 374 r.1.2.2,rwI r.2.2.1.1,rwI r.2.2.1.2.2.1,ROW qT 112 r.2.2.1.2.2.2,rwI r.2.2.2]:=by
 refine Fw.mk2 func266 ntmps266 R (fun C=>?_) R;refine .sr (.bo 0 R (.al 1 zz272 R (.nr (.lg (lx60 p0) ag60 R (.B R) R (.mv R (.mv R (bS hm fun d b6 hm=> .cm (r':= .q 2 0) [2,3] [(1,ROW rB 4 d.2.2.2),(0,.bx 377 [lF qI d.1.1,lI d.1.2.1,lF qI d.1.2.2.1,lF qT d.1.2.2.2,lF qI d.2.1,lM kvI (rL qI) d.2.2.1,lH 3])] (some 4) (ycg b6) cf298 R ⟨⟨_,R,I4⟩,⟨_,R,I4⟩,trivial⟩ R (.an R (.sr (.al 4 zz272 R (.ns (.seq (.sv R (.ln sl26 R (.mv R (.ns (.block (bS hm fun x N hm=>?_))))))))))))))))));refine .cut1 (z:= .exit 0) x (fun (x:(List (Int×Int×Int×Int))×Int)=>⟨[(10,.q 0 0),(9,.q 2 0),(8,.q 4 0),(3,.b p3)],[(0,.bx 272 [lN,lN,lH 1,lI x.2,lN,lI 0,lN,lN,lN]),(1,ROW rE374 374 x.1),(2,.bx 377 [lF qI d.1.1,lI d.1.2.1,lF qI d.1.2.2.1,lF qT d.1.2.2.2,lF qI d.2.1,lM kvI (rL qI) d.2.2.1,lH 3]),(3,ROW rB 4 d.2.2.2),(4,.bx 272 [lN,lN,lN,lI 0,lN,lI 0,lN,lN,lN])],5⟩) ?_ fun b2=>?_
 ·skip
  refine .blkE (.seqN (.seq (.sr (.an R (.block (bS hm fun j P hm=>?_))))));refine .cut1 (z:= .exit 2) j (fun (j:(List (Int×Int×Int×Int))×Int×List Bool)=>⟨[(10,.q 0 0),(9,.q 2 0),(8,.q 4 0)],[(0,.bx 272 [lN,lN,lH 1,lI j.2.1,lN,lI 0,lN,lN,lN]),(1,ROW rE374 374 j.1),(2,.bx 377 [lF qI d.1.1,lI d.1.2.1,lF qI d.1.2.2.1,lF qT d.1.2.2.2,lF qI d.2.1,lM kvI (rL qI) d.2.2.1,lH 3]),(3,ROW rB 4 j.2.2),(4,.bx 272 [lN,lN,lN,lI 0,lN,lI 0,lN,lN,lN])],5⟩) ?_ fun b3=>?_
  ·skip
   refine .blkE (.seqN (.sr (.fa y8m R (.fa ybj R (.lb ycq R (bS hm fun D T hm=> .cm (r':= .tp []) [1] [(0,ROW rE374 374 D)] none (y9V T) cf300 R ⟨⟨_,R,I4⟩,trivial⟩ R (.ns (.seq (.sv R (bS hm fun u U hm=> .op (O.caY (r':= .h 5) [5] [(0,rwI u)] (some 6) (y6V U) cf302 R R Z R R ⟨⟨R,(.q R ⟨.rf,.rf,.rf,.rf,.rf,.rf,.hr R,trivial⟩),trivial⟩,trivial⟩ R ⟨.row flr3,trivial⟩ (fun _ _ _ _ h=>h) ⟨⟨_,R,I4⟩,trivial⟩ I3 R) R (.lh sl26 R (.mv R (.ns (.block (bS hm fun y Q hm=>?_)))))))))))))));refine .cut1 (z:= .exit 6) y (fun (y:LI×LI)=>⟨[(10,.q 0 0),(9,.q 4 0),(8,.q 6 0)],[(0,.bx 272 [lH 1,lH 2,lH 3,lI j.2.1,lN,lI 0,lN,lN,lN]),(1,rwI y.1),(2,rwI y.2),(3,ROW rE374 374 D),(4,.bx 377 [lF qI d.1.1,lI d.1.2.1,lF qI d.1.2.2.1,lF qT d.1.2.2.2,lF qI d.2.1,lM kvI (rL qI) d.2.2.1,lH 5]),(5,ROW rB 4 j.2.2),(6,.bx 272 [lN,lN,lN,lI 0,lN,lI 0,lN,lN,lN])],7⟩) ?_ fun b4=>?_
   ·skip
    refine .blkE (.seqN (.sv R (bS hm fun s V hm=> .op (O.caY (r':= .tp [.a [lH 7,lI s.1.2.1,lH 8,lH 9],.h 10]) [7,8,9,10] [(0,rwI s.1.1),(1,rwI s.1.2.2.1),(2,ROW qT 112 s.1.2.2.2),(3,rwI s.2)] (some 11) (y8G V) cf303 R R Z R R ⟨⟨R,(.q R ⟨.rf,.rf,.rf,.rf,.rf,.rf,.hr R,trivial⟩),trivial⟩,trivial⟩ R ⟨.row flr3,.row flr3,.row y5c,.row flr3,trivial⟩ (fun _ _ _ _ h=>h) ⟨⟨_,R,I4⟩,⟨_,R,I4⟩,⟨_,R,I4⟩,⟨_,R,I4⟩,trivial⟩ I3 R) R (.mv R (.ex R (.ex R (.fa ygE R (.st ag60.sz R (.fa ykj R (.st nag26.sz R (.nr (.lg [lH 1,lH 2,lH 3,lI j.2.1,lH 7,lI s.1.2.1,lH 8,lH 9,lH 10] ag272 R (.B R) R (.st ag272.sz R (.ns (.ret ?_)))))))))))))));cases hm;exact .rr [1,2,3,7,8,9,10] results266 (.cell R R ag272 R .nil) R I3 ⟨⟨_,R,I4⟩,⟨_,R,I4⟩,⟨_,R,I4⟩,⟨_,R,I4⟩,⟨_,R,I4⟩,⟨_,R,I4⟩,⟨_,R,I4⟩,trivial⟩
   refine .nlb qI 3 0 0 R R (.nlb qI 3 0 1 R R (.iter (fun (l:Int×LI×LI)=>⟨[(79,.i l.1),(78,.i u.length),(77,.h 0),(10,.q 1 0),(9,.q 5 0),(8,.q 7 0)],[(0,rwI u),(1,.bx 272 [lH 2,lH 3,lH 4,lI j.2.1,lN,lI 0,lN,lN,lN]),(2,rwI l.2.1),(3,rwI l.2.2),(4,ROW rE374 374 D),(5,.bx 377 [lF qI d.1.1,lI d.1.2.1,lF qI d.1.2.2.1,lF qT d.1.2.2.2,lF qI d.2.1,lM kvI (rL qI) d.2.2.1,lH 6]),(6,ROW rB 4 j.2.2),(7,.bx 272 [lN,lN,lN,lI 0,lN,lI 0,lN,lN,lN])],8⟩) Q [(0,5),(1,0),(2,6),(3,7),(4,1),(5,2),(6,3),(7,4)] R ?_));intro l K hm b0 a6;refine .sr (.bi R (.ns (.seq ?_)));refine .cc hm R (fun hm=>?_) fun hm=> .xx ((b4 _ (a6 _ (oj hm))).sub [(0,1),(1,2),(2,3),(3,4),(4,5),(5,6),(6,7)] R);refine .sn ?_;refine .join2 (fun (v:LI) (w:LI)=>y4i l v w=some K) (fun v w=>⟨[(79,.i l.1),(78,.i u.length),(77,.h 0),(10,.q 1 0),(9,.q 5 0),(8,.q 7 0)],[(0,rwI u),(1,.bx 272 [lH 2,lH 3,lH 4,lI j.2.1,lN,lI 0,lN,lN,lN]),(2,rwI v),(3,rwI w),(4,ROW rE374 374 D),(5,.bx 377 [lF qI d.1.1,lI d.1.2.1,lF qI d.1.2.2.1,lF qT d.1.2.2.2,lF qI d.2.1,lM kvI (rL qI) d.2.2.1,lH 6]),(6,ROW rB 4 j.2.2),(7,.bx 272 [lN,lN,lN,lI 0,lN,lI 0,lN,lN,lN])],8⟩) ?_ ?_
   ·intro v w hm;exact .reg (.bi R (.mv R (.nil ((b0 _ (oj hm)).s0 R))))
   ·intro E;refine .block (.sv R (bS hm fun b7 F hm=> .op (O.ir sl26 Z R R R F R) R (.op (O.ld nag3 Z R (.R R F lv3) R R) R (.sa R (.an R (.sv R (.op (O.nc .B Z R R) R (.fa y6Z R (.lb y2r R (.mv R (bS hm fun c2 G hm=> .op (O.ir sl177 Z R R R G R) R (.op (O.ld nag4 Z R (.R R G lv4) R R) R (.ns ?_)))))))))))));exact .cc hm R (fun hm=> .sr (.fa y8m R (.fa ygB R (.lb nag26 R (.mv R (.bf (r:=qI) ([l.1]:LI) bs26 R (.c .k .n) R (bS hm fun c3 X hm=> .ap 8 underlying26 el3 R R (.fr R) X (.fa y8m R (.fa ygB R (.st nag26.sz R (.ns (.reg (.fa y8m R (.fa ygC R (.lb nag26 R (.mv R (.bf (r:=qI) ([b7]:LI) bs26 R (.c .k .n) R (bS hm fun c4 Y hm=> .ap 9 underlying26 el3 R R (.fr R) Y (.fa y8m R (.fa ygC R (.st nag26.sz R (.nil (.blkN ((E _ _ hm).sub [(2,8),(3,9)] R)))))))))))))))))))))))) fun hm=> .skip (.blkN ((E _ _ hm).s0 R))
  refine .iter (fun (e:Int×(List (Int×Int×Int×Int))×Int×List Bool)=>⟨[(13,.i e.1),(10,.q 0 0),(9,.q 2 0),(8,.q 4 0),(3,.b p3)],[(0,.bx 272 [lN,lN,lH 1,lI e.2.2.1,lN,lI 0,lN,lN,lN]),(1,ROW rE374 374 e.2.1),(2,.bx 377 [lF qI d.1.1,lI d.1.2.1,lF qI d.1.2.2.1,lF qT d.1.2.2.2,lF qI d.2.1,lM kvI (rL qI) d.2.2.1,lH 3]),(3,ROW rB 4 e.2.2.2),(4,.bx 272 [lN,lN,lN,lI 0,lN,lI 0,lN,lN,lN])],5⟩) P [] R ?_;intro e c0 hm a9 a5;refine .seq (.block (.sv R (.mv R (.mv R (bS hm fun o W hm=> .op (O.caY (r':= .h 5) [5] [(0,ROW rE374 374 o)] (some 6) (ya7 W) cf299 R R Z R R ⟨⟨R,(.q R ⟨.rf,.rf,.rf,.rf,.rf,.rf,.hr R,trivial⟩),trivial⟩,⟨R,LnL.rf⟩,⟨R,LnL.rf⟩,trivial⟩ R ⟨.row yhV,trivial⟩ (fun _ _ _ _ h=>h) ⟨⟨_,R,I4⟩,trivial⟩ I3 R) R (.an R (.seq (.sv R (.lh sl268 R (.bi R (.ns ?_)))))))))));refine .cc hm R (fun hm=> .exit (.seqX (.blkX R (.seqX (.seqX ((b3 _ (a5 _ (oj hm))).s0 R)))))) fun hm=>?_;refine .sn (.seq (.sv R (.lh sl268 R (.mv R (.ns (.block (bS hm fun J S hm=>?_)))))));refine .cut1 (z:= .exit 4) J (fun (J:List Bool)=>⟨[(14,.h 0),(13,.i e.1),(10,.q 1 0),(9,.q 3 0),(8,.q 5 0),(3,.b p3)],[(0,ROW rE374 374 o),(1,.bx 272 [lN,lN,lH 2,lI e.2.2.1,lN,lI 0,lN,lN,lN]),(2,ROW rE374 374 e.2.1),(3,.bx 377 [lF qI d.1.1,lI d.1.2.1,lF qI d.1.2.2.1,lF qT d.1.2.2.2,lF qI d.2.1,lM kvI (rL qI) d.2.2.1,lH 4]),(4,ROW rB 4 J),(5,.bx 272 [lN,lN,lN,lI 0,lN,lI 0,lN,lN,lN])],6⟩) ?_ fun b5=>?_
  ·skip
   exact .blkE (.seqN (.sr (.fa y8m R (.fa ybj R (.lb ycq R (.mv R (bS hm fun c5 a0 hm=> .ap 6 underlying268 el374 R R (.ow R R) a0 (.fa y8m R (.fa ybj R (.st ycq.sz R (.ns (.reg (.mv R (.fa ygD R (.st nag3.sz R (.nil (.blkN (.seqN (.reg (.mv R (.bi R (.sa R (.nil ((a9 _ (oj hm)).sub [(0,1),(1,6),(2,3),(3,4),(4,5)] R))))))))))))))))))))))))
  refine .iter (fun (m:Int×List Bool)=>⟨[(51,.i m.1),(50,.i o.length),(49,.h 0),(14,.h 0),(13,.i e.1),(10,.q 1 0),(9,.q 3 0),(8,.q 5 0),(3,.b p3)],[(0,ROW rE374 374 o),(1,.bx 272 [lN,lN,lH 2,lI e.2.2.1,lN,lI 0,lN,lN,lN]),(2,ROW rE374 374 e.2.1),(3,.bx 377 [lF qI d.1.1,lI d.1.2.1,lF qI d.1.2.2.1,lF qT d.1.2.2.2,lF qI d.2.1,lM kvI (rL qI) d.2.2.1,lH 4]),(4,ROW rB 4 m.2),(5,.bx 272 [lN,lN,lN,lI 0,lN,lI 0,lN,lN,lN])],6⟩) S [(0,5),(1,0),(2,1),(3,2),(4,3),(5,4)] R ?_;intro m c1 hm b1 a7;refine .sr (.bi R (.ns (.seq ?_)));refine .cc hm R (fun hm=>?_) fun hm=> .xx ((b5 _ (a7 _ (oj hm))).s0 R);refine .sn (.seq (.block (.sr (bS hm fun L H hm=> .op (O.ir sl268 Z R R R H R) R (.lg (lx374 L) ag374 R (.R R H lv374) R (.al 6 zz374 R (.st ag374.sz R (.ns ?_))))))));refine .sub (τ:=⟨[(16,.q 6 0),(51,.i m.1),(50,.i o.length),(49,.h 0),(14,.h 0),(13,.i e.1),(10,.q 1 0),(9,.q 3 0),(8,.q 5 0),(3,.b p3)],[(6,.bx 374 (lx374 L)),(0,ROW rE374 374 o),(1,.bx 272 [lN,lN,lH 2,lI e.2.2.1,lN,lI 0,lN,lN,lN]),(2,ROW rE374 374 e.2.1),(3,.bx 377 [lF qI d.1.1,lI d.1.2.1,lF qI d.1.2.2.1,lF qT d.1.2.2.2,lF qI d.2.1,lM kvI (rL qI) d.2.2.1,lH 4]),(4,ROW rB 4 m.2),(5,.bx 272 [lN,lN,lN,lI 0,lN,lI 0,lN,lN,lN])],7⟩) ?_ [] R;refine bS hm fun c6 I hm=>bS hm fun b8 a1 hm=>?_;refine .drg 7 [(7,[]),(7,[oT]),(7,[oT,oT]),(7,tT 3),(7,[]),(7,[oF,oF,oF,oF,oT]),(7,tT 6),(7,tT 7)] [_,_,_,_,_,_,_,_] ⟨[(51,.i m.1),(50,.i o.length),(49,.h 0),(14,.h 0),(13,.i e.1),(10,.q 1 0),(9,.q 3 0),(8,.q 5 0),(3,.b p3)],[(0,ROW rE374 374 o),(1,.bx 272 [lN,lN,lH 2,lI e.2.2.1,lN,lI 0,lN,lN,lN]),(2,ROW rE374 374 e.2.1),(3,.bx 377 [lF qI d.1.1,lI d.1.2.1,lF qI d.1.2.2.1,lF qT d.1.2.2.2,lF qI d.2.1,lM kvI (rL qI) d.2.2.1,lH 4]),(4,ROW rB 4 b8),(5,.bx 272 [lN,lN,lN,lI 0,lN,lI 0,lN,lN,lN])],7⟩ ⟨zM R,O.nc .B Z R R,O.faP y6Z Z R R,zB y2r R,O.faP ygA Z R R,zB nag3 R,O.ir sl177 Z R R R I R,O.su (z:=false) nag4.sz Z R R I a1 R R R lv4 R .b,trivial⟩ (by kernel_rfl) R ?_;exact .blkN (.seqN (.reg (.bi R (.mv R (.nil ((b1 _ (oj hm)).s0 R))))))
 refine .nlb rE374 374 4 2 R R (.iter (fun (t:Int×(List (Int×Int×Int×Int))×Int)=>⟨[(25,.i t.1),(24,.i p1.length),(23,.f qI p1),(10,.q 0 0),(9,.q 2 0),(8,.q 4 0),(3,.b p3)],[(0,.bx 272 [lN,lN,lH 1,lI t.2.2,lN,lI 0,lN,lN,lN]),(1,ROW rE374 374 t.2.1),(2,.bx 377 [lF qI d.1.1,lI d.1.2.1,lF qI d.1.2.2.1,lF qT d.1.2.2.2,lF qI d.2.1,lM kvI (rL qI) d.2.2.1,lH 3]),(3,ROW rB 4 d.2.2.2),(4,.bx 272 [lN,lN,lN,lI 0,lN,lI 0,lN,lN,lN])],5⟩) N [(0,4),(1,5),(4,1)] R ?_);intro t b9 hm a8 a4;refine .sr (.bi R (.ns (.seq ?_)));exact .cc hm R (fun hm=> .sn (.seq (.block (.sr (bS hm fun M a2 hm=> .ix sl26 a2 R (.le nag3 lv3 R (.an R (.sr (.fa y8m R (.fa ybj R (.lb ycq R (.mv R (.bu [lI M,lI 1,lI 1,lI (-1)] pl374 R (.op (O.bsF (r:=rE374) (zs:=([(M,1,1,(-1))]:List (Int×Int×Int×Int))) bs268 R R Z R R R (.c (.p .k (.p .k (.p .k .k))) .n) R R R) R (bS hm fun c7 a3 hm=> .ap 5 underlying268 el374 R R (.fr R) a3 (.fa y8m R (.fa ybj R (.st ycq.sz R (.ns (.reg (.fa ygD R (.st nag3.sz R (.nil (.blkN (.seqN (.reg (.bi R (.mv R (.nil ((a8 _ (oj hm)).sub [(1,5)] R)))))))))))))))))))))))))))))) fun hm=> .xx ((b2 _ (a4 _ (oj hm))).s0 R)
def y3O(p0:AutT)(p1:LI)(p2:LI):Option (((LI×LI×(List (Int×Int×Int×Int)))×Int×AutT×LI)×Int):=
 (y7p p0 p1 p2).bind fun a=>
 if(a != 0) then
  some (((([]:LI),([]:LI),([]:List (Int×Int×Int×Int))),0,(([]:LI),0,([]:LI),([]:List (Int×Int×Int))),([]:LI)),a)
 else
  (y7h p0 p1 p2 true).bind fun b=>
  some (b,0)
theorem yaB{p0:AutT}{p1:LI}{p2:LI}{r:((LI×LI×(List (Int×Int×Int×Int)))×Int×AutT×LI)×Int}(hm:y3O p0 p1 p2=some r):
    F0 192 [.a (lx60 p0),.f qI p1,.f qI p2] [] (.tp [.a [lH 0,lH 1,lH 2,lI r.1.2.1,lH 3,lI r.1.2.2.1.2.1,lH 4,lH 5,lH 6],.i r.2]) [rwI r.1.1.1,rwI r.1.1.2.1,ROW rE374 374 r.1.1.2.2,rwI r.1.2.2.1.1,rwI r.1.2.2.1.2.2.1,ROW qT 112 r.1.2.2.1.2.2.2,rwI r.1.2.2.2]:=by
  refine Fw.mk2 func192 ntmps192 R (fun C=>?_) R;refine .sr (.bo 0 R (.al 1 zz272 R (.an R (.seq (.sr (.lg (lx60 p0) ag60 R (.B R) R (.mv R (.mv R (bS hm fun e c hm=> .c0 (ycf c) cf265 R (.an R (.sv R (.bi R (.ns ?_)))))))))))));refine .cc hm R (fun hm=>?_) fun hm=>?_
  ·refine .sr (.bu [lN,lN,lN,lI 0,lN,lI 0,lN,lN,lN] pl272 R (.mv R (.st ag272.sz R (.an R (.ret (.seqR (.nlb qI 3 1 0 R R (.nlb qI 3 1 1 R R (.nlb rE374 374 1 2 R R (.nlb qI 3 1 4 R R (.nlb qI 3 1 6 R R (.nlb qT 112 1 7 R R (.nlb qI 3 1 8 R R ?_)))))))))))));cases hm;exact .rr [2,3,4,5,6,7,8] results192 (.cell R R ag272 R (.tmp R .nil)) R I3 ⟨⟨_,R,I4⟩,⟨_,R,I4⟩,⟨_,R,I4⟩,⟨_,R,I4⟩,⟨_,R,I4⟩,⟨_,R,I4⟩,⟨_,R,I4⟩,trivial⟩
  ·refine .sn (.sr (.lg (lx60 p0) ag60 R (.B R) R (.mv R (.mv R (bS hm fun b d hm=> .cm (r':= .g [lH 2,lH 3,lH 4,lI b.2.1,lH 5,lI b.2.2.1.2.1,lH 6,lH 7,lH 8]) [2,3,4,5,6,7,8] [(0,rwI b.1.1),(1,rwI b.1.2.1),(2,ROW rE374 374 b.1.2.2),(3,rwI b.2.2.1.1),(4,rwI b.2.2.1.2.2.1),(5,ROW qT 112 b.2.2.1.2.2.2),(6,rwI b.2.2.2)] (some 9) (ybS d) cf266 R ⟨⟨_,R,I4⟩,⟨_,R,I4⟩,⟨_,R,I4⟩,⟨_,R,I4⟩,⟨_,R,I4⟩,⟨_,R,I4⟩,⟨_,R,I4⟩,trivial⟩ R (.st ag272.sz R (.an R (.ret ?_))))))));cases hm;exact .rr [2,3,4,5,6,7,8] results192 (.cell R R ag272 R (.tmp R .nil)) R I3 ⟨⟨_,R,I4⟩,⟨_,R,I4⟩,⟨_,R,I4⟩,⟨_,R,I4⟩,⟨_,R,I4⟩,⟨_,R,I4⟩,⟨_,R,I4⟩,trivial⟩
def y2n(a:Int×LI)(b:Int)(c:Bool):Option (Int⊕LI):=
 if c then
  (app a.2 ([a.1]:LI)).bind fun d=>
  some (.inr d)
 else
  some (.inl (W (b+1)))
def y3v(d:PbT)(e:AutT×List LI×Int)(a:Int×LI)(b:Int):Option (Int⊕LI):=
 if decide (b<(d.2.2.length:Int)) then
  (idx d.2.2 b).bind fun c=>
  (idx e.2.1 a.1).bind fun h=>
  (idx h 0).bind fun i=>
  (y4K d.1 i c).bind fun f=>
  if decide (f≥0) then
   (y4K e.1 a.1 c).bind fun g=>
   y2n a b (decide (g<0))
  else
   y2n a b false
 else
  some (.inr a.2)
def y2o(d:PbT)(c:AutT×List LI×Int)(a:Int×LI):Option ((Int×LI)⊕LI):=
 if decide (a.1<(c.2.1.length:Int)) then
  (iter (y3v d c a) 0).bind fun b=>
  some (.inl (W (a.1+1),b))
 else
  some (.inr a.2)
def y6D(p0:(Int×y1h)×(Int×y1h)×Int)(p1:Bool):Option PbT:=
 (y6A p0).bind fun a=>
 if(!p1) then
  some a
 else
  (yx ([a.1,a.2.1]:List AutT)).bind fun c=>
  (iter (y2o a c) (0,([]:LI))).bind fun b=>
  (y3O c.1 b a.2.2).bind fun d=>
  some (a.1,d.1.2.2.1,a.2.2)
theorem yb0{p0:(Int×y1h)×(Int×y1h)×Int}{p1:Bool}{r:PbT}(hm:y6D p0 p1=some r):
    F0 120 [.a (lx93 p0),.b p1] [] (.g [lF qI r.1.1,lI r.1.2.1,lF qI r.1.2.2.1,lF qT r.1.2.2.2,lH 0,lI r.2.1.2.1,lH 1,lH 2,lH 3]) [rwI r.2.1.1,rwI r.2.1.2.2.1,ROW qT 112 r.2.1.2.2.2,rwI r.2.2]:=by
  refine Fw.mk2 func120 ntmps120 R (fun C=>?_) R;refine .sr (.bo 0 R (.al 1 zz99 R (.nr (.lg (lx93 p0) ag93 R (.B R) R (bS hm fun d U hm=> .cm (r':= .tp [.a [lH 2,lI d.1.2.1,lH 3,lH 4],.a [lH 5,lI d.2.1.2.1,lH 6,lH 7],.h 8]) [2,3,4,5,6,7,8] [(0,rwI d.1.1),(1,rwI d.1.2.2.1),(2,ROW qT 112 d.1.2.2.2),(3,rwI d.2.1.1),(4,rwI d.2.1.2.2.1),(5,ROW qT 112 d.2.1.2.2.2),(6,rwI d.2.2)] (some 9) (yaZ U) cf190 R ⟨⟨_,R,I4⟩,⟨_,R,I4⟩,⟨_,R,I4⟩,⟨_,R,I4⟩,⟨_,R,I4⟩,⟨_,R,I4⟩,⟨_,R,I4⟩,trivial⟩ R (.mv R (.ex R (.ex R (.ex R (.al 9 zz60 R (.al 10 zz60 R (.st ag60.sz R (.st ag60.sz R (.an R (.sr (.lg [lH 2,lI d.1.2.1,lH 3,lH 4] ag60 R (.B R) R (.lg [lH 5,lI d.2.1.2.1,lH 6,lH 7] ag60 R (.B R) R (.mv R (.bu [lH 2,lI d.1.2.1,lH 3,lH 4,lH 5,lI d.2.1.2.1,lH 6,lH 7,lH 8] pl99 R (.al 11 zz99 R (.st ag99.sz R (.ns (.seq (.sv R (.no R (.ns ?_))))))))))))))))))))))))));refine .cc hm R (fun hm=>?_) fun hm=>?_
  ·refine .sr (.lg [lH 2,lI d.1.2.1,lH 3,lH 4,lH 5,lI d.2.1.2.1,lH 6,lH 7,lH 8] ag99 R (.B R) R (.st ag99.sz R (.ns (.ret (.seqR (.fz 2 [] [1,9,11] R R fR R R (.fz 3 [] [1,9,11] R R fR R R (.fz 4 [] [1,9,11] R R fR R R ?_))))))));cases hm;exact .rr [5,6,7,8] results120 (.cell R R ag99 R .nil) R I3 ⟨⟨_,R,I4⟩,⟨_,R,I4⟩,⟨_,R,I4⟩,⟨_,R,I4⟩,trivial⟩
  ·refine .sn (.sr (.lg [lH 2,lI d.1.2.1,lH 3,lH 4] ag60 R (.B R) R (.lg [lH 5,lI d.2.1.2.1,lH 6,lH 7] ag60 R (.B R) R (.fz 2 [32] [9,11] R R fR R R (.fz 3 [32] [9,11] R R fR R R (.fz 4 [32] [9,11] R R fR R R (.fz 5 [33] [10,11] R R fR R R (.fz 6 [33] [10,11] R R fR R R (.fz 7 [33] [10,11] R R fR R R (.op (O.bsF (r:=rE60) (zs:=([d.1,d.2.1]:List AutT)) bs49 R R Z R R R (.c (.p .l (.p .k (.p .l .l))) (.c (.p .l (.p .k (.p .l .l))) .n)) R R R) R (bS hm fun e V hm=> .cm (r':= .tp [.a [lH 12,lI e.1.2.1,lH 13,lH 14],.h 15,.i e.2.2]) [12,13,14,15] [(0,rwI e.1.1),(1,rwI e.1.2.2.1),(2,ROW qT 112 e.1.2.2.2),(3,ROW (rL qI) 26 e.2.1)] (some 16) (y8q V) cf79 R ⟨⟨_,R,I4⟩,⟨_,R,I4⟩,⟨_,R,I4⟩,⟨_,R,I4⟩,trivial⟩ R (.mv R (.ex R (.ex R (.ex R (.al 16 zz60 R (.st ag60.sz R (.sa R (.an R (.sr (.an R (.seq (.sr (.an R (.block (bS hm fun y H hm=>?_))))))))))))))))))))))))));refine .cut1 (z:= .exit 0) y (fun (y:LI)=>⟨[(12,.h 0),(9,.q 1 0),(8,.q 5 0),(7,.h 6),(4,.q 7 0)],[(0,rwI y),(1,.bx 60 [lH 2,lI e.1.2.1,lH 3,lH 4]),(2,rwI e.1.1),(3,rwI e.1.2.2.1),(4,ROW qT 112 e.1.2.2.2),(5,.bx 99 [lF qI d.1.1,lI d.1.2.1,lF qI d.1.2.2.1,lF qT d.1.2.2.2,lF qI d.2.1.1,lI d.2.1.2.1,lF qI d.2.1.2.2.1,lF qT d.2.1.2.2.2,lH 6]),(6,rwI d.2.2),(7,.bx 99 [lN,lI 0,lN,lN,lN,lI 0,lN,lN,lN])],8⟩) ?_ fun T=>?_
   · skip
     refine .blkE (.seqN (.sr (.lg [lH 2,lI e.1.2.1,lH 3,lH 4] ag60 R (.B R) R (.mv R (.mv R (bS hm fun j J hm=> .op (O.caY (r':= .tp [.a [lH 8,lH 9,lH 10,lI j.1.2.1,lH 11,lI j.1.2.2.1.2.1,lH 12,lH 13,lH 14],.i j.2]) [8,9,10,11,12,13,14] [(0,rwI j.1.1.1),(1,rwI j.1.1.2.1),(2,ROW rE374 374 j.1.1.2.2),(3,rwI j.1.2.2.1.1),(4,rwI j.1.2.2.1.2.2.1),(5,ROW qT 112 j.1.2.2.1.2.2.2),(6,rwI j.1.2.2.2)] (some 15) (yaB J) cf192 R R Z R R ⟨⟨R,.hr R,.rf,.hr R,.hr R,trivial⟩,⟨R,.hr R,trivial⟩,⟨R,.hr R,trivial⟩,trivial⟩ R ⟨.row flr3,.row flr3,.row yhV,.row flr3,.row flr3,.row y5c,.row flr3,trivial⟩ (fun _ _ _ _ h=>h) ⟨⟨_,R,I4⟩,⟨_,R,I4⟩,⟨_,R,I4⟩,⟨_,R,I4⟩,⟨_,R,I4⟩,⟨_,R,I4⟩,⟨_,R,I4⟩,trivial⟩ I3 R) R (.mv R (.ex R (.ex R (.al 15 zz272 R (.st ag272.sz R (.an R (.sr (.fa ygE R (.lg [lH 11,lI j.1.2.2.1.2.1,lH 12,lH 13] ag60 R (.B R) R (.fa y6p R (.st ag60.sz R (.nr (.lg [lF qI d.1.1,lI d.1.2.1,lF qI d.1.2.2.1,lF qT d.1.2.2.2,lH 11,lI j.1.2.2.1.2.1,lH 12,lH 13,lH 6] ag99 R (.B R) R (.st ag99.sz R (.ns (.ret ?_))))))))))))))))))))));cases hm;exact .rr [11,12,13,6] results120 (.cell R R ag99 R .nil) R I3 ⟨⟨_,R,I4⟩,⟨_,R,I4⟩,⟨_,R,I4⟩,⟨_,R,I4⟩,trivial⟩
   refine .nlg qI 3 12 0 R R (.iter (fun (f:Int×LI)=>⟨[(13,.i f.1),(12,.h 0),(10,.h 1),(9,.q 2 0),(8,.q 6 0),(7,.h 7),(5,.q 8 0),(4,.q 9 0)],[(0,rwI f.2),(1,ROW (rL qI) 26 e.2.1),(2,.bx 60 [lH 3,lI e.1.2.1,lH 4,lH 5]),(3,rwI e.1.1),(4,rwI e.1.2.2.1),(5,ROW qT 112 e.1.2.2.2),(6,.bx 99 [lF qI d.1.1,lI d.1.2.1,lF qI d.1.2.2.1,lF qT d.1.2.2.2,lF qI d.2.1.1,lI d.2.1.2.1,lF qI d.2.1.2.2.1,lF qT d.2.1.2.2.2,lH 7]),(7,rwI d.2.2),(8,.bx 60 (lx60 d.1)),(9,.bx 99 [lN,lI 0,lN,lN,lN,lI 0,lN,lN,lN])],10⟩) H [(0,17),(1,15),(2,16),(3,12),(4,13),(5,14),(6,11),(7,8),(8,9),(9,1)] R ?_);intro f Y hm Q P;refine .seq (.sv R (.mv R (.lh sl74 R (.bi R (.ns ?_)))));refine .cc hm R (fun hm=>?_) fun hm=> .xx ((T _ (P _ (oj hm))).sub [(1,2),(2,3),(3,4),(4,5),(5,6),(6,7),(7,9)] R);refine .sn (.seq (.block (.sv R (.lh sl26 R (.mv R (.ns (.block (bS hm fun D I hm=>?_))))))));refine .cut1 (z:= .exit 2) D (fun (D:LI)=>⟨[(12,.h 0),(13,.i f.1),(10,.h 1),(9,.q 2 0),(8,.q 6 0),(7,.h 7),(5,.q 8 0),(4,.q 9 0)],[(0,rwI D),(1,ROW (rL qI) 26 e.2.1),(2,.bx 60 [lH 3,lI e.1.2.1,lH 4,lH 5]),(3,rwI e.1.1),(4,rwI e.1.2.2.1),(5,ROW qT 112 e.1.2.2.2),(6,.bx 99 [lF qI d.1.1,lI d.1.2.1,lF qI d.1.2.2.1,lF qT d.1.2.2.2,lF qI d.2.1.1,lI d.2.1.2.1,lF qI d.2.1.2.2.1,lF qT d.2.1.2.2.2,lH 7]),(7,rwI d.2.2),(8,.bx 60 (lx60 d.1)),(9,.bx 99 [lN,lI 0,lN,lN,lN,lI 0,lN,lN,lN])],10⟩) ?_ fun G=>?_
   · skip
     exact .blkE (.blkN (.seqN (.reg (.mv R (.bi R (.sa R (.nil ((Q _ (oj hm)).s0 R))))))))
   refine .iter (fun (m:Int)=>⟨[(47,.i m),(46,.i d.2.2.length),(45,.h 0),(13,.i f.1),(12,.h 1),(10,.h 2),(9,.q 3 0),(8,.q 7 0),(7,.h 0),(5,.q 8 0),(4,.q 9 0)],[(0,rwI d.2.2),(1,rwI f.2),(2,ROW (rL qI) 26 e.2.1),(3,.bx 60 [lH 4,lI e.1.2.1,lH 5,lH 6]),(4,rwI e.1.1),(5,rwI e.1.2.2.1),(6,ROW qT 112 e.1.2.2.2),(7,.bx 99 [lF qI d.1.1,lI d.1.2.1,lF qI d.1.2.2.1,lF qT d.1.2.2.2,lF qI d.2.1.1,lI d.2.1.2.1,lF qI d.2.1.2.2.1,lF qT d.2.1.2.2.2,lH 0]),(8,.bx 60 (lx60 d.1)),(9,.bx 99 [lN,lI 0,lN,lN,lN,lI 0,lN,lN,lN])],10⟩) I [(0,7),(1,0),(2,1),(3,2),(4,3),(5,4),(6,5),(7,6)] R ?_;intro m F hm S w;refine .sr (.bi R (.ns (.seq ?_)));refine .cc hm R (fun hm=>?_) fun hm=> .xx ((G _ (w _ (oj hm))).sub [(0,1),(1,2),(2,3),(3,4),(4,5),(5,6),(6,7),(7,0)] R);refine .sn (.seq (.block (.sr (bS hm fun X u hm=> .op (O.ir sl26 Z R R R u R) R (.op (O.ld nag3 Z R (.R R u lv3) R R) R (.an R ?_))))));refine .join1 (fun (s:Bool)=>y2n f m s=some F) (fun s=>⟨[(67,.b s),(47,.i m),(46,.i d.2.2.length),(45,.h 0),(13,.i f.1),(12,.h 1),(10,.h 2),(9,.q 3 0),(8,.q 7 0),(7,.h 0),(5,.q 8 0),(4,.q 9 0)],[(0,rwI d.2.2),(1,rwI f.2),(2,ROW (rL qI) 26 e.2.1),(3,.bx 60 [lH 4,lI e.1.2.1,lH 5,lH 6]),(4,rwI e.1.1),(5,rwI e.1.2.2.1),(6,ROW qT 112 e.1.2.2.2),(7,.bx 99 [lF qI d.1.1,lI d.1.2.1,lF qI d.1.2.2.1,lF qT d.1.2.2.2,lF qI d.2.1.1,lI d.2.1.2.1,lF qI d.2.1.2.2.1,lF qT d.2.1.2.2.2,lH 0]),(8,.bx 60 (lx60 d.1)),(9,.bx 99 [lN,lI 0,lN,lN,lN,lI 0,lN,lN,lN])],10⟩) ?_ ?_
   · intro s hm;exact .cc hm R (fun hm=> .sv R (.mv R (.bf (r:=qI) ([f.1]:LI) bs26 R (.c .k .n) R (bS hm fun a1 M hm=> .ap 10 underlying26 el3 R R (.fr R) M (.an R (.exit (.blkX R (.seqX (.seqX ((G _ (w _ (oj hm))).sub [(0,10),(1,2),(2,3),(3,4),(4,5),(5,6),(6,7),(7,0)] R)))))))))) fun hm=> .skip (.blkN (.seqN (.reg (.bi R (.mv R (.nil ((S _ (oj hm)).s0 R)))))))
   · intro t;refine .sub (τ:=⟨[(15,.i X),(47,.i m),(46,.i d.2.2.length),(45,.h 0),(13,.i f.1),(12,.h 1),(10,.h 2),(9,.q 3 0),(8,.q 7 0),(7,.h 0),(5,.q 8 0),(4,.q 9 0)],[(0,rwI d.2.2),(1,rwI f.2),(2,ROW (rL qI) 26 e.2.1),(3,.bx 60 [lH 4,lI e.1.2.1,lH 5,lH 6]),(4,rwI e.1.1),(5,rwI e.1.2.2.1),(6,ROW qT 112 e.1.2.2.2),(7,.bx 99 [lF qI d.1.1,lI d.1.2.1,lF qI d.1.2.2.1,lF qT d.1.2.2.2,lF qI d.2.1.1,lI d.2.1.2.1,lF qI d.2.1.2.2.1,lF qT d.2.1.2.2.2,lH 0]),(8,.bx 60 (lx60 d.1)),(9,.bx 99 [lN,lI 0,lN,lN,lN,lI 0,lN,lN,lN])],10⟩) ?_ [] R;refine bS hm fun a2 v hm=>bS hm fun a3 N hm=>bS hm fun a0 K hm=> .drP 10 [(10,[]),(10,[]),(10,[]),(10,[oF,oT,oT]),(10,fA 1 (tT 3)),(10,fA 1 (tT 4)),(10,fA 1 (tT 5)),(10,[]),(10,tT 8),(10,tT 9)] [_,_,_,_,_,_,_,_,_,_] ⟨O.lg (l':=(lx60 d.1)) ag60 Z R (.B R) R R R,zM R,zM R,O.ir sl74 Z R R R v R,O.ld nag26 Z R (.R R v lv26) R R,O.ix sl26 Z R R N R,O.ld nag3 Z R (.E lv3) R R,zM R,O.ca0 (y8y K) cf191 R R Z R R R,O.bi Z R R R R,trivial⟩ fun x=>?_;rcases ifS hm with ⟨o,hm⟩|⟨o,hm⟩
     · skip
       exact bS hm fun W L hm=> .drF x [(10,tT 10),(10,tT 11),(10,tT 11),(10,tT 11),(10,tT 14),(10,tT 15),(10,tT 16)] [_,_,_,_,_,_,_] ⟨[(67,.b (decide (W<0))),(47,.i m),(46,.i d.2.2.length),(45,.h 0),(13,.i f.1),(12,.h 1),(10,.h 2),(9,.q 3 0),(8,.q 7 0),(7,.h 0),(5,.q 8 0),(4,.q 9 0)],[(0,rwI d.2.2),(1,rwI f.2),(2,ROW (rL qI) 26 e.2.1),(3,.bx 60 [lH 4,lI e.1.2.1,lH 5,lH 6]),(4,rwI e.1.1),(5,rwI e.1.2.2.1),(6,ROW qT 112 e.1.2.2.2),(7,.bx 99 [lF qI d.1.1,lI d.1.2.1,lF qI d.1.2.2.1,lF qT d.1.2.2.2,lF qI d.2.1.1,lI d.2.1.2.1,lF qI d.2.1.2.2.1,lF qT d.2.1.2.2.2,lH 0]),(8,.bx 60 (lx60 d.1)),(9,.bx 99 [lN,lI 0,lN,lN,lN,lI 0,lN,lN,lN])],10⟩ ⟨O.kn (zM R) o,O.lg (l':=[lH 4,lI e.1.2.1,lH 5,lH 6]) ag60 (Gu.mk R R) R (.B R) R R R,O.mv (Gu.mk R R) R R,O.mv (Gu.mk R R) R R,O.caZ (y8y L) cf191 R R (Gu.mk R R) R ⟨⟨R,.hr R,.rf,.hr R,.hr R,trivial⟩,⟨R,LnL.rf⟩,⟨R,LnL.rf⟩,trivial⟩ (fun _ _ _ _ _ h=>h) R,O.bi (Gu.mk R R) R R R R,O.pkT Z R R R R,trivial⟩ (by kernel_rfl) R ((t _ hm).s0 R)
     · skip
       exact .drF x [(10,tT 10),(10,tT 11),(10,tT 11),(10,tT 11),(10,tT 14),(10,tT 15),(10,tT 16)] [_,_,_,_,_,_,_] ⟨[(67,.b false),(47,.i m),(46,.i d.2.2.length),(45,.h 0),(13,.i f.1),(12,.h 1),(10,.h 2),(9,.q 3 0),(8,.q 7 0),(7,.h 0),(5,.q 8 0),(4,.q 9 0)],[(0,rwI d.2.2),(1,rwI f.2),(2,ROW (rL qI) 26 e.2.1),(3,.bx 60 [lH 4,lI e.1.2.1,lH 5,lH 6]),(4,rwI e.1.1),(5,rwI e.1.2.2.1),(6,ROW qT 112 e.1.2.2.2),(7,.bx 99 [lF qI d.1.1,lI d.1.2.1,lF qI d.1.2.2.1,lF qT d.1.2.2.2,lF qI d.2.1.1,lI d.2.1.2.1,lF qI d.2.1.2.2.1,lF qT d.2.1.2.2.2,lH 0]),(8,.bx 60 (lx60 d.1)),(9,.bx 99 [lN,lI 0,lN,lN,lN,lI 0,lN,lN,lN])],10⟩ ⟨O.kn (zM R) o,zK R,zK R,zK R,zK R,zK R,O.pkF Z R R R R,trivial⟩ (by kernel_rfl) R ((t _ hm).s0 R)
def y4u(p0:((Int×y1h)×(Int×y1h)×Int)×Bool):Option PbT:=
 (y6D p0.1 p0.2).bind fun a=>
 some a
theorem y9W{p0:((Int×y1h)×(Int×y1h)×Int)×Bool}{r:PbT}(hm:y4u p0=some r):
  F0 50 [.a (lx95 p0)] [] (.g [lF qI r.1.1,lI r.1.2.1,lF qI r.1.2.2.1,lF qT r.1.2.2.2,lH 0,lI r.2.1.2.1,lH 1,lH 2,lH 3]) [rwI r.2.1.1,rwI r.2.1.2.2.1,ROW qT 112 r.2.1.2.2.2,rwI r.2.2]:=by
 refine Fw.mk2 func50 ntmps50 R (fun C=>?_) R;refine .sr (.bo 0 R (.al 1 zz99 R (.nr (.fa ykZ R (.lg (lx93 p0.1) ag93 R (.B R) R (.fa yl0 R (.lb nag4 R (bS hm fun b c hm=> .cm (r':= .g [lF qI b.1.1,lI b.1.2.1,lF qI b.1.2.2.1,lF qT b.1.2.2.2,lH 2,lI b.2.1.2.1,lH 3,lH 4,lH 5]) [2,3,4,5] [(0,rwI b.2.1.1),(1,rwI b.2.1.2.2.1),(2,ROW qT 112 b.2.1.2.2.2),(3,rwI b.2.2)] (some 6) (yb0 c) cf120 R ⟨⟨_,R,I4⟩,⟨_,R,I4⟩,⟨_,R,I4⟩,⟨_,R,I4⟩,trivial⟩ R (.st ag99.sz R (.ns (.ret ?_)))))))))));cases hm;exact .rr [2,3,4,5] results50 (.cell R R ag99 R .nil) R I3 ⟨⟨_,R,I4⟩,⟨_,R,I4⟩,⟨_,R,I4⟩,⟨_,R,I4⟩,trivial⟩
def y3P(p0:LI)(p1:Int)(a:Int):Option (Int⊕(Unit⊕Unit)):=
 if decide (a<(p0.length:Int)) then
  (idx p0 a).bind fun b=>
  if(b==p1) then
   some (.inr (.inr (())))
  else
   some (.inl (W (a+1)))
 else
  some (.inr (.inl ()))
def y5j(p0:LI)(p1:Int):Option Bool:=
 (iter (y3P p0 p1) 0).bind fun a=>
 match a with
 | .inl b=>
  some false
 | .inr (c)=>
  some true
theorem y8M{p0:LI}{p1:Int}{r:Bool}(hm:y5j p0 p1=some r):
  F0 130 [.f qI p0,.i p1] [] (.b r) []:=by
 refine Fw.mk2 func130 ntmps130 R (fun C=>?_) R;refine .sr (.an R (.seq (.sr (.an R (.block (bS hm fun k g hm=>?_))))));refine .cutU (z:= .exit 0) (fun d=> .inl d=k) (fun (d:Unit)=>⟨[],[],0⟩) ?_ fun K6=>?_
 ·rintro d rfl;dsimp only at hm;refine .blkE (.seqN (.sr (.an R (.ret ?_))));cases hm;exact .r0 results130 (.tmp R .nil) R R
 refine .cutU (z:= .ret) (fun e=> .inr (e)=k) (fun (e:Unit)=>⟨[(4,.b true)],[],0⟩) ?_ fun K8=>?_
 ·rintro e rfl;dsimp only at hm;refine .blkR (.seqR ?_);cases hm;exact .r0 results130 (.tmp R .nil) R R
 refine .iter (fun (c:Int)=>⟨[(5,.i c),(0,.f qI p0),(1,.i p1)],[],0⟩) g [] R ?_;intro c l hm j a;refine .seq (.sv R (.mv R (.ln sl26 R (.bi R (.ns ?_)))));refine .cc hm R (fun hm=>?_) fun hm=> .xx ((K6 _ (a _ (oj hm))).s0 R);refine .sn (.seq (.block (.sv R (.mv R (bS hm fun m h hm=> .ix sl26 h R (.le nag3 lv3 R (.mv R (.bi R (.ns ?_)))))))));exact .cc hm R (fun hm=> .sr (.an R (.ret (.blkR (.seqR (.seqR ((K8 _ (a _ (oj hm))).s0 R))))))) fun hm=> .skip (.blkN (.seqN (.reg (.mv R (.bi R (.sa R (.nil ((j _ (oj hm)).s0 R))))))))
def y2j(a:Int×LI)(b:LI):Option ((Int×LI)⊕LI):=
 some (.inl (W (a.1+1),b))
def y3C(p0:PbT)(a:Int×LI):Option ((Int×LI)⊕LI):=
 if decide (a.1<(p0.2.1.1.length:Int)) then
  (idx p0.2.1.1 a.1).bind fun c=>
  (y5j p0.2.2 c).bind fun b=>
  if(!b) then
   (idx p0.2.1.1 a.1).bind fun d=>
   (app a.2 ([d]:LI)).bind fun e=>
   y2j a e
  else
   y2j a a.2
 else
  some (.inr a.2)
def y4O(p0:PbT):Option LI:=
 (iter (y3C p0) (0,([]:LI))).bind fun a=>
 some a
theorem ya8{p0:PbT}{r:LI}(hm:y4O p0=some r):
  F0 123 [.a (lx99 p0)] [] (.h 0) [rwI r]:=by
 refine Fw.mk2 func123 ntmps123 R (fun C=>?_) R;refine .sr (.bo 0 R (.an R (.sr (.an R (.seq (.sr (.an R (.block (bS hm fun g l hm=>?_)))))))));refine .cut1 (z:= .exit 0) g (fun (g:LI)=>⟨[(3,.h 0)],[(0,rwI g)],1⟩) ?_ fun v=>?_
 ·skip
  refine .blkE (.seqN (.sv R (.an R (.ret ?_))));cases hm;exact .rr [0] results123 (.tmp R .nil) R I3 ⟨⟨_,R,I4⟩,trivial⟩
 refine .nlg qI 3 3 0 R R (.iter (fun (d:Int×LI)=>⟨[(4,.i d.1),(3,.h 0),(1,.q 1 0)],[(0,rwI d.2),(1,.bx 99 (lx99 p0))],2⟩) l [(0,1),(1,0)] R ?_);intro d j hm u t;refine .seq (.sv R (.fa y6p R (.fa yI R (.lb nag26 R (.ln sl26 R (.bi R (.ns ?_)))))));refine .cc hm R (fun hm=>?_) fun hm=> .xx ((v _ (t _ (oj hm))).s0 R);refine .sn ?_;refine .join1 (fun (e:LI)=>y2j d e=some j) (fun e=>⟨[(3,.h 0),(4,.i d.1),(1,.q 1 0)],[(0,rwI e),(1,.bx 99 (lx99 p0))],2⟩) ?_ ?_
 ·intro e hm;exact .reg (.mv R (.bi R (.sa R (.nil ((u _ (oj hm)).s0 R)))))
 ·intro f;refine .block (.seq ?_);refine .sub (τ:=⟨[(4,.i d.1),(3,.h 0),(1,.q 1 0)],[(0,rwI d.2),(1,.bx 99 (lx99 p0))],2⟩) ?_ [] R;refine bS hm fun y o hm=>bS hm fun w m hm=>?_;refine .drw [(2,[]),(2,[oT]),(2,[]),(2,[oF,oF,oT]),(2,[oF,oF,oT,oT]),(2,[]),(2,fA 2 (tT 4)),(2,fA 2 (tT 5)),(2,tT 8),(2,tT 9)] [_,_,_,_,_,_,_,_,_,_] ⟨[(22,.b (!w)),(4,.i d.1),(3,.h 0),(1,.q 1 0)],[(0,rwI d.2),(1,.bx 99 (lx99 p0))],2⟩ ⟨O.faP y9M Z R R,zB nag26 R,O.faP y6p Z R R,O.faP yI Z R R,zB nag26 R,zM R,O.ix sl26 Z R R o R,O.ld nag3 Z R (.E lv3) R R,O.ca0 (y8M m) cf130 R R Z R R R,O.not Z R R,trivial⟩ (by kernel_rfl) R ?_;exact .seqN (.cc hm R (fun hm=> .reg (.mv R (.fa y6p R (.fa yI R (.lb nag26 R (.mv R (bS hm fun x p hm=> .ix sl26 p R (.le nag3 lv3 R (.bf (r:=qI) ([x]:LI) bs26 R (.c .k .n) R (bS hm fun B s hm=> .ap 2 underlying26 el3 R R (.fr R) s (.sa R (.nil (.blkN ((f _ hm).sub [(0,2)] R)))))))))))))) fun hm=> .skip (.blkN ((f _ hm).s0 R)))
def y2S(p0:PbT):Option Int:=
 (y8Y p0).bind fun a=>
 if(a != 0) then
  some a
 else
  if(p0.1.2.1==0) then
   some 12
  else
   (y4O p0).bind fun b=>
   (yS p0.2.1 b).bind fun c=>
   some c.2
theorem yaM{p0:PbT}{r:Int}(hm:y2S p0=some r):
    F0 51 [.a (lx99 p0)] [] (.i r) []:=by
  refine Fw.mk2 func51 ntmps51 R (fun C=>?_) R;refine .sr (.bo 0 R (.an R (.seq (.sr (.lg (lx99 p0) ag99 R (.B R) R (bS hm fun g c hm=> .c0 (ybn c) cf121 R (.an R (.sv R (.bi R (.ns ?_))))))))));refine .cc hm R (fun hm=>?_) fun hm=>?_
  ·refine .sv R (.an R (.ret (.seqR ?_)));cases hm;exact .r0 results51 (.tmp R .nil) R R
  ·refine .sn (.seq (.sr (.fa y6I R (.fa y1r R (.lb nag3 R (.bi R (.ns ?_)))))));refine .cc hm R (fun hm=>?_) fun hm=>?_
   ·refine .sr (.an R (.ret (.seqR ?_)));cases hm;exact .r0 results51 (.tmp R .nil) R R
   ·refine .sn (.seq ?_);refine .sub (τ:=⟨[(1,.q 0 0)],[(0,.bx 99 (lx99 p0))],1⟩) ?_ [] R;refine bS hm fun f d hm=>bS hm fun b e hm=>?_;refine .drz 7 [(8,6)] [(1,[],[],[]),(1,[oT],[],[]),(1,[],[],[]),(1,[oF,oF,oT],[],[]),(2,tT 4,[],[]),(6,tT 5,[],[]),(6,tT 6,[],[]),(6,tT 6,[],[]),(1,[],[],[]),(7,tA 7 (fA 1 (tT 1)),[],[]),(7,tT 10,[],[(8,6)])] [_,_,_,_,_,_,_,_,_,_,_] ⟨[(5,.i b.2)],[],7⟩ ⟨O.faP y6p Z R R,O.lg (l':=(lx60 p0.2.1)) ag60 Z R (.B R) R R R,O.lg (l':=(lx99 p0)) ag99 Z R (.B R) R R R,O.ca (r':= .h 1) [1] [(0,rwI f)] (some 2) (ya8 d) cf123 R R Z R R R R ⟨⟨_,R,I4⟩,trivial⟩ I3 R,O.caY (r':= .tp [.a [lI b.1.1.1,lI b.1.1.2.1,lI b.1.1.2.2.1,lH 2,lH 3,lH 4,lH 5,lI b.1.2.2.2],.i b.2]) [2,3,4,5] [(0,ROW rB 4 b.1.1.2.2.2.1),(1,ROW rE344 344 b.1.1.2.2.2.2),(2,rwI b.1.2.1),(3,rwI b.1.2.2.1)] (some 6) (y8J e) cf122 R R Z R R ⟨⟨R,LnL.rf⟩,⟨R,.hr R,trivial⟩,trivial⟩ R ⟨.row flr4,.row yhO,.row flr3,.row flr3,trivial⟩ (fun _ _ _ _ h=>h) ⟨⟨_,R,I4⟩,⟨_,R,I4⟩,⟨_,R,I4⟩,⟨_,R,I4⟩,trivial⟩ I3 R,zM R,O.ex Z R R R,O.ex Z R R R,O.al 6 R zz182 R Z R,O.st ag182.sz Z R R R R R,O.as Z R R,trivial⟩ (by kernel_rfl) R ?_;refine .seqN (.sv R (.an R (.ret ?_)));cases hm;exact .r0 results51 (.tmp R .nil) R R
def y3p(p0:TskT)(p1:LI)(a:Int):Option (Int⊕(Unit⊕Int)):=
 if decide (a<(p1.length:Int)) then
  (idx p1 a).bind fun b=>
  (yq p0.1.1.1 b).bind fun c=>
  if(!c) then
   some (.inr (.inr (9)))
  else
   (yq p0.2.2.2.2.1 b).bind fun d=>
   if d then
    some (.inr (.inr (13)))
   else
    (slc p1 0 a).bind fun f=>
    (yf f b).bind fun e=>
    if e then
     some (.inr (.inr (8)))
    else
     some (.inl (W (a+1)))
 else
  some (.inr (.inl ()))
def y4v(p0:TskT)(p1:LI):Option Int:=
 (iter (y3p p0 p1) 0).bind fun b=>
 match b with
 | .inl c=>
  some 0
 | .inr (a)=>
  some a
theorem y9X{p0:TskT}{p1:LI}{r:Int}(hm:y4v p0 p1=some r):
  F0 206 [.o (lQ 192 (lx192 p0) 0),.f qI p1] [] (.i r) []:=by
 refine Fw.mk2 func206 ntmps206 R (fun C=>?_) R;refine .sr (.an R (.seq (.sv R (.ln sl26 R (.mv R (.ns (.block (bS hm fun q n hm=>?_))))))));refine .cutU (z:= .exit 0) (fun d=> .inl d=q) (fun (d:Unit)=>⟨[],[],0⟩) ?_ fun m=>?_
 ·rintro d rfl;dsimp only at hm;refine .blkE (.seqN (.sr (.an R (.ret ?_))));cases hm;exact .r0 results206 (.tmp R .nil) R R
 refine .cutU (z:= .ret) (fun b=> .inr (b)=q) (fun (b:Int)=>⟨[(4,.i b)],[],0⟩) ?_ fun c=>?_
 ·rintro b rfl;dsimp only at hm;refine .blkR (.seqR ?_);cases hm;exact .r0 results206 (.tmp R .nil) R R
 refine .iter (fun (e:Int)=>⟨[(9,.i e),(8,.i p1.length),(7,.f qI p1),(0,.o (lQ 192 (lx192 p0) 0)),(1,.f qI p1)],[],0⟩) n [] R ?_;intro e s hm p a;refine .sr (.bi R (.ns (.seq ?_)));refine .cc hm R (fun hm=>?_) fun hm=> .xx ((m _ (a _ (oj hm))).s0 R);refine .sn (.seq (.block (.sv R (bS hm fun w k hm=> .ix sl26 k R (.le nag3 lv3 R (.sa R (.an R (.block (.sv R (.op (O.nc .Q Z R R) R (.fq yem R (.fq y7a R (.fq yI R (.lq nag26 R (.mv R (bS hm fun t g hm=> .c0 (yC g) cf69 R (.no R (.an R ?_))))))))))))))))));refine .cc hm R (fun hm=> .sr (.an R (.ret (.blkR (.blkR (.seqR (.seqR ((c _ (a _ (oj hm))).s0 R)))))))) fun hm=>?_;refine .sv R (.op (O.nc .Q Z R R) R (.fq ybk R (.lq nag26 R (.mv R (bS hm fun u h hm=> .c0 (yC h) cf69 R (.an R ?_))))));refine .cc hm R (fun hm=> .sr (.an R (.ret (.blkR (.blkR (.seqR (.seqR ((c _ (a _ (oj hm))).s0 R)))))))) fun hm=>?_;refine .sv R (.mv R (bS hm fun x l hm=> .op (O.sh sl26 Z R R l R) R (.mv R (bS hm fun v j hm=> .c0 (yi j) cf41 R (.an R ?_)))));exact .cc hm R (fun hm=> .sr (.an R (.ret (.blkR (.blkR (.seqR (.seqR ((c _ (a _ (oj hm))).s0 R)))))))) fun hm=> .skip (.blkN (.blkN (.seqN (.reg (.bi R (.mv R (.nil ((p _ (oj hm)).s0 R))))))))
def y9H(p0:PbT)(p1:LI):Option ((Option TskT)×Int):=
 (y2x p0).bind fun a=>
 if(a.2 != 0) then
  some (none,a.2)
 else
  a.1.bind fun c=>
  (y4v c p1).bind fun b=>
  if(b != 0) then
   some (none,b)
  else
   some ((some c),0)
theorem yf5{p0:PbT}{p1:LI}{r:(Option TskT)×Int}(hm:y9H p0 p1=some r):
    F0 131 [.a (lx99 p0),.f qI p1] [] (.tp [.o (lK rE192 192 r.1),.i r.2]) []:=by
  refine Fw.mk2 func131 ntmps131 R (fun C=>?_) R;refine .sr (.bo 0 R (.sa R (.an R (.sr (.lg (lx99 p0) ag99 R (.B R) R (bS hm fun g d hm=> .c0 (y8A d) cf125 R (.mv R (.ex R (.ex R (.sa R (.an R (.seq (.sv R (.bi R (.ns ?_)))))))))))))));refine .cc hm R (fun hm=>?_) fun hm=>?_
  ·refine .sv R (.sa R (.an R (.ret (.seqR (.cnt 4 R (.c (.pn (r:=rE192) (T:=192)) .n) R ?_)))));cases hm;exact .r0 results131 (.tmp R (.tmp R .nil)) R R
  ·refine .sn (.seq (.sv R (.mv R (bS hm fun j b hm=> .cnt 17 R (.c (.pd b lv192) .n) R (.cnt 6 R (.c (.pd b lv192) .n) R (.cnt 12 R (.c (.pd b lv192) .n) R (bS hm fun h e hm=> .c0 (y9X e) cf206 R (.an R (.sv R (.bi R (.ns ?_)))))))))));refine .cc hm R (fun hm=>?_) fun hm=>?_
   ·refine .sv R (.sa R (.an R (.ret (.seqR (.cnt 4 R (.c (.pn (r:=rE192) (T:=192)) .n) R ?_)))));cases hm;exact .r0 results131 (.tmp R (.tmp R .nil)) R R
   ·refine .sn (.sv R (.sa R (.an R (.ret (.cnt 4 R (.c (.pk (r:=rE192) (.p (.p (.p .l (.p .k (.p .l .l))) .m) (.p (.p (.p .l (.p .k (.p .l .l))) .m) (.p (.p (.p .l (.p .k (.p .l .l))) .m) (.p .l (.p .l .l)))))) .n) R ?_)))));cases hm;exact .r0 results131 (.tmp R (.tmp R .nil)) R R
def y1g(p0:AutT×(List KeyT))(p1:Int)(p2:Int):Option Int:=
 if(kget p0.2 (p1,p2)).isSome then
  some ((kget p0.2 (p1,p2)).getD 0)
 else
  some (-1)
theorem y1L{p0:AutT×(List KeyT)}{p1:Int}{p2:Int}{r:Int}(hm:y1g p0 p1 p2=some r):
    F0 199 [.a (lx190 p0),.i p1,.i p2] [] (.i r) []:=by
  refine Fw.mk2 func199 ntmps199 R (fun C=>?_) R;refine .sr (.bo 0 R (.an R (.seq (.sr (.fa ygs R (.lb yfy R (.mv R (.mv R (.bu [lI p1,lI p2] pl70 R (.op (O.mi2 (k:=(p1,p2)) md128 Z (.fr R) (.a R R) R) R (.mv R (.ex R (.ex R (.sa R (.an R (.sv R (.ns ?_)))))))))))))))));refine .cc hm R (fun hm=>?_) fun hm=>?_
  ·refine .sv R (.an R (.ret (.seqR ?_)));cases hm;exact .r0 results199 (.tmp R .nil) R R
  ·refine .sn (.sr (.an R (.ret ?_)));cases hm;exact .r0 results199 (.tmp R .nil) R R
def y5W(p0:AutT×(List KeyT))(p1:LI)(a:Int×Int):Option ((Int×Int)⊕(Int⊕Unit)):=
 if decide (a.1<(p1.length:Int)) then
  (idx p1 a.1).bind fun c=>
  (y1g p0 a.2 c).bind fun b=>
  if(b==(-1)) then
   some (.inr (.inr (())))
  else
   some (.inl (W (a.1+1),b))
 else
  some (.inr (.inl a.2))
def y5M(p0:AutT×(List KeyT))(p1:LI):Option Int:=
 if(p0.1.2.1==0) then
  some (-1)
 else
  (iter (y5W p0 p1) (0,0)).bind fun a=>
  match a with
  | .inl b=>
   some b
  | .inr (c)=>
   some (-1)
theorem y9b{p0:AutT×(List KeyT)}{p1:LI}{r:Int}(hm:y5M p0 p1=some r):
    F0 132 [.a (lx190 p0),.f qI p1] [] (.i r) []:=by
  refine Fw.mk2 func132 ntmps132 R (fun C=>?_) R;refine .sr (.bo 0 R (.an R (.seq (.sr (.fa y7a R (.fa y1r R (.lb nag3 R (.bi R (.ns ?_)))))))));refine .cc hm R (fun hm=>?_) fun hm=>?_
  ·refine .sr (.an R (.ret (.seqR ?_)));cases hm;exact .r0 results132 (.tmp R .nil) R R
  ·refine .sn (.sr (.an R (.seq (.sv R (.ln sl26 R (.mv R (.ns (.block (bS hm fun n l hm=>?_)))))))));refine .cutU (z:= .exit 0) (fun d=> .inl d=n) (fun (d:Int)=>⟨[(5,.i d)],[],0⟩) ?_ fun j=>?_
   · rintro d rfl;dsimp only at hm;refine .blkE (.seqN (.sv R (.an R (.ret ?_))));cases hm;exact .r0 results132 (.tmp R .nil) R R
   refine .cutU (z:= .ret) (fun c=> .inr (c)=n) (fun (c:Unit)=>⟨[(4,.i (-1))],[],0⟩) ?_ fun k=>?_
   · rintro c rfl;dsimp only at hm;refine .blkR (.seqR ?_);cases hm;exact .r0 results132 (.tmp R .nil) R R
   refine .iter (fun (b:Int×Int)=>⟨[(14,.i b.1),(13,.i p1.length),(12,.f qI p1),(5,.i b.2),(2,.q 0 0)],[(0,.bx 190 (lx190 p0))],1⟩) l [] R ?_;intro b o hm m e;refine .sr (.bi R (.ns (.seq ?_)));refine .cc hm R (fun hm=>?_) fun hm=> .xx ((j _ (e _ (oj hm))).s0 R);refine .sn (.seq (.block (.sr (bS hm fun s h hm=> .ix sl26 h R (.le nag3 lv3 R (.an R (.sr (.lg (lx190 p0) ag190 R (.B R) R (.mv R (.mv R (bS hm fun p g hm=> .c0 (y1L g) cf199 R (.an R (.sv R (.bi R (.ns ?_)))))))))))))));exact .cc hm R (fun hm=> .sr (.an R (.ret (.blkR (.seqR (.seqR ((k _ (e _ (oj hm))).s0 R))))))) fun hm=> .skip (.blkN (.seqN (.reg (.bi R (.mv R (.nil ((m _ (oj hm)).s0 R)))))))
end
end Go.Proofs.YtfdeiphkmjdifaaGreatDoor
