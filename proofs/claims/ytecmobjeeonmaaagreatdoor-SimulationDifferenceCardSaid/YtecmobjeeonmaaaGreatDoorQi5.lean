/- Parts of the proof, without what nothing here names. -/
import Derived.Test.YtecmobjeeonmaaaGreatDoorProg
import Derived.Test.YtecmobjeeonmaaaGreatDoorQi4
set_option maxRecDepth 100000
set_option maxHeartbeats 8000000
namespace Go.Proofs.YtecmobjeeonmaaaGreatDoor
open Go Go.RowKit
noncomputable section
variable{p0:PbT}{p1:Int}{r:Bool}{p2:List Int}
def y7E(p0:Int×Int×Int×List Bool×(List (Int×Int)))(n:(List (Int×ByteArray×(Option (Bool→Bool→Option Bool))×(Option (Bool→Bool→Option Bool))×(Option (Bool→Option Bool)))))(a:List Bool×Int×Bool×List Int):Option ((List Bool×Int×Bool×List Int)⊕(List Bool×List Int)):=
 if decide (a.2.1<(p0.2.2.2.2.length:Int)) then
  (app a.2.2.2 ([a.2.1]:List Int)).bind fun d=>
  (idx p0.2.2.2.2 a.2.1).bind fun b=>
  (idx n (W (b.1-1))).bind fun c=>
  if c.2.2.1.isSome then
   (idx a.1 b.2).bind fun k=>
   c.2.2.1.bind fun e=>
   (e a.2.2.1 k).bind fun h=>
   some (.inl (a.1,W (a.2.1+1),h,d))
  else
   if c.2.2.2.1.isSome then
    (idx a.1 b.2).bind fun l=>
    c.2.2.2.1.bind fun f=>
    (f a.2.2.1 l).bind fun i=>
    (idx a.1 b.2).bind fun o=>
    (upd a.1 b.2 i).bind fun m=>
    some (.inl (m,W (a.2.1+1),a.2.2.1,d))
   else
    c.2.2.2.2.bind fun g=>
    (g a.2.2.1).bind fun j=>
    if j then
     some (.inl (a.1,b.2,a.2.2.1,d))
    else
     some (.inl (a.1,W (a.2.1+1),a.2.2.1,d))
 else
  some (.inr (a.1,a.2.2.2))
def y6S(p0:Int×Int×Int×List Bool×(List (Int×Int)))(p1:List Bool):Option (List Int×List Bool):=
 (y4O).bind fun b=>
 (iter (y7E p0 b) (p1,0,false,([]:List Int))).bind fun a=>
 some (a.2,a.1)
theorem yaD{p0:Int×Int×Int×List Bool×(List (Int×Int))}{p1:List Bool}{r:List Int×List Bool}(hm:y6S p0 p1=some r):
    Fw Tryz.prog 297 ⟨1,[0]⟩ [.a (lx191 p0),.h 0] [ROW rB 4 p1] (.h 1) [ROW rB 4 r.2,ROW qI 3 r.1]:=by
  unfold y6S at hm;refine Fw.mk2 Tryz.func297 Tryz.ntmps297 R (fun C=>?_) R;refine .sr (.bo 1 R (.an R (.sr (bS hm fun w N hm=> .c0 (y6t N) cf293 R (.an R (.sr (.an R (.sr (.an R (.seq (.sr (.an R (.block (bS hm fun p x hm=>?_))))))))))))));refine .cut1 (z:= .exit 0) p (fun (p:List Bool×List Int)=>⟨[(6,.h 1)],[(0,ROW rB 4 p.1),(1,ROW qI 3 p.2)],2⟩) ?_ fun M=>?_
  · skip
    refine .blkE (.seqN (.sr (.mv R (.an R (.ret ?_)))));cases hm;exact .rr [0,1] Tryz.results297 (.tmp R .nil) R I3 ⟨⟨_,R,I4⟩,⟨_,R,I4⟩,trivial⟩
  refine .nlg qI 3 6 0 R R (.iter (fun (d:List Bool×Int×Bool×List Int)=>⟨[(8,.i d.2.1),(7,.b d.2.2.1),(6,.h 1),(5,.f rE372 w),(2,.q 2 0),(1,.h 0)],[(0,ROW rB 4 d.1),(1,ROW qI 3 d.2.2.2),(2,.bx 191 (lx191 p0))],3⟩) x [(1,2),(2,1)] R ?_);intro d V hm o L;unfold y7E at hm;refine .seq (.sr (.mv R (.fa y9p R (.lb y6q R (.ln sl189 R (.bi R (.ns ?_)))))));refine .cc hm R (fun hm=>?_) fun hm=> .exit (.seqX (.seqX ((M _ (L _ (oi hm).symm)).sub [] R)));refine .skip (.seqN (.block (.sr (.mv R (.mv R (.op (O.bsF (r:=qI) (zs:=([d.2.1]:List Int)) bs32 R R Z R R R (.c .k .n) R R R) R (bS hm fun s H hm=> .op (O.ap 3 Tryz.underlying32 el3 R R Z R R (.fr R) H R) R (.an R (.sr (.fa y9p R (.lb y6q R (.mv R (bS hm fun m I hm=> .ix sl189 I R (.op (O.lg (l':=[lI m.1,lI m.2]) ag302 Z R (.E lv302) R R R) R (.al 4 zz302 R (.st ag302.sz R (.nr (.mv R (.fa ybi R (.lb nag3 R (.bi R (bS hm fun e J hm=> .ix sl368 J R (.op (O.lg (l':=[lI e.1,lV (.string e.2.1),lF2 Tryz.prog (fun (g:Bool) (j:Bool)=> [.bool g,.bool j]) (fun (r:Bool)=> .bool r) e.2.2.1,lF2 Tryz.prog (fun (g:Bool) (j:Bool)=> [.bool g,.bool j]) (fun (r:Bool)=> .bool r) e.2.2.2.1,lF1 Tryz.prog (fun (g:Bool)=> [.bool g]) (fun (r:Bool)=> .bool r) e.2.2.2.2]) ag372 Z R (.E lv372) R R R) R (.al 5 zz372 R (.st ag372.sz R (.nr ?_))))))))))))))))))))))))));refine .mv R (.bi R (.an R (.block (.sr (.fa ye6 R (.lb yb7 R (.op (O.fne2 Tryz.underlying135 Z R R R) R (.an R ?_))))))));refine .cc hm R (fun hm=>?_) fun hm=>?_
  ·refine .sub (τ:=⟨[(8,.i (W (d.2.1+1))),(10,.q 5 0),(9,.q 4 0),(6,.h 3),(7,.b d.2.2.1),(5,.f rE372 w),(2,.q 2 0),(1,.h 0)],[(0,ROW rB 4 d.1),(5,.bx 372 [lI e.1,lV (.string e.2.1),lF2 Tryz.prog (fun (g:Bool) (j:Bool)=> [.bool g,.bool j]) (fun (r:Bool)=> .bool r) e.2.2.1,lF2 Tryz.prog (fun (g:Bool) (j:Bool)=> [.bool g,.bool j]) (fun (r:Bool)=> .bool r) e.2.2.2.1,lF1 Tryz.prog (fun (g:Bool)=> [.bool g]) (fun (r:Bool)=> .bool r) e.2.2.2.2]),(4,.bx 302 [lI m.1,lI m.2]),(3,ROW qI 3 s),(2,.bx 191 (lx191 p0))],6⟩) ?_ [] R;refine bS hm fun S t hm=>bS hm fun X ef31 hm=>bS hm fun P D hm=>?_;refine .drg 6 [(6,[]),(6,[oT]),(6,[]),(6,[]),(6,[]),(6,[oF,oF,oF,oF,oT]),(6,fA 3 (tT 3)),(6,fA 3 (tT 4)),(6,tT 8),(6,tT 9)] [_,_,_,_,_,_,_,_,_,_] ⟨[(7,.b P),(8,.i (W (d.2.1+1))),(6,.h 3),(5,.f rE372 w),(2,.q 2 0),(1,.h 0)],[(0,ROW rB 4 d.1),(3,ROW qI 3 s),(2,.bx 191 (lx191 p0))],6⟩ ⟨O.faP ye6 Z R R,O.ld yb7 Z R (.B R) R R,O.mv Z R R,O.mv Z R R,O.faP y6w Z R R,O.ld nag3 Z R (.B R) R R,O.ir sl144 Z R R R t R,O.ld nag4 Z R (.R R t lv4) R R,O.fh2 (y:=d.2.2.1) (z:=S) R R R Z R ef31 D R R,O.as Z R R,trivial⟩ (by kernel_rfl) R ?_;exact .blkN (.blkN ((o _ (oi hm).symm).sub [(1,3)] R))
  ·refine .sr (.fa ycy R (.lb yb7 R (.op (O.fne2 Tryz.underlying135 Z R R R) R (.an R ?_))));refine .cc hm R (fun hm=>?_) fun hm=>?_
   ·refine .sub (τ:=⟨[(8,.i (W (d.2.1+1))),(10,.q 5 0),(9,.q 4 0),(6,.h 3),(7,.b d.2.2.1),(5,.f rE372 w),(2,.q 2 0),(1,.h 0)],[(0,ROW rB 4 d.1),(5,.bx 372 [lI e.1,lV (.string e.2.1),lF2 Tryz.prog (fun (g:Bool) (j:Bool)=> [.bool g,.bool j]) (fun (r:Bool)=> .bool r) e.2.2.1,lF2 Tryz.prog (fun (g:Bool) (j:Bool)=> [.bool g,.bool j]) (fun (r:Bool)=> .bool r) e.2.2.2.1,lF1 Tryz.prog (fun (g:Bool)=> [.bool g]) (fun (r:Bool)=> .bool r) e.2.2.2.2]),(4,.bx 302 [lI m.1,lI m.2]),(3,ROW qI 3 s),(2,.bx 191 (lx191 p0))],6⟩) ?_ [] R;refine bS hm fun T u hm=>bS hm fun Y ef34 hm=>bS hm fun Q F hm=>bS hm fun a2 v hm=>bS hm fun U K hm=>?_;refine .drg 6 [(6,[]),(6,[]),(6,[oF,oT]),(6,[]),(6,[oF,oF,oF,oT]),(6,[]),(6,[]),(6,[]),(6,[oF,oF,oF,oF,oF,oF,oF,oT]),(6,fA 6 (tT 3)),(6,fA 6 (tT 4)),(6,fA 3 (tT 8)),(6,tT 12),(6,tT 13)] [_,_,_,_,_,_,_,_,_,_,_,_,_,_] ⟨[(8,.i (W (d.2.1+1))),(6,.h 3),(7,.b d.2.2.1),(5,.f rE372 w),(2,.q 2 0),(1,.h 0)],[(0,ROW rB 4 U),(3,ROW qI 3 s),(2,.bx 191 (lx191 p0))],6⟩ ⟨O.mv Z R R,O.faP y6w Z R R,O.ld nag3 Z R (.B R) R R,O.faP ycy Z R R,O.ld yb7 Z R (.B R) R R,O.mv Z R R,O.mv Z R R,O.faP y6w Z R R,O.ld nag3 Z R (.B R) R R,O.ir sl144 Z R R R u R,O.ld nag4 Z R (.R R u lv4) R R,O.fh2 (y:=d.2.2.1) (z:=T) R R R Z R ef34 F R R,O.ir sl144 Z R R R v R,O.su (z:=Q) nag4.sz Z R R v K R R R lv4 R .b,trivial⟩ (by kernel_rfl) R ?_;exact .blkN (.blkN ((o _ (oi hm).symm).sub [(1,3)] R))
   ·refine .sr (.fa ye5 R (.lb yf4 R (.mv R (bS hm fun a0 ef38 hm=>bS hm fun a1 G hm=> .op (O.fh1 (y:=d.2.2.1) R R R Z R ef38 G R R) R (.an R ?_)))));exact .cc hm R (fun hm=> .reg (.fa y6w R (.lb nag3 R (.sa R (.nil (.blkN (.blkN ((o _ (oi hm).symm).sub [(1,3)] R)))))))) fun hm=> .skip (.blkN (.blkN ((o _ (oi hm).symm).sub [(1,3)] R)))
def y6F(p0:Int×Int×Int×List Bool×(List (Int×Int)))(p1:List Bool):Option (List Bool×List Bool):=
 (slc3 p1 p0.1 (W (p0.1+p0.2.1)) (W (p0.1+p0.2.1))).bind fun a=>
 (slc3 p1 (W (p0.1+p0.2.1)) (p1.length:Int) (p1.length:Int)).bind fun b=>
 some (a,b)
theorem yan{p0:Int×Int×Int×List Bool×(List (Int×Int))}{p1:List Bool}{r:(List Bool×List Bool)}(hm:y6F p0 p1=some r):
  F0 298 [.a (lx191 p0),.f rB p1] [] (.g [lF rB r.1,lF rB r.2]) []:=by
 unfold y6F at hm;refine Fw.mk2 Tryz.func298 Tryz.ntmps298 R (fun C=>?_) R;refine .sr (.bo 0 R (.al 1 zz197 R (.nr (.fa y9n R (.lb nag3 R (.fa y9o R (.lb nag3 R (.bi R (.an R (.seq ?_))))))))));refine .sub (τ:=⟨[(5,.i (W (p0.1+p0.2.1))),(4,.q 1 0),(2,.q 0 0),(1,.f rB p1)],[(1,.bx 197 [lN,lN]),(0,.bx 191 (lx191 p0))],2⟩) ?_ [] R;refine bS hm fun d b hm=>bS hm fun e c hm=>?_;refine .drg 2 [(2,[]),(2,[]),(2,[oF,oT]),(2,[]),(2,[]),(2,tT 5),(2,[]),(2,[]),(2,[]),(2,[oF,oF,oF,oF,oF,oF,oF,oF,oT]),(2,[]),(2,[oF,oF,oF,oF,oF,oF,oF,oF,oF,oF,oT]),(2,fA 6 (tT 6)),(2,tT 13),(2,tT 14)] [_,_,_,_,_,_,_,_,_,_,_,_,_,_,_] ⟨[(4,.q 1 0)],[(1,.bx 197 [lF rB d,lF rB e])],2⟩ ⟨O.mv Z R R,O.faP y9n Z R R,O.ld nag3 Z R (.B R) R R,O.mv Z R R,O.mv Z R R,O.s3 sl144 Z R R R R b R,O.mv Z R R,O.mv Z R R,O.mv Z R R,O.len sl144 Z R R,O.mv Z R R,O.len sl144 Z R R,O.s3 sl144 Z R R R R c R,O.bu (l:=[lF rB d,lF rB e]) pl197 R Z R R R,O.st ag197.sz Z R R R R R,trivial⟩ (by kernel_rfl) R ?_;refine .seqN (.ret ?_);cases hm;exact .rr [] Tryz.results298 (.cell R R ag197 R .nil) R I3 trivial
def y6T(p0:Int×Int×Int×List Bool×(List (Int×Int)))(p1:List Bool×List Bool)(p2:List Bool):Option ((List Bool×List Bool)×Int):=
 (y6E p0 p1 p2).bind fun a=>
 if(a.2 != 0) then
  some ((([]:List Bool),([]:List Bool)),a.2)
 else
  (y6S p0 a.1).bind fun b=>
  (y6F p0 b.2).bind fun c=>
  some (c,0)
theorem yaE{p0:Int×Int×Int×List Bool×(List (Int×Int))}{p1:List Bool×List Bool}{p2:List Bool}{r:(List Bool×List Bool)×Int}(hm:y6T p0 p1 p2=some r):
    F0 272 [.a (lx191 p0),.a [lF rB p1.1,lF rB p1.2],.f rB p2] [] (.tp [.a [lF rB r.1.1,lF rB r.1.2],.i r.2]) []:=by
  unfold y6T at hm;refine Fw.mk2 Tryz.func272 Tryz.ntmps272 R (fun C=>?_) R;refine .sr (.bo 0 R (.bo 1 R (.al 2 zz197 R (.an R (.sr (.op (O.lg (l':=(lx191 p0)) ag191 Z R (.B R) R R R) R (.op (O.lg (l':=[lF rB p1.1,lF rB p1.2]) ag197 Z R (.B R) R R R) R (.mv R (bS hm fun g b hm=> .op (O.ca (r':= .tp [.h 3,.i g.2]) [3] [(0,ROW rB 4 g.1)] (some 4) (yam b) cf296 R R Z R R R R ⟨⟨_,R,I4⟩,trivial⟩ I3 R) R (.mv R (.ex R (.ex R (.sa R (.an R (.seq (.sr (.mv R (.bi R (.ns ?_)))))))))))))))))));refine .cc hm R (fun hm=>?_) fun hm=>?_
  ·refine .sr (.op (O.bu (l:=[lN,lN]) pl197 R Z R R R) R (.mv R (.st ag197.sz R (.an R (.ret (.seqR (.cno 2 R (.c (.nf (r:=rB)) (.c (.nf (r:=rB)) .n)) R ?_)))))));cases hm;exact .rr [] Tryz.results272 (.cell R R ag197 R (.tmp R .nil)) R I3 trivial
  ·refine .skip (.seqN (.sr (.op (O.lg (l':=(lx191 p0)) ag191 Z R (.B R) R R R) R (.mv R (bS hm fun j d hm=> .op (O.ca (r':= .h 4) [3,4] [(0,ROW rB 4 j.2),(1,ROW qI 3 j.1)] (some 5) (yaD d) cf297 R R Z R R R R ⟨⟨_,R,I4⟩,⟨_,R,I4⟩,trivial⟩ I3 R) R (.nr (.op (O.lg (l':=(lx191 p0)) ag191 Z R (.B R) R R R) R (.mv R (.fz 3 [25] [] R R fR R R (bS hm fun k e hm=> .c0 (yan e) cf298 R (.st ag197.sz R (.an R (.ret ?_)))))))))))));cases hm;exact .rr [] Tryz.results272 (.cell R R ag197 R (.tmp R .nil)) R I3 trivial
def y7Q(p0:CodT)(p1:List Bool×List Bool)(p2:List Int):Option ((List Bool×List Bool)×Int):=
 (y7j p0 p2).bind fun a=>
 if(a.2 != 0) then
  some ((([]:List Bool),([]:List Bool)),a.2)
 else
  (y6T p0.1 p1 a.1).bind fun b=>
  some b
theorem ybs{p0:CodT}{p1:List Bool×List Bool}{r:(List Bool×List Bool)×Int}(hm:y7Q p0 p1 p2=some r):
    F0 244 [.a (lx193 p0),.a [lF rB p1.1,lF rB p1.2],.f qI p2] [] (.tp [.a [lF rB r.1.1,lF rB r.1.2],.i r.2]) []:=by
  unfold y7Q at hm;refine Fw.mk2 Tryz.func244 Tryz.ntmps244 R (fun C=>?_) R;refine .sr (.bo 0 R (.bo 1 R (.al 2 zz197 R (.an R (.sr (.op (O.lg (l':=(lx193 p0)) ag193 Z R (.B R) R R R) R (.mv R (bS hm fun e b hm=> .op (O.ca (r':= .tp [.h 3,.i e.2]) [3] [(0,ROW rB 4 e.1)] (some 4) (yaV b) cf271 R R Z R R R R ⟨⟨_,R,I4⟩,trivial⟩ I3 R) R (.mv R (.ex R (.ex R (.sa R (.an R (.seq (.sr (.mv R (.bi R (.ns ?_))))))))))))))))));refine .cc hm R (fun hm=>?_) fun hm=>?_
  ·refine .sr (.op (O.bu (l:=[lN,lN]) pl197 R Z R R R) R (.mv R (.st ag197.sz R (.an R (.ret (.seqR (.cno 2 R (.c (.nf (r:=rB)) (.c (.nf (r:=rB)) .n)) R ?_)))))));cases hm;exact .rr [] Tryz.results244 (.cell R R ag197 R (.tmp R .nil)) R I3 trivial
  ·refine .skip (.seqN (.sr (.fa ybj R (.op (O.lg (l':=(lx191 p0.1)) ag191 Z R (.B R) R R R) R (.op (O.lg (l':=[lF rB p1.1,lF rB p1.2]) ag197 Z R (.B R) R R R) R (.mv R (.fz 3 [23] [] R R fR R R (bS hm fun g d hm=> .c0 (yaE d) cf272 R (.ex R (.ex R (.st ag197.sz R (.an R (.ret ?_)))))))))))));cases hm;exact .rr [] Tryz.results244 (.cell R R ag197 R (.tmp R .nil)) R I3 trivial
def y3I(p0:BenT)(c:(List Bool×List Bool)×Int)(a:List Bool)(b:List Bool):Option (Int×BenT):=
 some (c.2,p0.1,p0.2.1,p0.2.2.1,a,b)
def y3J(a:Int×List Int)(b:List Int):Option ((Int×List Int)⊕(List Int)):=
 some (.inl (W (a.1+1),b))
def y6g(p0:BenT)(p1:List Int)(a:Int×List Int):Option ((Int×List Int)⊕(List Int)):=
 if decide (a.1<(p1.length:Int)) then
  (idx p1 a.1).bind fun b=>
  (ye p0.1.2.1.1 b).bind fun c=>
  if c then
   (app a.2 ([b]:List Int)).bind fun d=>
   y3J a d
  else
   y3J a a.2
 else
  some (.inr a.2)
def y3k(p0:BenT)(p1:List Int):Option (Int×BenT):=
 (iter (y6g p0 p1) (0,([]:List Int))).bind fun b=>
 (y5p b).bind fun c=>
 (y7Q p0.2.1 p0.2.2.2 c).bind fun a=>
 if(a.2==0) then
  y3I p0 a a.1.1 a.1.2
 else
  y3I p0 a p0.2.2.2.1 p0.2.2.2.2
theorem y5h{p0:BenT}{p1:List Int}{r:Int×BenT}(hm:y3k p0 p1=some r):
  Fw Tryz.prog 221 ⟨1,[0]⟩ [.o (lP 0 0),.f qI p1] [.bx 199 (lx199 p0)] (.i r.1) [.bx 199 (lx199 r.2)]:=by
 unfold y3k at hm;refine Fw.mk2 Tryz.func221 Tryz.ntmps221 R (fun C=>?_) R;refine .sr (.an R (.sr (.an R (.seq (.sr (.mv R (.ln sl32 R (.mv R (.ns (.block (bS hm fun p u hm=>?_)))))))))));refine .cut1 (z:= .exit 0) p (fun (p:List Int)=>⟨[(5,.h 1),(0,.q 0 0)],[(0,.bx 199 (lx199 p0)),(1,ROW qI 3 p)],2⟩) ?_ fun G=>?_
 ·skip
  refine .blkE (.seqN (.sr (.mv R (bS hm fun t v hm=> .op (O.ca (r':= .tp []) [1] [(0,ROW qI 3 t)] none (yaY v) cf206 R R Z R R R R ⟨⟨_,R,I4⟩,trivial⟩ I3 R) R (.ns (.seq (.fz 1 [29,5] [] R R fR R R ?_)))))));refine .sub (τ:=⟨[(5,.f qI t),(0,.q 0 0)],[(0,.bx 199 (lx199 p0))],2⟩) ?_ [] R;refine bS hm fun a w hm=>?_;refine .drz 3 [(13,2)] [(2,[],[],[]),(2,[oT],[],[]),(2,[oT,oT],[],[]),(2,[oT,oT,oT],[],[]),(2,[],[],[]),(2,[oF,oF,oF,oF,oT],[],[]),(2,[oF,oF,oF,oF,oT,oT],[],[]),(2,[oF,oF,oF,oF,oT,oT,oT],[],[]),(2,[],[],[]),(2,[oT,oT,oT,oT,oT,oT,oT,oT,oT],[],[]),(2,[oT,oT,oT,oT,oT,oT,oT,oT,oT,oT],[],[]),(2,[oT,oT,oT,oT,oT,oT,oT,oT,oT,oT,oT],[],[]),(2,[oT,oT,oT,oT,oT,oT,oT,oT,oT,oT,oT],[],[]),(2,[],[],[]),(3,[oT,oT,oT,oT,oT,oT,oT,oT,oT,oT,oT,oT,oF,oT],[],[]),(3,[oT,oT,oT,oT,oT,oT,oT,oT,oT,oT,oT,oT,oT,oT,oT],[],[(13,2)])] [_,_,_,_,_,_,_,_,_,_,_,_,_,_,_,_] ⟨[(9,.i a.2),(8,.q 2 0),(0,.q 0 0)],[(0,.bx 199 (lx199 p0)),(2,.bx 197 [lF rB a.1.1,lF rB a.1.2])],3⟩ ⟨O.mv Z R R,O.nc .B Z R R,O.faP ybm Z R R,O.lg (l':=(lx193 p0.2.1)) ag193 Z R (.B R) R R R,O.mv Z R R,O.nc .B Z R R,O.faP yae Z R R,O.lg (l':=[lF rB p0.2.2.2.1,lF rB p0.2.2.2.2]) ag197 Z R (.B R) R R R,O.mv Z R R,O.ca0 (ybs w) cf244 R R Z R R R,O.mv Z R R,O.ex Z R R R,O.ex Z R R R,O.al 2 R zz197 R Z R,O.st ag197.sz Z R R R R R,O.as Z R R,trivial⟩ (by kernel_rfl) R ?_;refine .seqN ?_;refine .join2 (fun (d:List Bool) (e:List Bool)=>y3I p0 a d e=some r) (fun d e=>⟨[(9,.i a.2)],[(0,.bx 199 [lF qI p0.1.1.1,lI p0.1.1.2.1,lF qI p0.1.1.2.2.1,lF qT p0.1.1.2.2.2,lF qI p0.1.2.1.1,lI p0.1.2.1.2.1,lF qI p0.1.2.1.2.2.1,lF qT p0.1.2.1.2.2.2,lF qI p0.1.2.2,lI p0.2.1.1.1,lI p0.2.1.1.2.1,lI p0.2.1.1.2.2.1,lF rB p0.2.1.1.2.2.2.1,lF rE302 p0.2.1.1.2.2.2.2,lF qI p0.2.1.2.1,lF qI p0.2.1.2.2.1,lI p0.2.1.2.2.2,lI p0.2.2.1,lF rB d,lF rB e])],1⟩) ?_ ?_
  ·intro d e hm;unfold y3I at hm;refine .sr (.mv R (.an R (.ret ?_)));cases hm;exact .rr [0] Tryz.results221 (.tmp R .nil) R I3 ⟨⟨_,R,I4⟩,trivial⟩
  ·intro j;refine .sr (.mv R (.bi R (.ns ?_)));exact .cc hm R (fun hm=> .reg (.mv R (.op (O.lg (l':=[lF rB a.1.1,lF rB a.1.2]) ag197 Z R (.B R) R R R) R (.op (O.nc .B Z R R) R (.fa yae R (.st ag197.sz R (.nil ((j _ _ hm).sub [] R)))))))) fun hm=> .skip ((j _ _ hm).sub [] R)
 refine .nlg qI 3 5 0 R R (.iter (fun (b:Int×List Int)=>⟨[(12,.i b.1),(11,.i (p1.length:Int)),(10,.f qI p1),(5,.h 1),(0,.q 0 0)],[(0,.bx 199 (lx199 p0)),(1,ROW qI 3 b.2)],2⟩) u [] R ?_);intro b s hm F E;unfold y6g at hm;refine .sr (.bi R (.ns (.seq ?_)));refine .cc hm R (fun hm=>?_) fun hm=> .exit (.seqX (.seqX ((G _ (E _ (oi hm).symm)).sub [] R)));refine .skip (.seqN ?_);refine .join1 (fun (g:List Int)=>y3J b g=some s) (fun g=>⟨[(5,.h 1),(12,.i b.1),(11,.i (p1.length:Int)),(10,.f qI p1),(0,.q 0 0)],[(0,.bx 199 (lx199 p0)),(1,ROW qI 3 g)],2⟩) ?_ ?_
 ·intro g hm;unfold y3J at hm;exact .reg (.bi R (.mv R (.nil ((F _ (oi hm).symm).sub [] R))))
 ·intro m;refine .block (.sr (bS hm fun H y hm=> .ix sl32 y R (.le nag3 lv3 R (.an R (.sr (.mv R (.op (O.nc .B Z R R) R (.fa y7f R (.fa y3g R (.fa yG R (.lb nag32 R (.mv R (bS hm fun I x hm=> .c0 (yk x) cf104 R (.ns ?_))))))))))))));exact .cc hm R (fun hm=> .reg (.mv R (.mv R (.op (O.bsF (r:=qI) (zs:=([H]:List Int)) bs32 R R Z R R R (.c .k .n) R R R) R (bS hm fun J D hm=> .op (O.ap 2 Tryz.underlying32 el3 R R Z R R (.fr R) D R) R (.sa R (.nil (.blkN ((m _ hm).sub [(1,2)] R))))))))) fun hm=> .skip (.blkN ((m _ hm).sub [] R))
def y5W(p0:CodT)(p1:List Bool×List Bool):Option Int:=
 if(((p1.1.length:Int) != p0.1.2.1)||((p1.2.length:Int) != p0.1.2.2.1)) then
  some 4
 else
  some 0
theorem y7k{p0:CodT}{p1:List Bool×List Bool}{r:Int}(hm:y5W p0 p1=some r):
    F0 245 [.a (lx193 p0),.a [lF rB p1.1,lF rB p1.2]] [] (.i r) []:=by
  unfold y5W at hm;refine Fw.mk2 Tryz.func245 Tryz.ntmps245 R (fun C=>?_) R;refine .sr (.bo 0 R (.bo 1 R (.an R (.seq (.sr (.fa yad R (.lb y2O R (.ln sl144 R (.fa ybj R (.fa y9o R (.lb nag3 R (.bi R (.mv R ?_)))))))))))));refine .cut 8 (fun (c:Bool)=>(((p1.1.length:Int) != p0.1.2.1)||((p1.2.length:Int) != p0.1.2.2.1))=c) (fun c=>⟨[(20,.b c)],[],2⟩) ?_ ?_
  · rintro _ rfl;refine .ns ?_;refine .cc hm R (fun hm=>?_) fun hm=>?_
    ·refine .sr (.an R (.ret (.seqR ?_)));cases hm;exact .rr [] Tryz.results245 (.tmp R .nil) R I3 trivial
    ·refine .skip (.seqN (.sr (.an R (.ret ?_))));cases hm;exact .rr [] Tryz.results245 (.tmp R .nil) R I3 trivial
  · intro e;rcases Bool.eq_false_or_eq_true ((p1.1.length:Int) != p0.1.2.1) with hc|hc
    · refine .know (d:=12) R hc ?_;exact .sk R (.sk R (.sk R (.sk R (.sk R (.sk R (.sk R (.op (O.pkT Z R R R R) R ((e true (orT hc).symm).sub [] R))))))))
    · refine .know (d:=12) R hc ?_;exact .op (O.faP ybl (Gu.mk R R) R R) R (.op (O.ld y2O (Gu.mk R R) R (.B R) R R) R (.op (O.len sl144 (Gu.mk R R) R R) R (.op (O.faP ybj (Gu.mk R R) R R) R (.op (O.faP yac (Gu.mk R R) R R) R (.op (O.ld nag3 (Gu.mk R R) R (.B R) R R) R (.op (O.bi (Gu.mk R R) R R R R) R (.op (O.pkF Z R R R R) R ((e ((p1.2.length:Int) != p0.1.2.2.1) (orF hc).symm).sub [] R))))))))
def y5l(a:Int×List Int)(b:List Int):Option ((Int×List Int)⊕(List Int)):=
 some (.inl (W (a.1+1),b))
def y7F(p0:CodT)(p1:List Bool×List Bool)(a:Int×List Int):Option ((Int×List Int)⊕(List Int)):=
 if decide (a.1<(p0.2.2.1.length:Int)) then
  (idx p0.2.2.1 a.1).bind fun b=>
  (idx p1.1 a.1).bind fun c=>
  if c then
   (app a.2 ([b]:List Int)).bind fun d=>
   y5l a d
  else
   y5l a a.2
 else
  some (.inr a.2)
def y6U(p0:CodT)(p1:List Bool×List Bool):Option (List Int×Int):=
 (y5W p0 p1).bind fun b=>
 if(b != 0) then
  some (([]:List Int),b)
 else
  (iter (y7F p0 p1) (0,([]:List Int))).bind fun a=>
  some (a,0)
theorem yaF{p0:CodT}{p1:List Bool×List Bool}{r:List Int×Int}(hm:y6U p0 p1=some r):
    F0 222 [.a (lx193 p0),.a [lF rB p1.1,lF rB p1.2]] [] (.tp [.h 0,.i r.2]) [ROW qI 3 r.1]:=by
  unfold y6U at hm;refine Fw.mk2 Tryz.func222 Tryz.ntmps222 R (fun C=>?_) R;refine .sr (.bo 0 R (.bo 1 R (.sa R (.an R (.seq (.sr (.op (O.lg (l':=(lx193 p0)) ag193 Z R (.B R) R R R) R (.op (O.lg (l':=[lF rB p1.1,lF rB p1.2]) ag197 Z R (.B R) R R R) R (bS hm fun E w hm=> .c0 (y7k w) cf245 R (.an R (.sr (.mv R (.bi R (.ns ?_))))))))))))));refine .cc hm R (fun hm=>?_) fun hm=>?_
  ·refine .sr (.mv R (.sa R (.an R (.ret (.seqR (.nlg qI 3 4 0 R R ?_))))));cases hm;exact .rr [2] Tryz.results222 (.tmp R (.tmp R .nil)) R I3 ⟨⟨_,R,I4⟩,trivial⟩
  ·refine .skip (.seqN (.sr (.an R (.seq (.sr (.fa ye7 R (.lb nag32 R (.ln sl32 R (.mv R (.ns (.block (bS hm fun g m hm=>?_))))))))))));refine .cut1 (z:= .exit 0) g (fun (g:List Int)=>⟨[(7,.h 0)],[(0,ROW qI 3 g)],1⟩) ?_ fun v=>?_
   · skip
     refine .blkE (.seqN (.sr (.mv R (.sa R (.an R (.ret ?_))))));cases hm;exact .rr [0] Tryz.results222 (.tmp R (.tmp R .nil)) R I3 ⟨⟨_,R,I4⟩,trivial⟩
   refine .nlg qI 3 7 0 R R (.iter (fun (b:Int×List Int)=>⟨[(19,.i b.1),(18,.i (p0.2.2.1.length:Int)),(17,.f qI p0.2.2.1),(7,.h 0),(3,.q 1 0)],[(0,ROW qI 3 b.2),(1,.bx 197 [lF rB p1.1,lF rB p1.2])],2⟩) m [(0,2)] R ?_);intro b j hm u t;unfold y7F at hm;refine .sr (.bi R (.ns (.seq ?_)));refine .cc hm R (fun hm=>?_) fun hm=> .exit (.seqX (.seqX ((v _ (t _ (oi hm).symm)).sub [] R)));refine .skip (.seqN ?_);refine .join1 (fun (d:List Int)=>y5l b d=some j) (fun d=>⟨[(7,.h 0),(19,.i b.1),(18,.i (p0.2.2.1.length:Int)),(17,.f qI p0.2.2.1),(3,.q 1 0)],[(0,ROW qI 3 d),(1,.bx 197 [lF rB p1.1,lF rB p1.2])],2⟩) ?_ ?_
   · intro d hm;unfold y5l at hm;exact .reg (.bi R (.mv R (.nil ((u _ (oi hm).symm).sub [] R))))
   · intro e;refine .block (.sr (.mv R (bS hm fun x o hm=> .ix sl32 o R (.le nag3 lv3 R (.sa R (.an R (.sr (.fa yad R (.lb y2O R (.mv R (bS hm fun y p hm=> .ix sl144 p R (.le nag4 lv4 R (.ns ?_)))))))))))));exact .cc hm R (fun hm=> .reg (.mv R (.mv R (.op (O.bsF (r:=qI) (zs:=([x]:List Int)) bs32 R R Z R R R (.c .k .n) R R R) R (bS hm fun D s hm=> .op (O.ap 2 Tryz.underlying32 el3 R R Z R R (.fr R) s R) R (.sa R (.nil (.blkN ((e _ hm).sub [(0,2)] R))))))))) fun hm=> .skip (.blkN ((e _ hm).sub [] R))
def y5Y(p0:BenT)(p1:Int)(p2:List Int):Option Bool:=
 (y3z p0 p1).bind fun c=>
 (if decide (c≥0) then
  (ye p2 p1).bind fun d=>
  (if d then
   some true
  else
   (ye p0.1.2.1.1 p1).bind fun e=>
   some (!e)).bind fun b=>
  some b
 else
  some false).bind fun a=>
 some a
theorem y9A{p0:BenT}(hm:y5Y p0 p1 p2=some r):
  F0 224 [.o (lQ 199 (lx199 p0) 0),.i p1,.f qI p2] [] (.b r) []:=by
 unfold y5Y at hm;refine Fw.mk2 Tryz.func224 Tryz.ntmps224 R (fun C=>?_) R;refine .sr (.an R (.sr (.mv R (.mv R (bS hm fun p j hm=> .c0 (y5n j) cf219 R (.bi R (.mv R (bS hm fun m eb2 hm=>?_))))))));refine .cut 15 (fun (a:Bool)=>m=a) (fun a=>⟨[(26,.b a)],[],0⟩) ?_ ?_
 ·rintro _ rfl;refine .an R (.ret ?_);cases hm;exact .rr [] Tryz.results224 (.tmp R .nil) R I3 trivial
 ·intro e;rcases ifS eb2 with ⟨hc,hm⟩|⟨hc,hm⟩
  ·refine .know (d:=11) R hc ?_;refine .op (O.mv (Gu.mk R R) R R) R (.op (O.mv (Gu.mk R R) R R) R (bS hm fun q k hm=> .op (O.ca0 (yk k) cf104 R R (Gu.mk R R) R R R) R (.op (O.mv (Gu.mk R R) R R) R (bS hm fun h eb6 hm=>?_))));refine .cut 10 (fun (c:Bool)=>h=c) (fun c=>⟨[(25,.b c),(11,.b true)],[],0⟩) ?_ ?_
   ·rintro _ rfl;exact .op (O.pkT Z R R R R) R ((e h (oi hm).symm).sub [] R)
   ·intro g;rcases ifS eb6 with ⟨hc,hm⟩|⟨hc,hm⟩
    ·refine .know (d:=15) R hc ?_;exact .sk R (.sk R (.sk R (.sk R (.sk R (.sk R (.sk R (.sk R (.sk R (.op (O.pkT (Gu.mk R R) R R R R) R ((g true (oi hm).symm).sub [] R))))))))))
    ·refine .know (d:=15) R hc ?_;exact .op (O.mv (Gu.mk R R) R R) R (.op (O.nc .Q (Gu.mk R R) R R) R (.op (O.faQ y7f (Gu.mk R R) R R) R (.op (O.faQ y3g (Gu.mk R R) R R) R (.op (O.faQ yG (Gu.mk R R) R R) R (.op (O.ld nag32 (Gu.mk R R) R .Q R R) R (.op (O.mv (Gu.mk R R) R R) R (bS hm fun n l hm=> .op (O.ca0 (yk l) cf104 R R (Gu.mk R R) R R R) R (.op (O.not (Gu.mk R R) R R) R (.op (O.pkF (Gu.mk R R) R R R R) R ((g (!n) (oi hm).symm).sub [] R))))))))))
  ·refine .know (d:=11) R hc ?_;exact .sk R (.sk R (.sk R (.sk R (.op (O.skipU R R R) R (.op (O.skipU R R R) R (.op (O.skipU R R R) R (.op (O.skipU R R R) R (.op (O.skipU R R R) R (.op (O.skipU R R R) R (.op (O.skipU R R R) R (.op (O.skipU R R R) R (.op (O.skipU R R R) R (.sk R (.op (O.pkF Z R R R R) R ((e false (oi hm).symm).sub [] R)))))))))))))))
def y4p(a:Option BenT)(b:StpT)(p0:Int):Option Bool:=
 a.bind fun d=>
 (y5Y d p0 b.2.2.1).bind fun c=>
 some c
theorem y8t{e:Option BenT}{f:StpT}{p0:Int}(hm:y4p e f p0=some r):
  F0 223 [.i p0,.o (lQ 276 [lK rE199 199 e] 0),.o (lQ 100 (lx100 f) 0)] [] (.b r) []:=by
 unfold y4p at hm;refine Fw.mk2 Tryz.func223 Tryz.ntmps223 R (fun C=>?_) R;refine .sr (.an R (.sr (.lq y4H R (.mv R (.fq yaf R (.lq nag32 R (bS hm fun h d hm=> .cnt 5 R (.c (.pd d lv199) .n) R (bS hm fun g a hm=> .c0 (y9A a) cf224 R (.an R (.ret ?_))))))))));cases hm;exact .rr [] Tryz.results223 (.tmp R .nil) R I3 trivial
def y4q(a:BenT×Int×Bool×List Int)(d:BenT)(b:Bool)(c:List Int):Option ((BenT×Int×Bool×List Int)⊕(BenT×Bool×List Int)):=
 some (.inl (d,W (a.2.1+1),b,c))
def y6u(p1:List Int)(p2:Int)(a:BenT×Int×Bool×List Int):Option ((BenT×Int×Bool×List Int)⊕(BenT×Bool×List Int)):=
 if decide (a.2.1<(p1.length:Int)) then
  (idx p1 a.2.1).bind fun c=>
  (y4b a.1 c).bind fun b=>
  if b.1 then
   (app a.2.2.2 ([c]:List Int)).bind fun f=>
   (if a.2.2.1 then
    (y3z b.2 p2).bind fun e=>
    some (decide (e≥0))
   else
    some false).bind fun d=>
   y4q a b.2 d f
  else
   y4q a b.2 a.2.2.1 a.2.2.2
 else
  some (.inr (a.1,a.2.2))
def y5P(p0:BenT)(p1:List Int)(p2:Int):Option (List Int×Bool×BenT):=
 (iter (y6u p1 p2) (p0,0,(p2 != (-1)),([]:List Int))).bind fun a=>
 some (a.2.2,a.2.1,a.1)
theorem y9g{p0:BenT}{p1:List Int}{p2:Int}{r:List Int×Bool×BenT}(hm:y5P p0 p1 p2=some r):
  Fw Tryz.prog 225 ⟨1,[0]⟩ [.o (lP 0 0),.f qI p1,.i p2] [.bx 199 (lx199 p0)] (.tp [.h 1,.b r.2.1]) [.bx 199 (lx199 r.2.2),ROW qI 3 r.1]:=by
 unfold y5P at hm;refine Fw.mk2 Tryz.func225 Tryz.ntmps225 R (fun C=>?_) R;refine .sr (.sa R (.an R (.sr (.mv R (.bi R (.an R (.seq (.sr (.mv R (.ln sl32 R (.mv R (.ns (.block (bS hm fun e v hm=>?_))))))))))))));refine .cut1 (z:= .exit 0) e (fun (e:BenT×Bool×List Int)=>⟨[(7,.b e.2.1),(6,.h 1)],[(0,.bx 199 (lx199 e.1)),(1,ROW qI 3 e.2.2)],2⟩) ?_ fun F=>?_
 ·skip
  refine .blkE (.seqN (.sr (.mv R (.mv R (.sa R (.an R (.ret ?_)))))));cases hm;exact .rr [0,1] Tryz.results225 (.tmp R (.tmp R .nil)) R I3 ⟨⟨_,R,I4⟩,⟨_,R,I4⟩,trivial⟩
 refine .nlg qI 3 6 0 R R (.iter (fun (a:BenT×Int×Bool×List Int)=>⟨[(14,.i a.2.1),(13,.i (p1.length:Int)),(12,.f qI p1),(7,.b a.2.2.1),(6,.h 1),(0,.q 0 0),(2,.i p2)],[(0,.bx 199 (lx199 a.1)),(1,ROW qI 3 a.2.2.2)],2⟩) v [] R ?_);intro a t hm E D;unfold y6u at hm;refine .sr (.bi R (.ns (.seq ?_)));refine .cc hm R (fun hm=>?_) fun hm=> .exit (.seqX (.seqX ((F _ (D _ (oi hm).symm)).sub [] R)));refine .skip (.seqN ?_);refine .join3 (fun (l:BenT) (g:Bool) (j:List Int)=>y4q a l g j=some t) (fun l g j=>⟨[(7,.b g),(6,.h 1),(14,.i a.2.1),(13,.i (p1.length:Int)),(12,.f qI p1),(0,.q 0 0),(2,.i p2)],[(0,.bx 199 (lx199 l)),(1,ROW qI 3 j)],2⟩) ?_ ?_
 ·intro l g j hm;unfold y4q at hm;exact .reg (.bi R (.mv R (.nil ((E _ (oi hm).symm).sub [] R))))
 ·intro m;refine .block (.sr (bS hm fun I y hm=> .ix sl32 y R (.le nag3 lv3 R (.an R (.sr (.mv R (.mv R (bS hm fun p w hm=> .op (O.ca (r':= .b p.1) [0] [(0,.bx 199 (lx199 p.2))] none (y5D w) cf186 R R Z R R R R ⟨⟨_,R,I4⟩,trivial⟩ I3 R) R (.ns ?_)))))))));refine .cc hm R (fun hm=>?_) fun hm=> .skip (.blkN ((m _ _ _ hm).sub [] R));refine .sr (.mv R (.mv R (.op (O.bsF (r:=qI) (zs:=([I]:List Int)) bs32 R R Z R R R (.c .k .n) R R R) R (bS hm fun J B hm=> .op (O.ap 2 Tryz.underlying32 el3 R R Z R R (.fr R) B R) R (.an R (.reg (.mv R (.mv R (bS hm fun G eb32 hm=>?_)))))))));refine .cut 5 (fun (s:Bool)=>G=s) (fun s=>⟨[(31,.b s),(6,.h 2),(14,.i a.2.1),(13,.i (p1.length:Int)),(12,.f qI p1),(0,.q 0 0),(2,.i p2)],[(0,.bx 199 (lx199 p.2)),(2,ROW qI 3 J)],3⟩) ?_ ?_
  ·rintro _ rfl;exact .sa R (.nil (.blkN ((m _ _ _ hm).sub [(1,2)] R)))
  ·intro u;rcases ifS eb32 with ⟨hc,hm⟩|⟨hc,hm⟩
   ·refine .know (d:=26) R hc ?_;exact .op (O.mv (Gu.mk R R) R R) R (.op (O.mv (Gu.mk R R) R R) R (bS hm fun H x hm=> .op (O.caZ (y5n x) cf219 R R (Gu.mk R R) R ⟨⟨R,(.q R LnL.rf),trivial⟩,⟨R,LnL.rf⟩,trivial⟩ (fun _ _ _ _ _ h=>h) R) R (.op (O.bi (Gu.mk R R) R R R R) R (.op (O.pkT Z R R R R) R ((u (decide (H≥0)) (oi hm).symm).sub [] R)))))
   ·refine .know (d:=26) R hc ?_;exact .sk R (.sk R (.sk R (.sk R (.op (O.pkF Z R R R R) R ((u false (oi hm).symm).sub [] R)))))
def y5H(a:Int×Int×Int)(b:Int)(c:Int):Option ((Int×Int×Int)⊕(Int×Int)):=
 some (.inl (W (a.1+1),b,c))
def y8c(b:List Bool)(a:Int×Int×Int):Option ((Int×Int×Int)⊕(Int×Int)):=
 if decide (a.1<(b.length:Int)) then
  (idx b a.1).bind fun c=>
  if c then
   y5H a (W (a.2.1+1)) a.1
  else
   y5H a a.2.1 a.2.2
 else
  some (.inr a.2)
def y7x(p0:CodT)(p1:List Bool×List Bool):Option (Int×Int):=
 (y5W p0 p1).bind fun b=>
 if(b != 0) then
  some (0,b)
 else
  (slc p1.2 0 p0.2.2.2).bind fun c=>
  (iter (y8c c) (0,0,0)).bind fun a=>
  if(a.1 != 1) then
   some (0,22)
  else
   some (a.2,0)
theorem ybb{p0:CodT}{p1:List Bool×List Bool}{r:Int×Int}(hm:y7x p0 p1=some r):
    F0 226 [.a (lx193 p0),.a [lF rB p1.1,lF rB p1.2]] [] (.tp [.i r.1,.i r.2]) []:=by
  unfold y7x at hm;refine Fw.mk2 Tryz.func226 Tryz.ntmps226 R (fun C=>?_) R;refine .sr (.bo 0 R (.bo 1 R (.sa R (.an R (.seq (.sr (.op (O.lg (l':=(lx193 p0)) ag193 Z R (.B R) R R R) R (.op (O.lg (l':=[lF rB p1.1,lF rB p1.2]) ag197 Z R (.B R) R R R) R (bS hm fun u q hm=> .c0 (y7k q) cf245 R (.an R (.sr (.mv R (.bi R (.ns ?_))))))))))))));refine .cc hm R (fun hm=>?_) fun hm=>?_
  ·refine .sr (.mv R (.sa R (.an R (.ret (.seqR ?_)))));cases hm;exact .rr [] Tryz.results226 (.tmp R (.tmp R .nil)) R I3 trivial
  ·refine .skip (.seqN (.sr (.an R (.seq (.sr (.fa ybl R (.lb y2O R (.fa ygE R (.lb nag3 R (bS hm fun j s hm=> .op (O.sh sl144 Z R R s R) R (.ln sl144 R (.mv R (.ns (.block (bS hm fun e k hm=>?_)))))))))))))));refine .cut1 (z:= .exit 0) e (fun (e:Int×Int)=>⟨[(7,.i e.1),(4,.i e.2)],[],0⟩) ?_ fun p=>?_
   · skip
     refine .blkE (.seqN (.seq (.sr (.mv R (.bi R (.ns ?_))))));refine .cc hm R (fun hm=>?_) fun hm=>?_
     ·refine .sr (.sa R (.an R (.ret (.seqR ?_))));cases hm;exact .rr [] Tryz.results226 (.tmp R (.tmp R .nil)) R I3 trivial
     ·refine .skip (.seqN (.sr (.mv R (.sa R (.an R (.ret ?_))))));cases hm;exact .rr [] Tryz.results226 (.tmp R (.tmp R .nil)) R I3 trivial
   refine .iter (fun (b:Int×Int×Int)=>⟨[(22,.i b.1),(21,.i (j.length:Int)),(20,.f rB j),(7,.i b.2.1),(4,.i b.2.2)],[],0⟩) k [] R ?_;intro b h hm o n;unfold y8c at hm;refine .sr (.bi R (.ns (.seq ?_)));refine .cc hm R (fun hm=>?_) fun hm=> .exit (.seqX (.seqX ((p _ (n _ (oi hm).symm)).sub [] R)));refine .skip (.seqN ?_);refine .join2 (fun (c:Int) (d:Int)=>y5H b c d=some h) (fun c d=>⟨[(7,.i c),(4,.i d),(22,.i b.1),(21,.i (j.length:Int)),(20,.f rB j)],[],0⟩) ?_ ?_
   · intro c d hm;unfold y5H at hm;exact .reg (.bi R (.mv R (.nil ((o _ (oi hm).symm).sub [] R))))
   · intro g;refine .block (.sr (.mv R (bS hm fun t m hm=> .ix sl144 m R (.le nag4 lv4 R (.sa R (.an R (.sr (.mv R (.ns ?_)))))))));exact .cc hm R (fun hm=> .reg (.mv R (.mv R (.bi R (.sa R (.sa R (.nil (.blkN ((g _ _ hm).sub [] R))))))))) fun hm=> .skip (.blkN ((g _ _ hm).sub [] R))
def y6V(p0:CodT)(p1:List Bool×List Bool):Option (Bool×Int):=
 (y5W p0 p1).bind fun a=>
 if(a != 0) then
  some (false,a)
 else
  (idx p1.1 (p0.2.2.1.length:Int)).bind fun b=>
  some (b,0)
theorem yaG{p0:CodT}{p1:List Bool×List Bool}{r:Bool×Int}(hm:y6V p0 p1=some r):
    F0 227 [.a (lx193 p0),.a [lF rB p1.1,lF rB p1.2]] [] (.tp [.b r.1,.i r.2]) []:=by
  unfold y6V at hm;refine Fw.mk2 Tryz.func227 Tryz.ntmps227 R (fun C=>?_) R;refine .sr (.bo 0 R (.bo 1 R (.sa R (.an R (.seq (.sr (.op (O.lg (l':=(lx193 p0)) ag193 Z R (.B R) R R R) R (.op (O.lg (l':=[lF rB p1.1,lF rB p1.2]) ag197 Z R (.B R) R R R) R (bS hm fun e c hm=> .c0 (y7k c) cf245 R (.an R (.sr (.mv R (.bi R (.ns ?_))))))))))))));refine .cc hm R (fun hm=>?_) fun hm=>?_
  ·refine .sr (.mv R (.sa R (.an R (.ret (.seqR ?_)))));cases hm;exact .rr [] Tryz.results227 (.tmp R (.tmp R .nil)) R I3 trivial
  ·refine .skip (.seqN (.sr (.fa yad R (.lb y2O R (.fa ye7 R (.lb nag32 R (.ln sl32 R (bS hm fun f d hm=> .ix sl144 d R (.le nag4 lv4 R (.sa R (.an R (.ret ?_))))))))))));cases hm;exact .rr [] Tryz.results227 (.tmp R (.tmp R .nil)) R I3 trivial
def y3V(d:BenT×List Int)(e:List Int×Int)(f:Int)(b:List Int×Bool×BenT)(a:BenT):Option (StpT×Int×BenT):=
 (y7x a.2.1 a.2.2.2).bind fun c=>
 if(c.2 != 0) then
  some ((d.2,b.1,e.1,f,b.2.1,c.1,false),c.2,a)
 else
  (y6V a.2.1 a.2.2.2).bind fun g=>
  some ((d.2,b.1,e.1,f,b.2.1,c.1,g.1),g.2,a)
def y3W(c:BenT×List Int)(d:List Int×Int)(b:Int)(a:List Int×Bool×BenT)(g:BenT):Option (StpT×Int×BenT):=
 (y3k g a.1).bind fun e=>
 if(e.1 != 0) then
  some ((c.2,a.1,d.1,b,a.2.1,0,false),e)
 else
  if a.2.1 then
   (y3k e.2 ([b]:List Int)).bind fun f=>
   if(f.1 != 0) then
    some ((c.2,a.1,d.1,b,a.2.1,0,false),f)
   else
    y3V c d b a f.2
  else
   y3V c d b a e.2
def y3X(a:BenT×Int×List Int)(c:BenT)(b:List Int):Option ((BenT×Int×List Int)⊕(BenT×List Int)):=
 some (.inl (c,W (a.2.1+1),b))
def y6l(p1:CycT)(a:BenT×Int×List Int):Option ((BenT×Int×List Int)⊕(BenT×List Int)):=
 if decide (a.2.1<(p1.1.length:Int)) then
  (idx p1.1 a.2.1).bind fun c=>
  (y4b a.1 c).bind fun b=>
  if b.1 then
   (app a.2.2 ([c]:List Int)).bind fun d=>
   y3X a b.2 d
  else
   y3X a b.2 a.2.2
 else
  some (.inr (a.1,a.2.2))
def y5E(p0:BenT)(p1:CycT)(p2:(Int→Option Bool)→Option Int):Option (StpT×Int×BenT):=
 (iter (y6l p1) (p0,0,([]:List Int))).bind fun a=>
 (y3k a.1 a.2).bind fun b=>
 if(b.1 != 0) then
  some ((a.2,([]:List Int),([]:List Int),0,false,0,false),b)
 else
  (y6U b.2.2.1 b.2.2.2.2).bind fun c=>
  if(c.2 != 0) then
   some ((a.2,([]:List Int),c.1,0,false,0,false),c.2,b.2)
  else
   (p2 (y4p (some b.2) (a.2,([]:List Int),c.1,0,false,0,false))).bind fun e=>
   (y5P b.2 p1.2.1 e).bind fun d=>
   if d.2.1 then
    (y4b d.2.2 e).bind fun f=>
    y3W a c e d f.2
   else
    y3W a c e d d.2.2
theorem y8Y{p0:BenT}{p1:CycT}{p2:(Int→Option Bool)→Option Int}{r:StpT×Int×BenT}(hm:y5E p0 p1 p2=some r):
    Fw Tryz.prog 192 ⟨1,[0]⟩ [.o (lP 0 0),.a [lF qI p1.1,lF qI p1.2.1,lI p1.2.2],.o (lW Tryz.prog (fun (x:(Int→Option Bool))=> [.o (lW Tryz.prog (fun (x:Int)=> [.i x]) (fun (r:Bool)=> .b r) x)]) (fun (r:Int)=> .i r) p2)] [.bx 199 (lx199 p0)] (.tp [.a [lF qI r.1.1,lF qI r.1.2.1,lH 1,lI r.1.2.2.2.1,lB r.1.2.2.2.2.1,lI r.1.2.2.2.2.2.1,lB r.1.2.2.2.2.2.2],.i r.2.1]) [.bx 199 (lx199 r.2.2),ROW qI 3 r.1.2.2.1]:=by
  unfold y5E at hm;refine Fw.mk2 Tryz.func192 Tryz.ntmps192 R (fun C=>?_) R;refine .sr (.bo 1 R (.bo 2 R (.al 3 zz100 R (.an R (.seq (.sr (.fa ycw R (.lb nag32 R (.ln sl32 R (.mv R (.ns (.block (bS hm fun e N hm=>?_)))))))))))));refine .cut1 (z:= .exit 0) e (fun (e:BenT×List Int)=>⟨[(6,.q 1 0),(4,.q 3 0),(3,.q 4 0),(2,.o (lW Tryz.prog (fun (x:(Int→Option Bool))=> [.o (lW Tryz.prog (fun (x:Int)=> [.i x]) (fun (r:Bool)=> .b r) x)]) (fun (r:Int)=> .i r) p2))],[(0,.bx 199 (lx199 e.1)),(1,.bx 100 [lH 2,lN,lN,lI 0,lB false,lI 0,lB false]),(2,ROW qI 3 e.2),(3,.bx 114 [lF qI p1.1,lF qI p1.2.1,lI p1.2.2]),(4,.bx 276 [lP 0 0])],5⟩) ?_ fun a5=>?_
  · skip
    refine .blkE (.seqN (.seq (.sr (.lb y4H R (.fa y6x R (.lb nag32 R (.fz 2 [29] [1] R R fR R R (bS hm fun s P hm=> .op (O.ca (r':= .i s.1) [0] [(0,.bx 199 (lx199 s.2))] none (y5h P) cf221 R R Z R R R R ⟨⟨_,R,I4⟩,trivial⟩ I3 R) R (.an R (.sr (.mv R (.bi R (.ns ?_)))))))))))));refine .cc hm R (fun hm=>?_) fun hm=>?_
    ·refine .sr (.op (O.lg (l':=[lF qI e.2,lN,lN,lI 0,lB false,lI 0,lB false]) ag100 Z R (.B R) R R R) R (.mv R (.st ag100.sz R (.an R (.ret (.seqR (.nlb qI 3 1 2 R R (.cno 1 R (.c .rf (.c (.nf (r:=qI)) .rf)) R ?_))))))));cases hm;exact .rr [0,5] Tryz.results192 (.cell R R ag100 R (.tmp R .nil)) R I3 ⟨⟨_,R,I4⟩,⟨_,R,I4⟩,trivial⟩
    ·refine .skip (.seqN (.seq (.seq ?_)));refine .sub (τ:=⟨[(6,.q 1 0),(4,.q 3 0),(3,.q 4 0),(2,.o (lW Tryz.prog (fun (x:(Int→Option Bool))=> [.o (lW Tryz.prog (fun (x:Int)=> [.i x]) (fun (r:Bool)=> .b r) x)]) (fun (r:Int)=> .i r) p2))],[(0,.bx 199 (lx199 s.2)),(1,.bx 100 [lF qI e.2,lN,lN,lI 0,lB false,lI 0,lB false]),(3,.bx 114 [lF qI p1.1,lF qI p1.2.1,lI p1.2.2]),(4,.bx 276 [lP 0 0])],5⟩) ?_ [] R;refine bS hm fun g Q hm=>?_;refine .drd 6 [(5,[],[]),(5,[oT],[]),(5,[oT,oT],[]),(5,[oT,oT,oT],[]),(5,[],[]),(5,[oF,oF,oF,oF,oT],[]),(5,[oF,oF,oF,oF,oT,oT],[]),(5,[oF,oF,oF,oF,oT,oT,oT],[]),(5,[oT,oT,oT,oT,oT,oT,oT,oT],[]),(6,[oT,oT,oT,oT,oT,oT,oT,oT,oT],[]),(6,[oT,oT,oT,oT,oT,oT,oT,oT,oT,oT],[]),(6,[oT,oT,oT,oT,oT,oT,oT,oT,oT,oT],[1]),(6,[oT,oT,oT,oT,oT,oT,oT,oT,oT,oT,oT],[]),(6,[oT,oT,oT,oT,oT,oT,oT,oT,oT,oT,oT,oF,oT],[]),(6,[oT,oT,oT,oT,oT,oT,oT,oT,oT,oT,oT,oT,oT,oT],[])] [_,_,_,_,_,_,_,_,_,_,_,_,_,_,_] ⟨[(7,.i g.2),(6,.q 1 0),(4,.q 3 0),(3,.q 4 0),(2,.o (lW Tryz.prog (fun (x:(Int→Option Bool))=> [.o (lW Tryz.prog (fun (x:Int)=> [.i x]) (fun (r:Bool)=> .b r) x)]) (fun (r:Int)=> .i r) p2))],[(0,.bx 199 (lx199 s.2)),(1,.bx 100 [lF qI e.2,lN,lH 5,lI 0,lB false,lI 0,lB false]),(5,ROW qI 3 g.1),(3,.bx 114 [lF qI p1.1,lF qI p1.2.1,lI p1.2.2]),(4,.bx 276 [lP 0 0])],6⟩ ⟨O.ld y4H Z R (.B R) R R,O.nc .B Z R R,O.faP ybm Z R R,O.lg (l':=(lx193 s.2.2.1)) ag193 Z R (.B R) R R R,O.ld y4H Z R (.B R) R R,O.nc .B Z R R,O.faP yae Z R R,O.lg (l':=[lF rB s.2.2.2.2.1,lF rB s.2.2.2.2.2]) ag197 Z R (.B R) R R R,O.ca (r':= .tp [.h 5,.i g.2]) [5] [(0,ROW qI 3 g.1)] (some 6) (yaF Q) cf222 R R Z R R R R ⟨⟨_,R,I4⟩,trivial⟩ I3 R,O.mv Z R R,O.ex Z R R R,O.ex Z R R R,O.faP yaf Z R R,O.st nag32.sz Z R R R R R,O.as Z R R,trivial⟩ (by kernel_rfl) R ?_;refine .seqN (.sr (.mv R (.bi R (.ns ?_))));refine .cc hm R (fun hm=>?_) fun hm=>?_
     ·refine .sr (.op (O.lg (l':=[lF qI e.2,lN,lH 5,lI 0,lB false,lI 0,lB false]) ag100 Z R (.B R) R R R) R (.mv R (.st ag100.sz R (.an R (.ret (.seqR (.cno 1 R (.c .rf (.c (.nf (r:=qI)) .rf)) R ?_)))))));cases hm;exact .rr [0,5] Tryz.results192 (.cell R R ag100 R (.tmp R .nil)) R I3 ⟨⟨_,R,I4⟩,⟨_,R,I4⟩,trivial⟩
     ·refine .skip (.seqN (.sr (.mv R (.op (O.mz (l:=[lP 4 0,lP 1 0]) Z R R) R (bS hm fun m S hm=>?_)))));refine .op (O.fvZ (args:=(fun (x:(Int→Option Bool))=> [.o (lW Tryz.prog (fun (x:Int)=> [.i x]) (fun (r:Bool)=> .b r) x)])) (res:=(fun (r:Int)=> .i r)) (y:=(y4p (some s.2) (e.2,([]:List Int),g.1,0,false,0,false))) R R R Z R ⟨⟨R,(.z (l':=[lQ 276 [lK rE199 199 (some s.2)] 0,lQ 100 [lF qI e.2,lF qI [],lF qI g.1,lI 0,lB false,lI 0,lB false] 0]) cf223 (fun x r h=>y8t h) (fun _=>R) R ⟨(.q R ⟨(.cv (.q R LnL.rf) (.pk (r:=rE199) (.p (.p (.p .l (.p .k (.p .l .l))) (.p (.p .l (.p .k (.p .l .l))) .l)) (.p (.p (.p .k (.p .k (.p .k (.p .l .l)))) (.p .l (.p .l .k))) (.p .k (.p .l .l)))))),trivial⟩),(.q R ⟨.rf,(.cv .rf (.nf (r:=qI))),.hr R,.rf,.rf,.rf,.rf,trivial⟩),trivial⟩),trivial⟩,trivial⟩ S (fun _ _ _ _ _ h=>h) R) R ?_;refine .fa y5S R (.st nag3.sz R (.nr (.lb y4H R (.fa ycx R (.lb nag32 R (.fa y5S R (.lb nag3 R (bS hm fun d T hm=> .op (O.ca (r':= .tp [.h 6,.b d.2.1]) [0,6] [(0,.bx 199 (lx199 d.2.2)),(1,ROW qI 3 d.1)] (some 7) (y9g T) cf225 R R Z R R R R ⟨⟨_,R,I4⟩,⟨_,R,I4⟩,trivial⟩ I3 R) R (.mv R (.ex R (.ex R (.fa yag R (.st nag32.sz R (.fa y7g R (.st nag4.sz R (.ns ?_))))))))))))))));refine .join1 (fun (w:BenT)=>y3W e g m d w=some r) (fun w=>⟨[(6,.q 1 0),(3,.q 4 0)],[(0,.bx 199 (lx199 w)),(1,.bx 100 [lF qI e.2,lH 2,lH 3,lI m,lB d.2.1,lI 0,lB false]),(2,ROW qI 3 d.1),(3,ROW qI 3 g.1),(4,.bx 276 [lP 0 0])],5⟩) ?_ ?_
      · intro w hm;unfold y3W at hm;refine .seq (.sr (.lb y4H R (.fa yag R (.lb nag32 R (.fz 2 [75] [1] R R fR R R (bS hm fun J U hm=> .op (O.ca (r':= .i J.1) [0] [(0,.bx 199 (lx199 J.2))] none (y5h U) cf221 R R Z R R R R ⟨⟨_,R,I4⟩,trivial⟩ I3 R) R (.an R (.sr (.mv R (.bi R (.ns ?_)))))))))));refine .cc hm R (fun hm=>?_) fun hm=>?_
        ·refine .sr (.op (O.lg (l':=[lF qI e.2,lF qI d.1,lH 3,lI m,lB d.2.1,lI 0,lB false]) ag100 Z R (.B R) R R R) R (.mv R (.st ag100.sz R (.an R (.ret (.seqR ?_))))));cases hm;exact .rr [0,3] Tryz.results192 (.cell R R ag100 R (.tmp R .nil)) R I3 ⟨⟨_,R,I4⟩,⟨_,R,I4⟩,trivial⟩
        ·refine .skip (.seqN ?_);refine .join1 (fun (j:BenT)=>y3V e g m d j=some r) (fun j=>⟨[(6,.q 1 0),(3,.q 3 0)],[(0,.bx 199 (lx199 j)),(1,.bx 100 [lF qI e.2,lF qI d.1,lH 2,lI m,lB d.2.1,lI 0,lB false]),(2,ROW qI 3 g.1),(3,.bx 276 [lP 0 0])],4⟩) ?_ ?_
         · intro j hm;unfold y3V at hm;refine .seq (.seq ?_);refine .sub (τ:=⟨[(6,.q 1 0),(3,.q 3 0)],[(0,.bx 199 (lx199 j)),(1,.bx 100 [lF qI e.2,lF qI d.1,lH 2,lI m,lB d.2.1,lI 0,lB false]),(2,ROW qI 3 g.1),(3,.bx 276 [lP 0 0])],4⟩) ?_ [] R;refine bS hm fun u V hm=>?_;refine .drd 4 [(4,[],[]),(4,[oT],[]),(4,[oT,oT],[]),(4,[oT,oT,oT],[]),(4,[],[]),(4,[oF,oF,oF,oF,oT],[]),(4,[oF,oF,oF,oF,oT,oT],[]),(4,[oF,oF,oF,oF,oT,oT,oT],[]),(4,[oT,oT,oT,oT,oT,oT,oT,oT],[]),(4,[oT,oT,oT,oT,oT,oT,oT,oT,oT],[]),(4,[oT,oT,oT,oT,oT,oT,oT,oT,oT,oT],[]),(4,[oT,oT,oT,oT,oT,oT,oT,oT,oT,oT],[1]),(4,[oT,oT,oT,oT,oT,oT,oT,oT,oT,oT,oT],[]),(4,[oT,oT,oT,oT,oT,oT,oT,oT,oT,oT,oT,oF,oT],[]),(4,[oT,oT,oT,oT,oT,oT,oT,oT,oT,oT,oT,oT,oT,oT],[])] [_,_,_,_,_,_,_,_,_,_,_,_,_,_,_] ⟨[(7,.i u.2),(6,.q 1 0),(3,.q 3 0)],[(0,.bx 199 (lx199 j)),(1,.bx 100 [lF qI e.2,lF qI d.1,lH 2,lI m,lB d.2.1,lI u.1,lB false]),(2,ROW qI 3 g.1),(3,.bx 276 [lP 0 0])],4⟩ ⟨O.ld y4H Z R (.B R) R R,O.nc .B Z R R,O.faP ybm Z R R,O.lg (l':=(lx193 j.2.1)) ag193 Z R (.B R) R R R,O.ld y4H Z R (.B R) R R,O.nc .B Z R R,O.faP yae Z R R,O.lg (l':=[lF rB j.2.2.2.1,lF rB j.2.2.2.2]) ag197 Z R (.B R) R R R,O.ca0 (ybb V) cf226 R R Z R R R,O.mv Z R R,O.ex Z R R R,O.ex Z R R R,O.faP y9q Z R R,O.st nag3.sz Z R R R R R,O.as Z R R,trivial⟩ (by kernel_rfl) R ?_;refine .seqN (.sr (.mv R (.bi R (.ns ?_))));refine .cc hm R (fun hm=>?_) fun hm=>?_
           ·refine .sr (.op (O.lg (l':=[lF qI e.2,lF qI d.1,lH 2,lI m,lB d.2.1,lI u.1,lB false]) ag100 Z R (.B R) R R R) R (.mv R (.st ag100.sz R (.an R (.ret (.seqR ?_))))));cases hm;exact .rr [0,2] Tryz.results192 (.cell R R ag100 R (.tmp R .nil)) R I3 ⟨⟨_,R,I4⟩,⟨_,R,I4⟩,trivial⟩
           ·refine .skip (.seqN (.seq ?_));refine .sub (τ:=⟨[(6,.q 1 0),(3,.q 3 0)],[(0,.bx 199 (lx199 j)),(1,.bx 100 [lF qI e.2,lF qI d.1,lH 2,lI m,lB d.2.1,lI u.1,lB false]),(2,ROW qI 3 g.1),(3,.bx 276 [lP 0 0])],4⟩) ?_ [] R;refine bS hm fun H W hm=>?_;refine .drd 4 [(4,[],[]),(4,[oT],[]),(4,[oT,oT],[]),(4,[oT,oT,oT],[]),(4,[],[]),(4,[oF,oF,oF,oF,oT],[]),(4,[oF,oF,oF,oF,oT,oT],[]),(4,[oF,oF,oF,oF,oT,oT,oT],[]),(4,[oT,oT,oT,oT,oT,oT,oT,oT],[]),(4,[oT,oT,oT,oT,oT,oT,oT,oT,oT],[]),(4,[oT,oT,oT,oT,oT,oT,oT,oT,oT,oT],[]),(4,[oT,oT,oT,oT,oT,oT,oT,oT,oT,oT],[1]),(4,[oT,oT,oT,oT,oT,oT,oT,oT,oT,oT,oT],[]),(4,[oT,oT,oT,oT,oT,oT,oT,oT,oT,oT,oT,oF,oT],[]),(4,[oT,oT,oT,oT,oT,oT,oT,oT,oT,oT,oT,oT,oT,oT],[])] [_,_,_,_,_,_,_,_,_,_,_,_,_,_,_] ⟨[(7,.i H.2),(6,.q 1 0)],[(0,.bx 199 (lx199 j)),(1,.bx 100 [lF qI e.2,lF qI d.1,lH 2,lI m,lB d.2.1,lI u.1,lB H.1]),(2,ROW qI 3 g.1)],4⟩ ⟨O.ld y4H Z R (.B R) R R,O.nc .B Z R R,O.faP ybm Z R R,O.lg (l':=(lx193 j.2.1)) ag193 Z R (.B R) R R R,O.ld y4H Z R (.B R) R R,O.nc .B Z R R,O.faP yae Z R R,O.lg (l':=[lF rB j.2.2.2.1,lF rB j.2.2.2.2]) ag197 Z R (.B R) R R R,O.ca0 (yaG W) cf227 R R Z R R R,O.mv Z R R,O.ex Z R R R,O.ex Z R R R,O.faP yah Z R R,O.st nag4.sz Z R R R R R,O.as Z R R,trivial⟩ (by kernel_rfl) R ?_;refine .seqN (.sr (.op (O.lg (l':=[lF qI e.2,lF qI d.1,lH 2,lI m,lB d.2.1,lI u.1,lB H.1]) ag100 Z R (.B R) R R R) R (.mv R (.st ag100.sz R (.an R (.ret ?_))))));cases hm;exact .rr [0,2] Tryz.results192 (.cell R R ag100 R (.tmp R .nil)) R I3 ⟨⟨_,R,I4⟩,⟨_,R,I4⟩,trivial⟩
         · intro F;refine .sr (.fa y7g R (.lb nag4 R (.ns ?_)));refine .cc hm R (fun hm=>?_) fun hm=> .skip ((F _ hm).sub [(2,3),(3,4)] R);refine .sr (.lb y4H R (.fa y5S R (.lb nag3 R (.op (O.bsF (r:=qI) (zs:=([m]:List Int)) bs32 R R Z R R R (.c .k .n) R R R) R (bS hm fun K X hm=> .op (O.ca (r':= .i K.1) [0] [(0,.bx 199 (lx199 K.2))] none (y5h X) cf221 R R Z R R R R ⟨⟨_,R,I4⟩,trivial⟩ I3 R) R (.an R (.sr (.mv R (.bi R (.ns ?_))))))))));refine .cc hm R (fun hm=>?_) fun hm=> .skip ((F _ hm).sub [(2,3),(3,4)] R);refine .sr (.op (O.lg (l':=[lF qI e.2,lF qI d.1,lH 3,lI m,lB d.2.1,lI 0,lB false]) ag100 Z R (.B R) R R R) R (.mv R (.st ag100.sz R (.an R (.ret (.seqR ?_))))));cases hm;exact .rr [0,3] Tryz.results192 (.cell R R ag100 R (.tmp R .nil)) R I3 ⟨⟨_,R,I4⟩,⟨_,R,I4⟩,trivial⟩
      · intro E;refine .sr (.fa y7g R (.lb nag4 R (.ns ?_)));exact .cc hm R (fun hm=> .reg (.lb y4H R (.fa y5S R (.lb nag3 R (bS hm fun L Y hm=> .op (O.ca (r':= .b L.1) [0] [(0,.bx 199 (lx199 L.2))] none (y5D Y) cf186 R R Z R R R R ⟨⟨_,R,I4⟩,trivial⟩ I3 R) R (.nil ((E _ hm).sub [(2,6),(3,5)] R))))))) fun hm=> .skip ((E _ hm).sub [(2,6),(3,5)] R)
  refine .nlb qI 3 3 0 R R (.iter (fun (t:BenT×Int×List Int)=>⟨[(13,.i t.2.1),(12,.i (p1.1.length:Int)),(11,.f qI p1.1),(6,.q 1 0),(4,.q 3 0),(3,.q 4 0),(2,.o (lW Tryz.prog (fun (x:(Int→Option Bool))=> [.o (lW Tryz.prog (fun (x:Int)=> [.i x]) (fun (r:Bool)=> .b r) x)]) (fun (r:Int)=> .i r) p2))],[(0,.bx 199 (lx199 t.1)),(1,.bx 100 [lH 2,lN,lN,lI 0,lB false,lI 0,lB false]),(2,ROW qI 3 t.2.2),(3,.bx 114 [lF qI p1.1,lF qI p1.2.1,lI p1.2.2]),(4,.bx 276 [lP 0 0])],5⟩) N [(1,3),(2,4),(3,2),(4,1)] R ?_);intro t I hm a4 a3;unfold y6l at hm;refine .sr (.bi R (.ns (.seq ?_)));refine .cc hm R (fun hm=>?_) fun hm=> .exit (.seqX (.seqX ((a5 _ (a3 _ (oi hm).symm)).sub [] R)));refine .skip (.seqN ?_);refine .join2 (fun (D:BenT) (v:List Int)=>y3X t D v=some I) (fun D v=>⟨[(13,.i t.2.1),(12,.i (p1.1.length:Int)),(11,.f qI p1.1),(6,.q 1 0),(4,.q 3 0),(3,.q 4 0),(2,.o (lW Tryz.prog (fun (x:(Int→Option Bool))=> [.o (lW Tryz.prog (fun (x:Int)=> [.i x]) (fun (r:Bool)=> .b r) x)]) (fun (r:Int)=> .i r) p2))],[(0,.bx 199 (lx199 D)),(1,.bx 100 [lH 2,lN,lN,lI 0,lB false,lI 0,lB false]),(2,ROW qI 3 v),(3,.bx 114 [lF qI p1.1,lF qI p1.2.1,lI p1.2.2]),(4,.bx 276 [lP 0 0])],5⟩) ?_ ?_
  · intro D v hm;unfold y3X at hm;exact .reg (.bi R (.mv R (.nil ((a4 _ (oi hm).symm).sub [] R))))
  · intro G;refine .block (.sr (bS hm fun a6 a1 hm=> .ix sl32 a1 R (.le nag3 lv3 R (.an R (.sr (.lb y4H R (.mv R (bS hm fun M a0 hm=> .op (O.ca (r':= .b M.1) [0] [(0,.bx 199 (lx199 M.2))] none (y5D a0) cf186 R R Z R R R R ⟨⟨_,R,I4⟩,trivial⟩ I3 R) R (.ns ?_)))))))));exact .cc hm R (fun hm=> .reg (.fa y6x R (.lb nag32 R (.mv R (.op (O.bsF (r:=qI) (zs:=([a6]:List Int)) bs32 R R Z R R R (.c .k .n) R R R) R (bS hm fun a7 a2 hm=> .op (O.ap 5 Tryz.underlying32 el3 R R Z R R (.fr R) a2 R) R (.fa y6x R (.st nag32.sz R (.nil (.blkN ((G _ _ hm).sub [(2,5)] R))))))))))) fun hm=> .skip (.blkN ((G _ _ hm).sub [] R))
def y8d(p1:List CycT)(p2:CycT→Option ((Int→Option Bool)→Option Int))(a:Int×(List StpT)×BenT):Option ((Int×(List StpT)×BenT)⊕((List StpT)⊕Int)):=
 if decide (a.1<(p1.length:Int)) then
  (idx p1 a.1).bind fun c=>
  (p2 c).bind fun d=>
  (y5E a.2.2 c d).bind fun b=>
  if(b.2.1 != 0) then
   some (.inr (.inr (b.2.1)))
  else
   (app a.2.1 ([b.1]:List StpT)).bind fun e=>
   some (.inl (W (a.1+1),e,b.2.2))
 else
  some (.inr (.inl a.2.1))
def y7y(p0:PbT)(p1:List CycT)(p2:CycT→Option ((Int→Option Bool)→Option Int)):Option ((List StpT)×Int):=
 (y6R p0).bind fun a=>
 if(a.2 != 0) then
  some (([]:List StpT),a.2)
 else
  a.1.bind fun e=>
  (iter (y8d p1 p2) (0,([]:List StpT),e)).bind fun b=>
  match b with
  | .inl c=>
   some (c,0)
  | .inr (d)=>
   some (([]:List StpT),d)
theorem ybc{p1:List CycT}{p2:CycT→Option ((Int→Option Bool)→Option Int)}{r:(List StpT)×Int}(hm:y7y p0 p1 p2=some r):
    F0 128 [.a (lx37 p0),.f rE114 p1,.o (lW Tryz.prog (fun (x:CycT)=> [.a [lF qI x.1,lF qI x.2.1,lI x.2.2]]) (fun (r:(Int→Option Bool)→Option Int)=> .o (lW Tryz.prog (fun (x:(Int→Option Bool))=> [.o (lW Tryz.prog (fun (x:Int)=> [.i x]) (fun (r:Bool)=> .b r) x)]) (fun (r:Int)=> .i r) r)) p2)] [] (.tp [.h 0,.i r.2]) [ROW rE100 100 r.1]:=by
  unfold y7y at hm;refine Fw.mk2 Tryz.func128 Tryz.ntmps128 R (fun C=>?_) R;refine .sr (.bo 0 R (.sa R (.an R (.sr (.op (O.lg (l':=(lx37 p0)) ag37 Z R (.B R) R R R) R (bS hm fun L J hm=> .op (O.ca (r':= .tp [.o (lH 1),.i L.2]) [1] [(0,OBX rE199 199 L.1)] (some 2) (yaA J) cf191 R R Z R R R R ⟨⟨_,R,I4⟩,trivial⟩ I3 R) R (.mv R (.ex R (.ex R (.sa R (.an R (.seq (.sr (.mv R (.bi R (.ns ?_))))))))))))))));refine .cc hm R (fun hm=>?_) fun hm=>?_
  ·refine .sr (.mv R (.sa R (.an R (.ret (.seqR (.nlg rE100 100 6 0 R R ?_))))));cases hm;exact .rr [2] Tryz.results128 (.tmp R (.tmp R .nil)) R I3 ⟨⟨_,R,I4⟩,trivial⟩
  ·refine .skip (.seqN (.sr (.an R (.seq (.sr (.mv R (.ln sl94 R (.mv R (.ns (.block (bS hm fun Q K hm=> .opn 1 R K lv199 R (.hp 8 R R (.hp 18 R R (bS hm fun t u hm=>?_))))))))))))));refine .cutU (z:= .exit 0) (fun j=> .inl j=t) (fun (j:(List StpT))=>⟨[(10,.h 0)],[(0,ROW rE100 100 j)],1⟩) ?_ fun H=>?_
   · rintro j rfl;dsimp only at hm;refine .blkE (.seqN (.sr (.mv R (.sa R (.an R (.ret ?_))))));cases hm;exact .rr [0] Tryz.results128 (.tmp R (.tmp R .nil)) R I3 ⟨⟨_,R,I4⟩,trivial⟩
   refine .cutU (z:= .ret) (fun m=> .inr (m)=t) (fun (m:Int)=>⟨[(7,.i m),(6,.o (lN))],[],0⟩) ?_ fun I=>?_
   · rintro m rfl;dsimp only at hm;refine .blkR (.seqR (.nlg rE100 100 6 0 R R ?_));cases hm;exact .rr [0] Tryz.results128 (.tmp R (.tmp R .nil)) R I3 ⟨⟨_,R,I4⟩,trivial⟩
   refine .nlg rE100 100 10 0 R R (.iter (fun (g:Int×(List StpT)×BenT)=>⟨[(25,.i g.1),(24,.i (p1.length:Int)),(23,.f rE114 p1),(10,.h 0),(8,.q 1 0),(2,.o (lW Tryz.prog (fun (x:CycT)=> [.a [lF qI x.1,lF qI x.2.1,lI x.2.2]]) (fun (r:(Int→Option Bool)→Option Int)=> .o (lW Tryz.prog (fun (x:(Int→Option Bool))=> [.o (lW Tryz.prog (fun (x:Int)=> [.i x]) (fun (r:Bool)=> .b r) x)]) (fun (r:Int)=> .i r) r)) p2))],[(0,ROW rE100 100 g.2.1),(1,.bx 199 (lx199 g.2.2))],2⟩) u [(0,2)] R ?_);intro g M hm G s;unfold y8d at hm;refine .sr (.bi R (.ns (.seq ?_)));refine .cc hm R (fun hm=>?_) fun hm=> .exit (.seqX (.seqX ((H _ (s _ (oi hm).symm)).sub [] R)));refine .skip (.seqN (.seq (.block (.sr (bS hm fun e D hm=> .ix sl94 D R (.op (O.lg (l':=[lF qI e.1,lF qI e.2.1,lI e.2.2]) ag114 Z R (.E lv114) R R R) R (.al 2 zz114 R (.st ag114.sz R (.ns (.seq ?_))))))))));refine .sub (τ:=⟨[(12,.q 2 0),(25,.i g.1),(24,.i (p1.length:Int)),(23,.f rE114 p1),(10,.h 0),(8,.q 1 0),(2,.o (lW Tryz.prog (fun (x:CycT)=> [.a [lF qI x.1,lF qI x.2.1,lI x.2.2]]) (fun (r:(Int→Option Bool)→Option Int)=> .o (lW Tryz.prog (fun (x:(Int→Option Bool))=> [.o (lW Tryz.prog (fun (x:Int)=> [.i x]) (fun (r:Bool)=> .b r) x)]) (fun (r:Int)=> .i r) r)) p2))],[(2,.bx 114 [lF qI e.1,lF qI e.2.1,lI e.2.2]),(0,ROW rE100 100 g.2.1),(1,.bx 199 (lx199 g.2.2))],3⟩) ?_ [] R;refine bS hm fun N v hm=>bS hm fun d w hm=>?_;refine .drz 5 [(9,4)] [(3,[],[],[]),(3,[],[],[]),(3,[],[],[]),(3,[],[],[]),(3,[oF,oF,oT,oT],[],[]),(3,[oT,oT,oT,oT,oT],[],[]),(4,[oT,oT,oT,oT,oT,oT],[],[]),(4,[oT,oT,oT,oT,oT,oT,oT],[],[]),(4,[oT,oT,oT,oT,oT,oT,oT],[],[]),(3,[],[1],[]),(5,[oT,oT,oT,oT,oT,oT,oT,oT,oF,oT],[],[]),(5,[oT,oT,oT,oT,oT,oT,oT,oT,oT,oT,oT],[],[(9,4)])] [_,_,_,_,_,_,_,_,_,_,_,_] ⟨[(14,.i d.2.1),(13,.q 4 0),(25,.i g.1),(24,.i (p1.length:Int)),(23,.f rE114 p1),(10,.h 0),(8,.q 1 0),(2,.o (lW Tryz.prog (fun (x:CycT)=> [.a [lF qI x.1,lF qI x.2.1,lI x.2.2]]) (fun (r:(Int→Option Bool)→Option Int)=> .o (lW Tryz.prog (fun (x:(Int→Option Bool))=> [.o (lW Tryz.prog (fun (x:Int)=> [.i x]) (fun (r:Bool)=> .b r) x)]) (fun (r:Int)=> .i r) r)) p2))],[(4,.bx 100 [lF qI d.1.1,lF qI d.1.2.1,lH 3,lI d.1.2.2.2.1,lB d.1.2.2.2.2.1,lI d.1.2.2.2.2.2.1,lB d.1.2.2.2.2.2.2]),(3,ROW qI 3 d.1.2.2.1),(0,ROW rE100 100 g.2.1),(1,.bx 199 (lx199 d.2.2))],5⟩ ⟨O.mv Z R R,O.lg (l':=[lF qI e.1,lF qI e.2.1,lI e.2.2]) ag114 Z R (.B R) R R R,O.mv Z R R,O.lg (l':=[lF qI e.1,lF qI e.2.1,lI e.2.2]) ag114 Z R (.B R) R R R,O.fv (y:=e) R R R Z R v R R,O.ca (r':= .tp [.a [lF qI d.1.1,lF qI d.1.2.1,lH 3,lI d.1.2.2.2.1,lB d.1.2.2.2.2.1,lI d.1.2.2.2.2.2.1,lB d.1.2.2.2.2.2.2],.i d.2.1]) [1,3] [(0,.bx 199 (lx199 d.2.2)),(1,ROW qI 3 d.1.2.2.1)] (some 4) (y8Y w) cf192 R R Z R R R R ⟨⟨_,R,I4⟩,⟨_,R,I4⟩,trivial⟩ I3 R,O.mv Z R R,O.ex Z R R R,O.ex Z R R R,O.al 4 R zz100 R Z R,O.st ag100.sz Z R R R R R,O.as Z R R,trivial⟩ (by kernel_rfl) R ?_;refine .seqN (.seq (.sr (.mv R (.bi R (.ns ?_)))));exact .cc hm R (fun hm=> .sr (.mv R (.sa R (.an R (.ret (.seqR (.blkR (.seqR (.seqR ((I _ (s _ (oi hm).symm)).sub [] R)))))))))) fun hm=> .skip (.seqN (.reg (.mv R (.op (O.lg (l':=[lF qI d.1.1,lF qI d.1.2.1,lH 3,lI d.1.2.2.2.1,lB d.1.2.2.2.2.1,lI d.1.2.2.2.2.2.1,lB d.1.2.2.2.2.2.2]) ag100 Z R (.B R) R R R) R (.fz 3 [42] [4] R R fR R R (.op (O.bsF (r:=rE100) (zs:=([d.1]:List StpT)) bs91 R R Z R R R (.c (.p .l (.p .l (.p .l (.p .k (.p .b (.p .k .b)))))) .n) R R R) R (bS hm fun P F hm=> .op (O.ap 5 Tryz.underlying91 el100 R R Z R R (.fr R) F R) R (.sa R (.nil (.blkN (.seqN (.reg (.bi R (.mv R (.nil ((G _ (oi hm).symm).sub [(0,5)] R))))))))))))))))
def y5v(a:CycT)(p0:Int→Option Bool):Option Int:=
 (if (a.2.2 != (-1)) then
  (p0 a.2.2).bind fun c=>
  some c
 else
  some false).bind fun b=>
 if b then
  some a.2.2
 else
  some (-1)
theorem y9Y{a:CycT}{p0:Int→Option Bool}{r:Int}(hm:y5v a p0=some r):
    F0 130 [.o (lW Tryz.prog (fun (x:Int)=> [.i x]) (fun (r:Bool)=> .b r) p0),.o (lQ 114 [lF qI a.1,lF qI a.2.1,lI a.2.2] 0)] [] (.i r) []:=by
  unfold y5v at hm;refine Fw.mk2 Tryz.func130 Tryz.ntmps130 R (fun C=>?_) R;refine .sr (.an R (.seq (.sr (.fq y7A R (.lq nag3 R (.bi R (.mv R (bS hm fun g eb1 hm=>?_))))))));refine .cut 5 (fun (c:Bool)=>g=c) (fun c=>⟨[(12,.b c),(1,.o (lQ 114 [lF qI a.1,lF qI a.2.1,lI a.2.2] 0))],[],0⟩) ?_ ?_
  · rintro _ rfl;refine .ns ?_;refine .cc hm R (fun hm=>?_) fun hm=>?_
    ·refine .sr (.fq y7A R (.lq nag3 R (.an R (.ret (.seqR ?_)))));cases hm;exact .rr [] Tryz.results130 (.tmp R .nil) R I3 trivial
    ·refine .skip (.seqN (.sr (.an R (.ret ?_))));cases hm;exact .rr [] Tryz.results130 (.tmp R .nil) R I3 trivial
  · intro e;rcases ifS eb1 with ⟨hc,hm⟩|⟨hc,hm⟩
    · refine .know (d:=7) R hc ?_;refine .op (O.mv (Gu.mk R R) R R) R (.op (O.faQ y7A (Gu.mk R R) R R) R (.op (O.ld nag3 (Gu.mk R R) R .Q R R) R (bS hm fun h f hm=>?_)));refine .op (O.fv (y:=a.2.2) R R R (Gu.mk R R) R f R R) R ?_;exact .op (O.pkT Z R R R R) R ((e h (oi hm).symm).sub [] R)
    · refine .know (d:=7) R hc ?_;exact .sk R (.sk R (.sk R (.sk R (.op (O.pkF Z R R R R) R ((e false (oi hm).symm).sub [] R)))))
def y6W(p0:CycT):Option ((Int→Option Bool)→Option Int):=
 some (y5v p0)
theorem yaH{p0:CycT}{r:((Int→Option Bool)→Option Int)}(hm:y6W p0=some r):
  F0 129 [.a [lF qI p0.1,lF qI p0.2.1,lI p0.2.2]] [] (.o (lW Tryz.prog (fun (x:(Int→Option Bool))=> [.o (lW Tryz.prog (fun (x:Int)=> [.i x]) (fun (r:Bool)=> .b r) x)]) (fun (r:Int)=> .i r) r)) []:=by
 unfold y6W at hm;refine Fw.mk2 Tryz.func129 Tryz.ntmps129 R (fun C=>?_) R;refine .sr (.bo 0 R (.an R (.sr (.fz 0 [1] [] R R fB R R (.op (O.mf (args:=(fun (x:(Int→Option Bool))=> [.o (lW Tryz.prog (fun (x:Int)=> [.i x]) (fun (r:Bool)=> .b r) x)])) (res:=(fun (r:Int)=> .i r)) (m:=(y5v p0)) cf130 (fun x r h=>y9Y h) (fun _=>R) R Z R R) R (.an R (.ret ?_)))))));cases hm;exact .rr [] Tryz.results129 (.tmp R .nil) R I3 trivial
def y6o(p0:PbT)(p1:List CycT):Option ((List StpT)×Int):=
 (y5C p0 p1).bind fun a=>
 if(a != 0) then
  some (([]:List StpT),a)
 else
  (y7y p0 p1 y6W).bind fun b=>
  some b
theorem y8J{p1:List CycT}{r:(List StpT)×Int}(hm:y6o p0 p1=some r):
    F0 57 [.a (lx37 p0),.f rE114 p1] [] (.tp [.h 0,.i r.2]) [ROW rE100 100 r.1]:=by
  unfold y6o at hm;refine Fw.mk2 Tryz.func57 Tryz.ntmps57 R (fun C=>?_) R;refine .sr (.bo 0 R (.sa R (.an R (.seq (.sr (.op (O.lg (l':=(lx37 p0)) ag37 Z R (.B R) R R R) R (.mv R (bS hm fun g b hm=> .c0 (y8X b) cf65 R (.an R (.sr (.mv R (.bi R (.ns ?_)))))))))))));refine .cc hm R (fun hm=>?_) fun hm=>?_
  ·refine .sr (.mv R (.sa R (.an R (.ret (.seqR (.nlg rE100 100 4 0 R R ?_))))));cases hm;exact .rr [1] Tryz.results57 (.tmp R (.tmp R .nil)) R I3 ⟨⟨_,R,I4⟩,trivial⟩
  ·refine .skip (.seqN (.sr (.op (O.lg (l':=(lx37 p0)) ag37 Z R (.B R) R R R) R (.mv R (bS hm fun e d hm=> .op (O.cac (r':= .tp [.h 1,.i e.2]) [1] [(0,ROW rE100 100 e.1)] (some 2) (ybc d) cf128 R R Z R R ⟨⟨R,.rf⟩,⟨R,.rf⟩,⟨R,(.c (.fn cf129 (fun x r h=>yaH h) (fun _=>R)) .n)⟩,trivial⟩ R ⟨⟨_,R,I4⟩,trivial⟩ I3 R) R (.ex R (.ex R (.sa R (.an R (.ret ?_))))))))));cases hm;exact .rr [1] Tryz.results57 (.tmp R (.tmp R .nil)) R I3 ⟨⟨_,R,I4⟩,trivial⟩
def y3a(p0:List (List Int))(a:Int×List Int):Option ((Int×List Int)⊕(List Int)):=
 if decide (a.1<(p0.length:Int)) then
  (idx p0 a.1).bind fun b=>
  (app a.2 b).bind fun c=>
  some (.inl (W (a.1+1),c))
 else
  some (.inr a.2)
def y4c(b:Int×Int)(a:Int):Option ((Int×Int)⊕Int):=
 some (.inl (W (b.1+1),a))
def y3b(p0:List (List Int))(a:Int×Int):Option ((Int×Int)⊕Int):=
 if decide (a.1<(p0.length:Int)) then
  (idx p0 a.1).bind fun b=>
  if decide ((W (a.2+(b.length:Int)))<0) then
   none
  else
   y4c a (W (a.2+(b.length:Int)))
 else
  some (.inr a.2)
def y4V(p0:List (List Int)):Option (List Int):=
 (iter (y3b p0) (0,0)).bind fun c=>
 (y5s ([]:List Int) c).bind fun b=>
 (iter (y3a p0) (0,b)).bind fun a=>
 some a
theorem yao{p0:List (List Int)}{r:List Int}(hm:y4V p0=some r):
  F0 185 [.f (rL qI) p0] [] (.h 0) [ROW qI 3 r]:=by
 unfold y4V at hm;refine Fw.mk2 Tryz.func185 Tryz.ntmps185 R (fun C=>?_) R;refine .sr (.an R (.sr (.an R (.seq (.sr (.mv R (.ln sl53 R (.mv R (.ns (.block (bS hm fun p u hm=>?_)))))))))));refine .cut1 (z:= .exit 0) p (fun (p:Int)=>⟨[(3,.i p),(0,.f (rL qI) p0)],[],0⟩) ?_ fun s=>?_
 ·skip
  refine .blkE (.seqN (.sr (.mv R (bS hm fun x j hm=> .op (O.ca (r':= .h 0) [0] [(0,ROW qI 3 x)] (some 1) (yaX j) cf218 R R Z R R R R ⟨⟨_,R,I4⟩,trivial⟩ I3 R) R (.an R (.seq (.sr (.mv R (.ln sl53 R (.mv R (.ns (.block (bS hm fun d g hm=>?_)))))))))))));refine .cut1 (z:= .exit 2) d (fun (d:List Int)=>⟨[(6,.h 0)],[(0,ROW qI 3 d)],1⟩) ?_ fun t=>?_
  ·skip
   refine .blkE (.seqN (.sr (.mv R (.an R (.ret ?_)))));cases hm;exact .rr [0] Tryz.results185 (.tmp R .nil) R I3 ⟨⟨_,R,I4⟩,trivial⟩
  refine .iter (fun (b:Int×List Int)=>⟨[(27,.i b.1),(26,.i (p0.length:Int)),(25,.f (rL qI) p0),(6,.h 0)],[(0,ROW qI 3 b.2)],1⟩) g [] R ?_;intro b y hm o n;unfold y3a at hm;refine .sr (.bi R (.ns (.seq ?_)));exact .cc hm R (fun hm=> .skip (.seqN (.seq (.block (.sr (bS hm fun B k hm=> .ix sl53 k R (.le nag32 lv32 R (.an R (.reg (.mv R (.mv R (bS hm fun D l hm=> .op (O.ap 1 Tryz.underlying32 el3 R R Z R R (.fr R) l R) R (.sa R (.nil (.blkN (.seqN (.reg (.bi R (.mv R (.nil ((o _ (oi hm).symm).sub [(0,1)] R))))))))))))))))))))) fun hm=> .exit (.seqX (.seqX ((t _ (n _ (oi hm).symm)).sub [] R)))
 refine .iter (fun (a:Int×Int)=>⟨[(11,.i a.1),(10,.i (p0.length:Int)),(9,.f (rL qI) p0),(3,.i a.2),(0,.f (rL qI) p0)],[],0⟩) u [] R ?_;intro a q hm w v;unfold y3b at hm;refine .sr (.bi R (.ns (.seq ?_)));refine .cc hm R (fun hm=>?_) fun hm=> .exit (.seqX (.seqX ((s _ (v _ (oi hm).symm)).sub [] R)));refine .skip (.seqN ?_);refine .join1 (fun (c:Int)=>y4c a c=some q) (fun c=>⟨[(3,.i c),(11,.i a.1),(10,.i (p0.length:Int)),(9,.f (rL qI) p0),(0,.f (rL qI) p0)],[],0⟩) ?_ ?_
 ·intro c hm;unfold y4c at hm;exact .reg (.bi R (.mv R (.nil ((w _ (oi hm).symm).sub [] R))))
 ·intro e;refine .block (.sr (bS hm fun E m hm=> .ix sl53 m R (.le nag32 lv32 R (.an R (.sr (.mv R (.mv R (.ln sl32 R (.bi R (.an R (.sr (.mv R (.bi R (.ns ?_))))))))))))));refine .cc hm R (fun hm=>?_) fun hm=> .skip (.blkN ((e _ hm).sub [] R));refine .reg ?_;cases hm
def y4F(a:List Int):Option (List Int):=
 some a
def y3c(p0:StpT):Option (List Int):=
 (y4V ([p0.1,p0.2.1]:List (List Int))).bind fun a=>
 if p0.2.2.2.2.1 then
  (app a ([p0.2.2.2.1]:List Int)).bind fun b=>
  y4F b
 else
  y4F a
theorem y6X{p0:StpT}{r:List Int}(hm:y3c p0=some r):
  F0 123 [.a (lx100 p0)] [] (.h 0) [ROW qI 3 r]:=by
 unfold y3c at hm;refine Fw.mk2 Tryz.func123 Tryz.ntmps123 R (fun C=>?_) R;refine .sr (.bo 0 R (.an R (.sr (.fa y6x R (.lb nag32 R (.fa yag R (.lb nag32 R (.op (O.bsF (r:=(rL qI)) (zs:=([p0.1,p0.2.1]:List (List Int))) bs53 R R Z R R R (.c .l (.c .l .n)) R R R) R (bS hm fun g e hm=> .op (O.ca (r':= .h 1) [1] [(0,ROW qI 3 g)] (some 2) (yao e) cf185 R R Z R R R R ⟨⟨_,R,I4⟩,trivial⟩ I3 R) R (.an R ?_))))))))));refine .join1 (fun (b:List Int)=>y4F b=some r) (fun b=>⟨[(3,.h 0)],[(0,ROW qI 3 b)],1⟩) ?_ ?_
 ·intro b hm;unfold y4F at hm;refine .sr (.mv R (.an R (.ret ?_)));cases hm;exact .rr [0] Tryz.results123 (.tmp R .nil) R I3 ⟨⟨_,R,I4⟩,trivial⟩
 ·intro d;refine .sr (.fa y7g R (.lb nag4 R (.ns ?_)));exact .cc hm R (fun hm=> .reg (.mv R (.fa y5S R (.lb nag3 R (.op (O.bsF (r:=qI) (zs:=([p0.2.2.2.1]:List Int)) bs32 R R Z R R R (.c .k .n) R R R) R (bS hm fun i f hm=> .op (O.ap 2 Tryz.underlying32 el3 R R Z R R (.fr R) f R) R (.sa R (.nil ((d _ hm).sub [(0,2)] R))))))))) fun hm=> .skip ((d _ hm).sub [(0,1)] R)
def y3K(p0:List StpT)(a:Int×List Int):Option ((Int×List Int)⊕(List Int)):=
 if decide (a.1<(p0.length:Int)) then
  (idx p0 a.1).bind fun c=>
  (y3c c).bind fun b=>
  (app a.2 b).bind fun d=>
  some (.inl (W (a.1+1),d))
 else
  some (.inr a.2)
def y3e(p0:List StpT):Option (List Int):=
 (iter (y3K p0) (0,([]:List Int))).bind fun a=>
 some a
theorem y5I{p0:List StpT}{r:List Int}(hm:y3e p0=some r):
  F0 53 [.f rE100 p0] [] (.h 0) [ROW qI 3 r]:=by
 unfold y3e at hm;refine Fw.mk2 Tryz.func53 Tryz.ntmps53 R (fun C=>?_) R;refine .sr (.an R (.sr (.an R (.seq (.sr (.mv R (.ln sl91 R (.mv R (.ns (.block (bS hm fun g k hm=>?_)))))))))));refine .cut1 (z:= .exit 0) g (fun (g:List Int)=>⟨[(3,.h 0)],[(0,ROW qI 3 g)],1⟩) ?_ fun j=>?_
 ·skip
  refine .blkE (.seqN (.sr (.mv R (.an R (.ret ?_)))));cases hm;exact .rr [0] Tryz.results53 (.tmp R .nil) R I3 ⟨⟨_,R,I4⟩,trivial⟩
 refine .nlg qI 3 3 0 R R (.iter (fun (a:Int×List Int)=>⟨[(8,.i a.1),(7,.i (p0.length:Int)),(6,.f rE100 p0),(3,.h 0)],[(0,ROW qI 3 a.2)],1⟩) k [] R ?_);intro a p hm n m;unfold y3K at hm;refine .sr (.bi R (.ns (.seq ?_)));exact .cc hm R (fun hm=> .skip (.seqN (.seq (.block (.sr (bS hm fun b d hm=> .ix sl91 d R (.op (O.lg (l':=(lx100 b)) ag100 Z R (.E lv100) R R R) R (.al 1 zz100 R (.st ag100.sz R (.ns (.reg (.mv R (.op (O.lg (l':=(lx100 b)) ag100 Z R (.B R) R R R) R (bS hm fun o c hm=> .op (O.ca (r':= .h 2) [2] [(0,ROW qI 3 o)] (some 3) (y6X c) cf123 R R Z R R R R ⟨⟨_,R,I4⟩,trivial⟩ I3 R) R (bS hm fun q e hm=> .op (O.ap 3 Tryz.underlying32 el3 R R Z R R (.ow R R) e R) R (.sa R (.nil (.blkN (.seqN (.reg (.bi R (.mv R (.nil ((n _ (oi hm).symm).sub [(0,3)] R)))))))))))))))))))))))) fun hm=> .exit (.seqX (.seqX ((j _ (m _ (oi hm).symm)).sub [] R)))
def y3l(a:PbT)(p0:Int):Option Bool:=
 (ye a.1.1 p0).bind fun b=>
 some (!b)
theorem y8K{c:PbT}{p0:Int}(hm:y3l c p0=some r):
  F0 122 [.i p0,.o (lQ 37 (lx37 c) 0)] [] (.b r) []:=by
 unfold y3l at hm;refine Fw.mk2 Tryz.func122 Tryz.ntmps122 R (fun C=>?_) R;refine .sr (.an R (.sr (.fq y2n R (.fq yG R (.lq nag32 R (.mv R (bS hm fun d a hm=> .c0 (yk a) cf104 R (.op (O.not Z R R) R (.an R (.ret ?_))))))))));cases hm;exact .rr [] Tryz.results122 (.tmp R .nil) R I3 trivial
def y1n(a:Bool):Option Bool:=
 some a
def y2Q(a:Option (BenT×Int×Bool))(b:Int)(p0:Int×Int×Int):Option Bool:=
 a.bind fun c=>
 if(p0.1==c.2.1) then
  y1n (p0.2.1==b)
 else
  y1n false
theorem y8u{j:Option (BenT×Int×Bool)}{f:Int}{p0:Int×Int×Int}(hm:y2Q j f p0=some r):
  F0 187 [.a [lI p0.1,lI p0.2.1,lI p0.2.2],.o (lQ 275 [lK rE201 201 j] 0),.o (lQ 3 [lI f] 0)] [] (.b r) []:=by
 unfold y2Q at hm;refine Fw.mk2 Tryz.func187 Tryz.ntmps187 R (fun C=>?_) R;refine .sr (.bo 0 R (.an R ?_));refine .join1 (fun (e:Bool)=>y1n e=some r) (fun e=>⟨[(4,.b e)],[],0⟩) ?_ ?_
 ·intro e hm;unfold y1n at hm;refine .ret ?_;cases hm;exact .rr [] Tryz.results187 (.tmp R .nil) R I3 trivial
 ·intro g;refine bS hm fun k i hm=> .cnt 1 R (.c (.q (.c (.pd i lv201) .n)) .n) R ?_;refine .sub (τ:=⟨[(3,.q 0 0),(1,.o (lQ 275 [lQ 201 (lx201 k) 0] 0)),(2,.o (lQ 3 [lI f] 0))],[(0,.bx 124 [lI p0.1,lI p0.2.1,lI p0.2.2])],1⟩) ?_ [] R;refine .drP 7 [(1,[]),(1,[oT]),(1,[]),(1,[oF,oF,oT]),(1,[oF,oF,oT,oT]),(1,fA 2 (tT 3)),(1,tT 6)] [_,_,_,_,_,_,_] ⟨O.faP y2V Z R R,O.ld nag3 Z R (.B R) R R,O.ld y6r Z R .Q R R,O.nc .Q Z R R,O.faQ ycA Z R R,O.ld nag3 Z R .Q R R,O.bi Z R R R R,trivial⟩ fun h=>?_;rcases ifS hm with ⟨d,hm⟩|⟨d,hm⟩
  ·skip
   exact .drF h [(1,tT 7),(1,tT 8),(1,tT 9),(1,tT 8),(1,tT 11),(1,tT 12),(1,tT 13)] [_,_,_,_,_,_,_] ⟨[(4,.b (p0.2.1==f))],[],1⟩ ⟨O.kn (O.mv Z R R) d,O.faP y4t (Gu.mk R R) R R,O.ld nag3 (Gu.mk R R) R (.B R) R R,O.ld nag3 (Gu.mk R R) R .Q R R,O.bi (Gu.mk R R) R R R R,O.pkT Z R R R R,O.as Z R R,trivial⟩ (by kernel_rfl) R ((g _ hm).sub [] R)
  ·skip
   exact .drF h [(1,tT 7),(1,tT 8),(1,tT 9),(1,tT 8),(1,tT 11),(1,tT 12),(1,tT 13)] [_,_,_,_,_,_,_] ⟨[(4,.b false)],[],1⟩ ⟨O.kn (O.mv Z R R) d,O.skip R R R R,O.skip R R R R,O.skip R R R R,O.skip R R R R,O.pkF Z R R R R,O.as Z R R,trivial⟩ (by kernel_rfl) R ((g _ hm).sub [] R)
def y1d(a:Bool):Option Bool:=
 some a
def y1v(a:Option (BenT×Int×Bool))(b:Int)(p0:Int×Int×Int):Option Bool:=
 a.bind fun c=>
 if(p0.1==c.1.2.2.1) then
  y1d (p0.2.1==b)
 else
  y1d false
theorem y7R{j:Option (BenT×Int×Bool)}{f:Int}{p0:Int×Int×Int}(hm:y1v j f p0=some r):
  F0 242 [.a [lI p0.1,lI p0.2.1,lI p0.2.2],.o (lQ 276 [lK rE201 201 j] 0),.o (lQ 3 [lI f] 0)] [] (.b r) []:=by
 unfold y1v at hm;refine Fw.mk2 Tryz.func242 Tryz.ntmps242 R (fun C=>?_) R;refine .sr (.bo 0 R (.an R ?_));refine .join1 (fun (e:Bool)=>y1d e=some r) (fun e=>⟨[(4,.b e)],[],0⟩) ?_ ?_
 ·intro e hm;unfold y1d at hm;refine .ret ?_;cases hm;exact .rr [] Tryz.results242 (.tmp R .nil) R I3 trivial
 ·intro g;refine bS hm fun k i hm=> .cnt 1 R (.c (.q (.c (.pd i lv201) .n)) .n) R ?_;refine .sub (τ:=⟨[(3,.q 0 0),(1,.o (lQ 276 [lQ 201 (lx201 k) 0] 0)),(2,.o (lQ 3 [lI f] 0))],[(0,.bx 124 [lI p0.1,lI p0.2.1,lI p0.2.2])],1⟩) ?_ [] R;refine .drP 7 [(1,[]),(1,[oT]),(1,[]),(1,[oF,oF,oT]),(1,[oF,oF,oT,oT]),(1,fA 2 (tT 3)),(1,tT 6)] [_,_,_,_,_,_,_] ⟨O.faP y2V Z R R,O.ld nag3 Z R (.B R) R R,O.ld y4H Z R .Q R R,O.nc .Q Z R R,O.faQ ybk Z R R,O.ld nag3 Z R .Q R R,O.bi Z R R R R,trivial⟩ fun h=>?_;rcases ifS hm with ⟨d,hm⟩|⟨d,hm⟩
  ·skip
   exact .drF h [(1,tT 7),(1,tT 8),(1,tT 9),(1,tT 8),(1,tT 11),(1,tT 12),(1,tT 13)] [_,_,_,_,_,_,_] ⟨[(4,.b (p0.2.1==f))],[],1⟩ ⟨O.kn (O.mv Z R R) d,O.faP y4t (Gu.mk R R) R R,O.ld nag3 (Gu.mk R R) R (.B R) R R,O.ld nag3 (Gu.mk R R) R .Q R R,O.bi (Gu.mk R R) R R R R,O.pkT Z R R R R,O.as Z R R,trivial⟩ (by kernel_rfl) R ((g _ hm).sub [] R)
  ·skip
   exact .drF h [(1,tT 7),(1,tT 8),(1,tT 9),(1,tT 8),(1,tT 11),(1,tT 12),(1,tT 13)] [_,_,_,_,_,_,_] ⟨[(4,.b false)],[],1⟩ ⟨O.kn (O.mv Z R R) d,O.skip R R R R,O.skip R R R R,O.skip R R R R,O.skip R R R R,O.pkF Z R R R R,O.as Z R R,trivial⟩ (by kernel_rfl) R ((g _ hm).sub [] R)
def y2R(p0:BenT×Int×Bool)(p1:Int):Option Int:=
 (y1R p0.1.1.1.2.2.2 (y1v (some p0) p1)).bind fun a=>
 if decide (a<0) then
  some (-1)
 else
  (some p0).bind fun b=>
  (idx b.1.1.1.2.2.2 a).bind fun c=>
  some c.2.2
theorem y8v{p0:BenT×Int×Bool}{r:Int}(hm:y2R p0 p1=some r):
    F0 219 [.o (lQ 201 (lx201 p0) 0),.i p1] [] (.i r) []:=by
  unfold y2R at hm;refine Fw.mk2 Tryz.func219 Tryz.ntmps219 R (fun C=>?_) R;refine .sr (.bo 0 R (.bo 1 R (.an R (.sr (.lb y4H R (.op (O.nc .Q Z R R) R (.fq y7f R (.fq y2n R (.fq y1D R (.lq nag33 R (.fz 0 [2] [] R R fB R R (.fz 1 [3] [] R R fB R R (.cnt 2 R (.c (.q (.c (.pk (r:=rE201) (.p (.p (.p (.p .l (.p .k (.p .l .l))) (.p (.p .l (.p .k (.p .l .l))) .l)) (.p (.p (.p .k (.p .k (.p .k (.p .l .l)))) (.p .l (.p .l .k))) (.p .k (.p .l .l)))) (.p .k .b))) .n)) .n) R (.op (O.mf (args:=(fun (x:(Int×Int×Int))=> [.a [lI x.1,lI x.2.1,lI x.2.2]])) (res:=(fun (r:Bool)=> .b r)) (m:=(y1v (some p0) p1)) cf242 (fun x r h=>y7R h) (fun _=>R) R Z R R) R (bS hm fun g d hm=> .c0 (y5u d) cf140 R (.an R (.seq (.sr (.mv R (.bi R (.ns ?_)))))))))))))))))))));refine .cc hm R (fun hm=>?_) fun hm=>?_
  ·refine .sr (.an R (.ret (.seqR ?_)));cases hm;exact .rr [] Tryz.results219 (.tmp R .nil) R I3 trivial
  ·refine .skip (.seqN (.sr (.lq y4H R (bS hm fun j e hm=> .cnt 16 R (.c (.pd e lv201) .n) R (.op (O.nc .Q Z R R) R (.fq y7f R (.fq y2n R (.fq y1D R (.lq nag33 R (.mv R (bS hm fun s f hm=> .ix sl33 f R (.fe y4u R (.le nag3 lv124 R (.an R (.ret ?_)))))))))))))));cases hm;exact .rr [] Tryz.results219 (.tmp R .nil) R I3 trivial
def y1J(p0:BenT×Int×Bool)(b:Int)(a:Int):Option (Bool×(BenT×Int×Bool)):=
 some (decide (b≥0),(p0.1.1,p0.1.2.1,a,p0.1.2.2.2),p0.2)
def y4Q(p0:BenT×Int×Bool)(p1:Int):Option (Bool×(BenT×Int×Bool)):=
 (y2R p0 p1).bind fun a=>
 if decide (a≥0) then
  y1J p0 a a
 else
  y1J p0 a p0.1.2.2.1
theorem y8Z{p0:BenT×Int×Bool}{r:Bool×(BenT×Int×Bool)}(hm:y4Q p0 p1=some r):
  Fw Tryz.prog 186 ⟨1,[0]⟩ [.o (lP 0 0),.i p1] [.bx 201 (lx201 p0)] (.b r.1) [.bx 201 (lx201 r.2)]:=by
 unfold y4Q at hm;refine Fw.mk2 Tryz.func186 Tryz.ntmps186 R (fun C=>?_) R;refine .sr (.an R (.sr (.mv R (.mv R (bS hm fun e d hm=> .op (O.caZ (y8v d) cf219 R R Z R ⟨⟨R,(.q R LnL.rf),trivial⟩,⟨R,LnL.rf⟩,trivial⟩ (fun _ _ _ _ _ h=>h) R) R (.an R ?_))))));refine .join1 (fun (a:Int)=>y1J p0 e a=some r) (fun a=>⟨[(5,.i e)],[(0,.bx 201 [lF qI p0.1.1.1.1,lI p0.1.1.1.2.1,lF qI p0.1.1.1.2.2.1,lF qT p0.1.1.1.2.2.2,lF qI p0.1.1.2.1.1,lI p0.1.1.2.1.2.1,lF qI p0.1.1.2.1.2.2.1,lF qT p0.1.1.2.1.2.2.2,lF qI p0.1.1.2.2,lI p0.1.2.1.1.1,lI p0.1.2.1.1.2.1,lI p0.1.2.1.1.2.2.1,lF rB p0.1.2.1.1.2.2.2.1,lF rE302 p0.1.2.1.1.2.2.2.2,lF qI p0.1.2.1.2.1,lF qI p0.1.2.1.2.2.1,lI p0.1.2.1.2.2.2,lI a,lF rB p0.1.2.2.2.1,lF rB p0.1.2.2.2.2,lI p0.2.1,lB p0.2.2])],1⟩) ?_ ?_
 ·intro a hm;unfold y1J at hm;refine .sr (.mv R (.bi R (.an R (.ret ?_))));cases hm;exact .rr [0] Tryz.results186 (.tmp R .nil) R I3 ⟨⟨_,R,I4⟩,trivial⟩
 ·intro c;refine .sr (.mv R (.bi R (.ns ?_)));exact .cc hm R (fun hm=> .reg (.mv R (.mv R (.op (O.nc .B Z R R) R (.fa ybk R (.st nag3.sz R (.nil ((c _ hm).sub [] R)))))))) fun hm=> .skip ((c _ hm).sub [] R)
theorem cf187:Cf Tryz.prog 187:=cM Tryz.func187 (by kernel_rfl)
theorem ybn:FA Tryz.prog 201 0 0:=fAm 0 0 20 Tryz.underlying201 R (by kernel_rfl)
theorem y8w:FA Tryz.prog 201 2 21:=fAm 2 21 1 Tryz.underlying201 R (by kernel_rfl)
def y2F(p1:Int)(a:BenT×Int×Bool)(c:Bool):Option (BenT×Int×Bool):=
 if c then
  some a
 else
  (y1R a.1.1.2.1.2.2.2 (y2Q (some a) p1)).bind fun b=>
  if decide (b<0) then
   some (a.1,a.2.1,true)
  else
   (idx a.1.1.2.1.2.2.2 b).bind fun d=>
   some (a.1,d.2.2,a.2.2)
def y1K(p1:Int)(a:BenT×Int×Bool):Option (BenT×Int×Bool):=
 if a.2.2 then
  y2F p1 a true
 else
  (ye a.1.1.2.1.1 p1).bind fun b=>
  y2F p1 a (!b)
def y3A(p0:BenT×Int×Bool)(p1:Int):Option (BenT×Int×Bool):=
 if p0.2.2 then
  y1K p1 (p0.1,p0.2.1,true)
 else
  (y4Q p0 p1).bind fun a=>
  y1K p1 (a.2.1,a.2.2.1,(!a.1))
theorem y9a{p0:BenT×Int×Bool}{r:(BenT×Int×Bool)}(hm:y3A p0 p1=some r):
    Fw Tryz.prog 124 ⟨1,[0]⟩ [.o (lP 0 0),.i p1] [.bx 201 (lx201 p0)] (.tp []) [.bx 201 (lx201 r)]:=by
  unfold y3A at hm;refine Fw.mk2 Tryz.func124 Tryz.ntmps124 R (fun C=>?_) R;refine .sr (.bo 1 R (.bo 2 R (.ns ?_)));refine .join1 (fun (c:BenT×Int×Bool)=>y1K p1 c=some r) (fun c=>⟨[(3,.q 1 0),(2,.q 2 0)],[(0,.bx 201 (lx201 c)),(1,.bx 3 [lI p1]),(2,.bx 275 [lP 0 0])],3⟩) ?_ ?_
  · intro c hm;unfold y1K at hm;refine .seq ?_;refine .join1 (fun (f:Bool)=>y2F p1 c f=some r) (fun f=>⟨[(35,.b f),(3,.q 1 0),(2,.q 2 0)],[(0,.bx 201 (lx201 c)),(1,.bx 3 [lI p1]),(2,.bx 275 [lP 0 0])],3⟩) ?_ ?_
    · intro f hm;unfold y2F at hm;refine .cc hm R (fun hm=>?_) fun hm=>?_
      ·refine .ret (.seqR ?_);cases hm;exact .rr [0] Tryz.results124 .nil R I3 ⟨⟨_,R,I4⟩,trivial⟩
      ·refine .skip (.seqN (.sr (.lb y6r R (.op (O.nc .B Z R R) R (.fa ybn R (.fa y7f R (.fa y3g R (.fa y1D R (.lb nag33 R (.op (O.mz (l:=[lP 2 0,lP 1 0]) Z R R) R (bS hm fun w t hm=> .op (O.caZ (y5u t) cf140 R R Z R ⟨⟨R,LnL.rf⟩,⟨R,(.z (l':=[lQ 275 [lK rE201 201 (some c)] 0,lQ 3 [lI p1] 0]) cf187 (fun x r h=>y8u h) (fun _=>R) R ⟨(.q R ⟨(.cv (.q R LnL.rf) (.pk (r:=rE201) (.p (.p (.p (.p .l (.p .k (.p .l .l))) (.p (.p .l (.p .k (.p .l .l))) .l)) (.p (.p (.p .k (.p .k (.p .k (.p .l .l)))) (.p .l (.p .l .k))) (.p .k (.p .l .l)))) (.p .k .b)))),trivial⟩),(.q R LnL.rf),trivial⟩),trivial⟩,trivial⟩ (fun _ _ _ _ _ h=>h) R) R (.an R (.seq (.sr (.mv R (.bi R (.ns ?_)))))))))))))))));refine .cc hm R (fun hm=>?_) fun hm=>?_
       ·refine .sr (.lb y6r R (.op (O.nc .B Z R R) R (.fa y8w R (.st nag4.sz R (.ns (.ret (.seqR ?_)))))));cases hm;exact .rr [0] Tryz.results124 .nil R I3 ⟨⟨_,R,I4⟩,trivial⟩
       ·refine .skip (.seqN ?_);refine .sub (τ:=⟨[(4,.i w),(2,.q 2 0)],[(0,.bx 201 (lx201 c)),(2,.bx 275 [lP 0 0])],3⟩) ?_ [] R;refine bS hm fun D v hm=>?_;refine .drg 3 [(3,[]),(3,[]),(3,[oF,oT]),(3,[oF,oT,oT]),(3,fA 1 (tT 3)),(3,fA 1 (tT 4)),(3,fA 1 (tT 5)),(3,fA 1 (tT 6)),(3,[]),(3,fA 1 (tT 8)),(3,fA 1 (tT 9)),(3,fA 1 (tT 10)),(3,tT 12),(3,tT 13),(3,tT 14)] [_,_,_,_,_,_,_,_,_,_,_,_,_,_,_] ⟨[],[(0,.bx 201 [lF qI c.1.1.1.1,lI c.1.1.1.2.1,lF qI c.1.1.1.2.2.1,lF qT c.1.1.1.2.2.2,lF qI c.1.1.2.1.1,lI c.1.1.2.1.2.1,lF qI c.1.1.2.1.2.2.1,lF qT c.1.1.2.1.2.2.2,lF qI c.1.1.2.2,lI c.1.2.1.1.1,lI c.1.2.1.1.2.1,lI c.1.2.1.1.2.2.1,lF rB c.1.2.1.1.2.2.2.1,lF rE302 c.1.2.1.1.2.2.2.2,lF qI c.1.2.1.2.1,lF qI c.1.2.1.2.2.1,lI c.1.2.1.2.2.2,lI c.1.2.2.1,lF rB c.1.2.2.2.1,lF rB c.1.2.2.2.2,lI D.2.2,lB c.2.2])],3⟩ ⟨O.ld y6r Z R (.B R) R R,O.ld y6r Z R (.B R) R R,O.nc .B Z R R,O.faP ybn Z R R,O.faP y7f Z R R,O.faP y3g Z R R,O.faP y1D Z R R,O.ld nag33 Z R (.B R) R R,O.mv Z R R,O.ix sl33 Z R R v R,O.faE y4u Z R R,O.ld nag3 Z R (.E lv124) R R,O.nc .B Z R R,O.faP ycA Z R R,O.st nag3.sz Z R R R R R,trivial⟩ (by kernel_rfl) R ?_;cases hm;exact WX.rt [0] (.inr R) Tryz.results124 .nil R I3 ⟨⟨_,R,I4⟩,trivial⟩
    · intro j;refine .sub (τ:=⟨[(3,.q 1 0),(2,.q 2 0)],[(0,.bx 201 (lx201 c)),(1,.bx 3 [lI p1]),(2,.bx 275 [lP 0 0])],3⟩) ?_ [] R;refine .drP 4 [(3,[]),(3,[oT]),(3,[oT,oT]),(3,tT 3)] [_,_,_,_] ⟨O.ld y6r Z R (.B R) R R,O.nc .B Z R R,O.faP y8w Z R R,O.ld nag4 Z R (.B R) R R,trivial⟩ fun m=>?_;rcases ifS hm with ⟨e,hm⟩|⟨e,hm⟩
      · skip
        exact .drF m [(3,tT 4),(3,tT 5),(3,tT 6),(3,tT 7),(3,tT 8),(3,tT 9),(3,tT 10),(3,tT 11),(3,tT 5),(3,tT 13),(3,tT 14),(3,tT 15)] [_,_,_,_,_,_,_,_,_,_,_,_] ⟨[(35,.b true),(3,.q 1 0),(2,.q 2 0)],[(0,.bx 201 (lx201 c)),(1,.bx 3 [lI p1]),(2,.bx 275 [lP 0 0])],3⟩ ⟨O.kn (O.mv Z R R) e,O.skip R R R R,O.skip R R R R,O.skip R R R R,O.skip R R R R,O.skip R R R R,O.skip R R R R,O.skip R R R R,O.skip R R R R,O.skip R R R R,O.skip R R R R,O.pkT Z R R R R,trivial⟩ (by kernel_rfl) R ((j _ hm).sub [] R)
      · skip
        exact bS hm fun y u hm=> .drF m [(3,tT 4),(3,tT 5),(3,tT 6),(3,tT 7),(3,tT 8),(3,tT 9),(3,tT 10),(3,tT 11),(3,tT 5),(3,tT 13),(3,tT 14),(3,tT 15)] [_,_,_,_,_,_,_,_,_,_,_,_] ⟨[(35,.b (!y)),(3,.q 1 0),(2,.q 2 0)],[(0,.bx 201 (lx201 c)),(1,.bx 3 [lI p1]),(2,.bx 275 [lP 0 0])],3⟩ ⟨O.kn (O.mv Z R R) e,O.ld y6r (Gu.mk R R) R (.B R) R R,O.nc .B (Gu.mk R R) R R,O.faP ybn (Gu.mk R R) R R,O.faP y7f (Gu.mk R R) R R,O.faP y3g (Gu.mk R R) R R,O.faP yG (Gu.mk R R) R R,O.ld nag32 (Gu.mk R R) R (.B R) R R,O.ld nag3 (Gu.mk R R) R (.B R) R R,O.ca0 (yk u) cf104 R R (Gu.mk R R) R R R,O.not (Gu.mk R R) R R,O.pkF Z R R R R,trivial⟩ (by kernel_rfl) R ((j _ hm).sub [] R)
  · intro g;refine .sub (τ:=⟨[(3,.q 2 0),(2,.q 1 0)],[(0,.bx 201 (lx201 p0)),(2,.bx 3 [lI p1]),(1,.bx 275 [lP 0 0])],3⟩) ?_ [] R;refine .drP 5 [(3,[]),(3,[]),(3,[oF,oT]),(3,[oF,oT,oT]),(3,fA 1 (tT 3))] [_,_,_,_,_] ⟨O.ld y6r Z R (.B R) R R,O.ld y6r Z R (.B R) R R,O.nc .B Z R R,O.faP y8w Z R R,O.ld nag4 Z R (.B R) R R,trivial⟩ fun s=>?_;rcases ifS hm with ⟨d,hm⟩|⟨d,hm⟩
    · skip
      exact .drH s 3 [(3,fA 1 (tT 4)),(3,fA 1 (tT 5)),(3,fA 1 (tT 6)),(3,fA 1 (tT 7)),(3,fA 1 (tT 5)),(3,fA 1 (tT 9)),(3,fA 1 (tT 10)),(3,fA 1 (tT 11)),(3,tT 13),(3,tT 14),(3,tT 15)] [_,_,_,_,_,_,_,_,_,_,_] ⟨[(3,.q 2 0),(2,.q 1 0)],[(0,.bx 201 [lF qI p0.1.1.1.1,lI p0.1.1.1.2.1,lF qI p0.1.1.1.2.2.1,lF qT p0.1.1.1.2.2.2,lF qI p0.1.1.2.1.1,lI p0.1.1.2.1.2.1,lF qI p0.1.1.2.1.2.2.1,lF qT p0.1.1.2.1.2.2.2,lF qI p0.1.1.2.2,lI p0.1.2.1.1.1,lI p0.1.2.1.1.2.1,lI p0.1.2.1.1.2.2.1,lF rB p0.1.2.1.1.2.2.2.1,lF rE302 p0.1.2.1.1.2.2.2.2,lF qI p0.1.2.1.2.1,lF qI p0.1.2.1.2.2.1,lI p0.1.2.1.2.2.2,lI p0.1.2.2.1,lF rB p0.1.2.2.2.1,lF rB p0.1.2.2.2.2,lI p0.2.1,lB true]),(2,.bx 3 [lI p1]),(1,.bx 275 [lP 0 0])],3⟩ ⟨O.kn (O.mv Z R R) d,O.skip R R R R,O.skip R R R R,O.skip R R R R,O.skip R R R R,O.skip R R R R,O.skip R R R R,O.pkT Z R R R R,O.nc .B Z R R,O.faP y8w Z R R,O.st nag4.sz Z R R R R R,trivial⟩ (by kernel_rfl) R ((g _ hm).sub [(1,2),(2,1)] R)
    · skip
      refine bS hm fun a n hm=>?_;refine .drz 3 [(10,0)] [(3,[],[0],[]),(3,[],[],[]),(3,[oF,oT],[],[]),(3,[oF,oT,oT],[],[]),(3,[oF,oT,oT,oT],[],[]),(3,[oF,oT,oT,oT,oT],[],[]),(3,[oF,oT,oT,oT,oT,oT],[],[]),(3,[oF,oT,oT,oT,oT,oT,oT],[],[]),(3,[oF,oT,oT,oT,oT,oT,oT,oT],[],[]),(3,[oF,oT,oT,oT,oT,oT],[],[]),(3,[oF,oT,oT,oT,oT,oT,oT,oT,oT,oT],[],[]),(3,[oF,oT,oT,oT,oT,oT,oT,oT,oT,oT,oT],[],[]),(3,[oF,oT,oT,oT,oT,oT,oT,oT,oT,oT,oT,oT],[],[]),(3,[oT,oT,oT,oT,oT,oT,oT,oT,oT,oT,oT,oT,oT],[],[]),(3,[oT,oT,oT,oT,oT,oT,oT,oT,oT,oT,oT,oT,oT,oT],[],[]),(3,[oT,oT,oT,oT,oT,oT,oT,oT,oT,oT,oT,oT,oT,oT,oT],[],[])] [_,_,_,_,_,_,_,_,_,_,_,_,_,_,_,_] ⟨[(3,.q 2 0),(2,.q 1 0)],[(0,.bx 201 [lF qI a.2.1.1.1.1,lI a.2.1.1.1.2.1,lF qI a.2.1.1.1.2.2.1,lF qT a.2.1.1.1.2.2.2,lF qI a.2.1.1.2.1.1,lI a.2.1.1.2.1.2.1,lF qI a.2.1.1.2.1.2.2.1,lF qT a.2.1.1.2.1.2.2.2,lF qI a.2.1.1.2.2,lI a.2.1.2.1.1.1,lI a.2.1.2.1.1.2.1,lI a.2.1.2.1.1.2.2.1,lF rB a.2.1.2.1.1.2.2.2.1,lF rE302 a.2.1.2.1.1.2.2.2.2,lF qI a.2.1.2.1.2.1,lF qI a.2.1.2.1.2.2.1,lI a.2.1.2.1.2.2.2,lI a.2.1.2.2.1,lF rB a.2.1.2.2.2.1,lF rB a.2.1.2.2.2.2,lI a.2.2.1,lB (!a.1)]),(2,.bx 3 [lI p1]),(1,.bx 275 [lP 0 0])],3⟩ ⟨O.ld y6r Z R (.B R) R R,O.ld y6r Z R (.B R) R R,O.nc .B Z R R,O.faP y8w Z R R,O.ld nag4 Z R (.B R) R R,O.kn (O.mv Z R R) d,O.ld y6r (Gu.mk R R) R (.B R) R R,O.nc .B (Gu.mk R R) R R,O.faP ybn (Gu.mk R R) R R,O.ld nag3 (Gu.mk R R) R (.B R) R R,O.ca (r':= .b a.1) [0] [(0,.bx 201 (lx201 a.2))] none (y8Z n) cf186 R R (Gu.mk R R) R R R R ⟨⟨_,R,I4⟩,trivial⟩ I3 R,O.not (Gu.mk R R) R R,O.pkF Z R R R R,O.nc .B Z R R,O.faP y8w Z R R,O.st nag4.sz Z R R R R R,trivial⟩ (by kernel_rfl) R ?_;exact(g _ hm).sub [(1,2),(2,1)] R
def y1V(b:List Int)(a:Int×(BenT×Int×Bool)):Option ((Int×(BenT×Int×Bool))⊕(BenT×Int×Bool)):=
 if decide (a.1<(b.length:Int)) then
  (idx b a.1).bind fun d=>
  (y3A a.2 d).bind fun c=>
  some (.inl (W (a.1+1),c))
 else
  some (.inr a.2)
def y1W(p1:List StpT)(a:Int×(BenT×Int×Bool)):Option ((Int×(BenT×Int×Bool))⊕(Unit⊕(Int×Int))):=
 if decide (a.1<(p1.length:Int)) then
  (idx p1 a.1).bind fun c=>
  (y3c c).bind fun d=>
  (iter (y1V d) (0,a.2)).bind fun b=>
  if b.2.2 then
   some (.inr (.inr ((1,a.1))))
  else
   if c.2.2.2.2.2.2 then
    some (.inr (.inr ((2,a.1))))
   else
    if(c.2.2.2.2.2.1 != b.2.1) then
     some (.inr (.inr ((3,a.1))))
    else
     some (.inl (W (a.1+1),b))
 else
  some (.inr (.inl ()))
def y1j(p0:PbT)(p1:List StpT):Option (Int×Int×Bool×Int):=
 (y1q p0).bind fun c=>
 if(c != 0) then
  some (0,0,false,c)
 else
  (y3e p1).bind fun d=>
  (y3j d (y3l p0)).bind fun e=>
  if e then
   some (0,0,false,9)
  else
   (iter (y1W p1) (0,(p0,((0,0,0,([]:List Bool),([]:List (Int×Int))),([]:List Int),([]:List Int),0),0,([]:List Bool),([]:List Bool)),0,false)).bind fun b=>
   match b with
   | .inl f=>
    some (0,0,false,0)
   | .inr (a)=>
    some (a.2,a.1,true,0)
theorem y4G{p1:List StpT}{r:Int×Int×Bool×Int}(hm:y1j p0 p1=some r):
    F0 49 [.a (lx37 p0),.f rE100 p1] [] (.tp [.i r.1,.i r.2.1,.b r.2.2.1,.i r.2.2.2]) []:=by
  unfold y1j at hm;refine Fw.mk2 Tryz.func49 Tryz.ntmps49 R (fun C=>?_) R;refine .sr (.bo 0 R (.sa R (.sa R (.sa R (.an R (.seq (.sr (.op (O.lg (l':=(lx37 p0)) ag37 Z R (.B R) R R R) R (bS hm fun W L hm=> .c0 (y7O L) cf62 R (.an R (.sr (.mv R (.bi R (.ns ?_))))))))))))));refine .cc hm R (fun hm=>?_) fun hm=>?_
  ·refine .sr (.mv R (.sa R (.sa R (.sa R (.an R (.ret (.seqR ?_)))))));cases hm;exact .rr [] Tryz.results49 (.tmp R (.tmp R (.tmp R (.tmp R .nil)))) R I3 trivial
  ·refine .skip (.seqN (.seq (.sr (.mv R (bS hm fun U M hm=> .op (O.ca (r':= .h 1) [1] [(0,ROW qI 3 U)] (some 2) (y5I M) cf53 R R Z R R R R ⟨⟨_,R,I4⟩,trivial⟩ I3 R) R (.fz 0 [2] [] R R fB R R (.op (O.mf (args:=(fun (x:Int)=> [.i x])) (res:=(fun (r:Bool)=> .b r)) (m:=(y3l p0)) cf122 (fun x r h=>y8K h) (fun _=>R) R Z R R) R (bS hm fun X N hm=> .op (O.caZ (y8I N) cf106 R R Z R ⟨⟨R,.hr R,trivial⟩,⟨R,LnL.rf⟩,trivial⟩ (fun _ _ _ _ _ h=>h) R) R (.ns ?_)))))))));refine .cc hm R (fun hm=>?_) fun hm=>?_
   ·refine .sr (.sa R (.sa R (.sa R (.an R (.ret (.seqR ?_))))));cases hm;exact .rr [] Tryz.results49 (.tmp R (.tmp R (.tmp R (.tmp R .nil)))) R I3 trivial
   ·refine .skip (.seqN (.sr (.op (O.lg (l':=(lx37 p0)) ag37 Z R .Q R R R) R (.op (O.bu (l:=[lF qI p0.1.1,lI p0.1.2.1,lF qI p0.1.2.2.1,lF qT p0.1.2.2.2,lF qI p0.2.1.1,lI p0.2.1.2.1,lF qI p0.2.1.2.2.1,lF qT p0.2.1.2.2.2,lF qI p0.2.2,lI 0,lI 0,lI 0,lN,lN,lN,lN,lI 0,lI 0,lN,lN]) pl199 R Z R R R) R (.op (O.bu (l:=[lF qI p0.1.1,lI p0.1.2.1,lF qI p0.1.2.2.1,lF qT p0.1.2.2.2,lF qI p0.2.1.1,lI p0.2.1.2.1,lF qI p0.2.1.2.2.1,lF qT p0.2.1.2.2.2,lF qI p0.2.2,lI 0,lI 0,lI 0,lN,lN,lN,lN,lI 0,lI 0,lN,lN,lI 0,lB false]) pl201 R Z R R R) R (.al 2 zz201 R (.st ag201.sz R (.ns (.seq (.sr (.mv R (.ln sl91 R (.mv R (.ns (.block (bS hm fun u v hm=>?_))))))))))))))));refine .cutU (z:= .exit 0) (fun t=> .inl t=u) (fun (t:Unit)=>⟨[],[],0⟩) ?_ fun J=>?_
    · rintro t rfl;dsimp only at hm;refine .blkE (.seqN (.sr (.sa R (.sa R (.sa R (.an R (.ret ?_)))))));cases hm;exact .rr [] Tryz.results49 (.tmp R (.tmp R (.tmp R (.tmp R .nil)))) R I3 trivial
    refine .cutU (z:= .ret) (fun g=> .inr (g)=u) (fun (g:Int×Int)=>⟨[(7,.i 0),(6,.b true),(5,.i g.1),(4,.i g.2)],[],0⟩) ?_ fun n=>?_
    · rintro g rfl;dsimp only at hm;refine .blkR (.seqR ?_);cases hm;exact .rr [] Tryz.results49 (.tmp R (.tmp R (.tmp R (.tmp R .nil)))) R I3 trivial
    refine .cno 2 R (.c .rf (.c .rf (.c .rf (.c .rf (.c .rf (.c .rf (.c .rf (.c .rf (.c .rf (.c .rf (.c .rf (.c .rf (.c (.nf (r:=rB)) (.c (.nf (r:=rE302)) (.c (.nf (r:=qI)) (.c (.nf (r:=qI)) (.c .rf (.c .rf (.c (.nf (r:=rB)) (.c (.nf (r:=rB)) .rf)))))))))))))))))))) R (.iter (fun (d:Int×(BenT×Int×Bool))=>⟨[(27,.i d.1),(26,.i (p1.length:Int)),(25,.f rE100 p1),(8,.q 0 0)],[(0,.bx 201 (lx201 d.2))],1⟩) v [(0,2)] R ?_);intro d S hm H e;unfold y1W at hm;refine .sr (.bi R (.ns (.seq ?_)));refine .cc hm R (fun hm=>?_) fun hm=> .exit (.seqX (.seqX ((J _ (e _ (oi hm).symm)).sub [] R)));refine .skip (.seqN (.seq (.block (.sr (.mv R (bS hm fun k F hm=> .ix sl91 F R (.op (O.lg (l':=(lx100 k)) ag100 Z R (.E lv100) R R R) R (.al 1 zz100 R (.sa R (.st ag100.sz R (.ns (.seq (.sr (.op (O.lg (l':=(lx100 k)) ag100 Z R (.B R) R R R) R (bS hm fun s y hm=> .op (O.ca (r':= .h 2) [2] [(0,ROW qI 3 s)] (some 3) (y6X y) cf123 R R Z R R R R ⟨⟨_,R,I4⟩,trivial⟩ I3 R) R (.op (O.lenH sl32 Z R R R) R (.mv R (.ns (.block (bS hm fun p w hm=>?_))))))))))))))))))));refine .cut1 (z:= .exit 2) p (fun (p:(BenT×Int×Bool))=>⟨[(9,.i d.1),(10,.q 0 0),(27,.i d.1),(26,.i (p1.length:Int)),(25,.f rE100 p1),(8,.q 1 0)],[(0,.bx 100 (lx100 k)),(1,.bx 201 (lx201 p))],2⟩) ?_ fun K=>?_
    · skip
      refine .blkE (.seqN (.block (.sr (.fa y8w R (.lb nag4 R (.an R ?_))))));refine .cc hm R (fun hm=> .sr (.mv R (.sa R (.sa R (.sa R (.an R (.ret (.blkR (.blkR (.seqR (.seqR ((n _ (e _ (oi hm).symm)).sub [] R)))))))))))) fun hm=>?_;refine .sr (.fa yah R (.lb nag4 R (.an R ?_)));refine .cc hm R (fun hm=> .sr (.mv R (.sa R (.sa R (.sa R (.an R (.ret (.blkR (.blkR (.seqR (.seqR ((n _ (e _ (oi hm).symm)).sub [] R)))))))))))) fun hm=>?_;refine .sr (.fa y9q R (.lb nag3 R (.fa ycA R (.lb nag3 R (.bi R (.an R ?_))))));exact .cc hm R (fun hm=> .sr (.mv R (.sa R (.sa R (.sa R (.an R (.ret (.blkR (.blkR (.seqR (.seqR ((n _ (e _ (oi hm).symm)).sub [] R)))))))))))) fun hm=> .skip (.blkN (.blkN (.seqN (.reg (.bi R (.mv R (.nil ((H _ (oi hm).symm).sub [(0,1)] R))))))))
    refine .iter (fun (j:Int×(BenT×Int×Bool))=>⟨[(35,.i j.1),(34,.i (s.length:Int)),(33,.h 0),(9,.i d.1),(10,.q 1 0),(27,.i d.1),(26,.i (p1.length:Int)),(25,.f rE100 p1),(8,.q 2 0)],[(0,ROW qI 3 s),(1,.bx 100 (lx100 k)),(2,.bx 201 (lx201 j.2))],3⟩) w [(0,2),(2,0)] R ?_;intro j T hm I G;unfold y1V at hm;refine .sr (.bi R (.ns (.seq ?_)));exact .cc hm R (fun hm=> .skip (.seqN (.seq (.block (.sr (bS hm fun V o hm=> .op (O.ir sl32 Z R R R o R) R (.op (O.ld nag3 Z R (.R R o lv3) R R) R (.an R (.reg (.mv R (bS hm fun P D hm=> .op (O.ca (r':= .tp []) [2] [(0,.bx 201 (lx201 P))] none (y9a D) cf124 R R Z R R R R ⟨⟨_,R,I4⟩,trivial⟩ I3 R) R (.nil (.blkN (.seqN (.reg (.bi R (.mv R (.nil ((I _ (oi hm).symm).sub [] R))))))))))))))))))) fun hm=> .exit (.seqX (.seqX ((K _ (G _ (oi hm).symm)).sub [(0,1),(1,2)] R)))
def y5m :Option Bool:=
 (y3G).bind fun n=>
 (y6o n ([(([]:List Int),([0]:List Int),2)]:List CycT)).bind fun a=>
 (y3G).bind fun o=>
 (y1j o a.1).bind fun c=>
 (y3G).bind fun p=>
 (y6o p ([(([0]:List Int),([]:List Int),2)]:List CycT)).bind fun b=>
 (y3G).bind fun q=>
 (y1j q b.1).bind fun j=>
 (if ((a.2==0)&&((a.1.length:Int)==1)) then
  (idx a.1 0).bind fun m=>
  some m.2.2.2.2.1
 else
  some false).bind fun d=>
 (if d then
  (y3e a.1).bind fun h=>
  (y5A h ([0,2]:List Int)).bind fun i=>
  some i
 else
  some false).bind fun e=>
 (if ((((((e&&(c.2.2.2==0))&&c.2.2.1)&&(c.1==0))&&(c.2.1==1))&&(b.2==0))&&((b.1.length:Int)==1)) then
  (idx b.1 0).bind fun l=>
  some (l.2.2.2.1==(-1))
 else
  some false).bind fun f=>
 (if f then
  (idx b.1 0).bind fun k=>
  some ((k.2.2.1.length:Int)==0)
 else
  some false).bind fun g=>
 some ((g&&(j.2.2.2==0))&&(!j.2.2.1))
theorem y9J(hm:y5m=some r):
  F0 46 [] [] (.b r) []:=by
 unfold y5m at hm;refine Fw.mk2 Tryz.func46 Tryz.ntmps46 R (fun C=>?_) R;refine .sr (.an R (.sr (bS hm fun r1 a2 hm=> .c0 (y5e a2) cf118 R (.op (O.bsF (r:=qI) (zs:=([0]:List Int)) bs32 R R Z R R R (.c .k .n) R R R) R (.op (O.bu (l:=[lN,lF qI ([0]:List Int),lI 2]) pl114 R Z R R R) R (.op (O.bsF (r:=rE114) (zs:=([(([]:List Int),([0]:List Int),2)]:List CycT)) bs94 R R Z R R R (.c (.p .n (.p .l .k)) .n) R R R) R (bS hm fun m a3 hm=> .op (O.ca (r':= .tp [.h 0,.i m.2]) [0] [(0,ROW rE100 100 m.1)] (some 1) (y8J a3) cf57 R R Z R R R R ⟨⟨_,R,I4⟩,trivial⟩ I3 R) R (.mv R (.ex R (.ex R (.sa R (.an R (.sr (bS hm fun r3 a4 hm=> .c0 (y5e a4) cf118 R (.mv R (bS hm fun a a5 hm=> .op (O.caZ (y4G a5) cf49 R R Z R ⟨⟨R,LnL.rf⟩,⟨R,.hr R,trivial⟩,trivial⟩ (fun _ _ _ _ _ h=>h) R) R (.mv R (.ex R (.ex R (.ex R (.ex R (.sa R (.sa R (.sa R (.an R (.seq ?_))))))))))))))))))))))))));refine .reg (bS hm fun r5 a6 hm=> .c0 (y5e a6) cf118 R (.op (O.bsF (r:=qI) (zs:=([0]:List Int)) bs32 R R Z R R R (.c .k .n) R R R) R (.op (O.bu (l:=[lF qI ([0]:List Int),lN,lI 2]) pl114 R Z R R R) R (.op (O.bsF (r:=rE114) (zs:=([(([0]:List Int),([]:List Int),2)]:List CycT)) bs94 R R Z R R R (.c (.p .l (.p .n .k)) .n) R R R) R (bS hm fun f a7 hm=> .op (O.ca (r':= .tp [.h 1,.i f.2]) [1] [(0,ROW rE100 100 f.1)] (some 2) (y8J a7) cf57 R R Z R R R R ⟨⟨_,R,I4⟩,trivial⟩ I3 R) R (.mv R (.ex R (.ex R (.sa R (.an R (.sr (bS hm fun r7 a8 hm=> .c0 (y5e a8) cf118 R (.mv R (bS hm fun e a9 hm=> .op (O.caZ (y4G a9) cf49 R R Z R ⟨⟨R,LnL.rf⟩,⟨R,.hr R,trivial⟩,trivial⟩ (fun _ _ _ _ _ h=>h) R) R (.mv R (.ex R (.ex R (.ex R (.ex R (.sa R (.sa R (.sa R (.an R (.sr (.mv R (.bi R (.mv R ?_)))))))))))))))))))))))))));refine .cut 4 (fun (Y:Bool)=>((m.2==0)&&((m.1.length:Int)==1))=Y) (fun Y=>⟨[(51,.b Y),(12,.i e.2.2.2),(11,.b e.2.2.1),(8,.i f.2),(7,.h 1),(6,.i a.2.2.2),(5,.b a.2.2.1),(4,.i a.2.1),(3,.i a.1),(1,.h 0)],[(1,ROW rE100 100 f.1),(0,ROW rE100 100 m.1)],2⟩) ?_ ?_
 ·rintro _ rfl;refine .mv R (bS hm fun a0 eb11 hm=>?_);refine .cut 5 (fun (t:Bool)=>a0=t) (fun t=>⟨[(57,.b t),(12,.i e.2.2.2),(11,.b e.2.2.1),(8,.i f.2),(7,.h 1),(6,.i a.2.2.2),(5,.b a.2.2.1),(4,.i a.2.1),(3,.i a.1),(1,.h 0)],[(1,ROW rE100 100 f.1),(0,ROW rE100 100 m.1)],2⟩) ?_ ?_
  ·rintro _ rfl;refine .mv R (bS hm fun g eb14 hm=>?_);refine .cut 5 (fun (u:Bool)=>g=u) (fun u=>⟨[(63,.b u),(12,.i e.2.2.2),(11,.b e.2.2.1),(8,.i f.2),(7,.h 1),(6,.i a.2.2.2),(5,.b a.2.2.1),(4,.i a.2.1),(3,.i a.1)],[(1,ROW rE100 100 f.1)],3⟩) ?_ ?_
   ·rintro _ rfl;refine .mv R ?_;refine .cut 3 (fun (v:Bool)=>(g&&(a.2.2.2==0))=v) (fun v=>⟨[(67,.b v),(12,.i e.2.2.2),(11,.b e.2.2.1),(8,.i f.2),(7,.h 1),(5,.b a.2.2.1),(4,.i a.2.1),(3,.i a.1)],[(1,ROW rE100 100 f.1)],3⟩) ?_ ?_
    ·rintro _ rfl;refine .mv R ?_;refine .cut 2 (fun (w:Bool)=>((g&&(a.2.2.2==0))&&a.2.2.1)=w) (fun w=>⟨[(70,.b w),(12,.i e.2.2.2),(11,.b e.2.2.1),(8,.i f.2),(7,.h 1),(4,.i a.2.1),(3,.i a.1)],[(1,ROW rE100 100 f.1)],3⟩) ?_ ?_
     ·rintro _ rfl;refine .mv R ?_;refine .cut 3 (fun (x:Bool)=>(((g&&(a.2.2.2==0))&&a.2.2.1)&&(a.1==0))=x) (fun x=>⟨[(74,.b x),(12,.i e.2.2.2),(11,.b e.2.2.1),(8,.i f.2),(7,.h 1),(4,.i a.2.1)],[(1,ROW rE100 100 f.1)],3⟩) ?_ ?_
      ·rintro _ rfl;refine .mv R ?_;refine .cut 3 (fun (y:Bool)=>((((g&&(a.2.2.2==0))&&a.2.2.1)&&(a.1==0))&&(a.2.1==1))=y) (fun y=>⟨[(78,.b y),(12,.i e.2.2.2),(11,.b e.2.2.1),(8,.i f.2),(7,.h 1)],[(1,ROW rE100 100 f.1)],3⟩) ?_ ?_
       ·rintro _ rfl;refine .mv R ?_;refine .cut 3 (fun (z:Bool)=>(((((g&&(a.2.2.2==0))&&a.2.2.1)&&(a.1==0))&&(a.2.1==1))&&(f.2==0))=z) (fun z=>⟨[(82,.b z),(12,.i e.2.2.2),(11,.b e.2.2.1),(7,.h 1)],[(1,ROW rE100 100 f.1)],3⟩) ?_ ?_
        ·rintro _ rfl;refine .mv R ?_;refine .cut 4 (fun (B:Bool)=>((((((g&&(a.2.2.2==0))&&a.2.2.1)&&(a.1==0))&&(a.2.1==1))&&(f.2==0))&&((f.1.length:Int)==1))=B) (fun B=>⟨[(87,.b B),(12,.i e.2.2.2),(11,.b e.2.2.1),(7,.h 1)],[(1,ROW rE100 100 f.1)],3⟩) ?_ ?_
         ·rintro _ rfl;refine .mv R (bS hm fun a1 eb29 hm=>?_);refine .cut 6 (fun (D:Bool)=>a1=D) (fun D=>⟨[(94,.b D),(12,.i e.2.2.2),(11,.b e.2.2.1),(7,.h 1)],[(1,ROW rE100 100 f.1)],3⟩) ?_ ?_
          ·rintro _ rfl;refine .mv R (bS hm fun j eb32 hm=>?_);refine .cut 7 (fun (E:Bool)=>j=E) (fun E=>⟨[(102,.b E),(12,.i e.2.2.2),(11,.b e.2.2.1)],[],3⟩) ?_ ?_
           ·rintro _ rfl;refine .mv R ?_;refine .cut 3 (fun (F:Bool)=>(j&&(e.2.2.2==0))=F) (fun F=>⟨[(106,.b F),(11,.b e.2.2.1)],[],3⟩) ?_ ?_
            ·rintro _ rfl;refine .mv R ?_;refine .cut 3 (fun (G:Bool)=>((j&&(e.2.2.2==0))&&(!e.2.2.1))=G) (fun G=>⟨[(110,.b G)],[],3⟩) ?_ ?_
             ·rintro _ rfl;refine .an R (.ret ?_);cases hm;exact .rr [] Tryz.results46 (.tmp R .nil) R I3 trivial
             ·intro V;rcases Bool.eq_false_or_eq_true (j&&(e.2.2.2==0)) with hc|hc
              ·refine .know (d:=107) R hc ?_;exact .op (O.mv (Gu.mk R R) R R) R (.op (O.not (Gu.mk R R) R R) R (.op (O.pkT Z R R R R) R ((V (!e.2.2.1) (andT hc).symm).sub [] R)))
              ·refine .know (d:=107) R hc ?_;exact .sk R (.sk R (.op (O.pkF Z R R R R) R ((V false (andF hc).symm).sub [] R)))
            ·intro U;rcases Bool.eq_false_or_eq_true j with hc|hc
             ·refine .know (d:=103) R hc ?_;exact .op (O.mv (Gu.mk R R) R R) R (.op (O.bi (Gu.mk R R) R R R R) R (.op (O.pkT Z R R R R) R ((U (e.2.2.2==0) (andT hc).symm).sub [] R)))
             ·refine .know (d:=103) R hc ?_;exact .sk R (.sk R (.op (O.pkF Z R R R R) R ((U false (andF hc).symm).sub [] R)))
           ·intro T;rcases ifS eb32 with ⟨hc,hm⟩|⟨hc,hm⟩
            ·refine .know (d:=95) R hc ?_;exact .op (O.mv (Gu.mk R R) R R) R (bS hm fun b2 o hm=> .op (O.ir sl91 (Gu.mk R R) R R R o R) R (.op (O.faR yaf (Gu.mk R R) R R) R (.op (O.ld nag32 (Gu.mk R R) R (.R R o lv100) R R) R (.op (O.len sl32 (Gu.mk R R) R R) R (.op (O.bi (Gu.mk R R) R R R R) R (.op (O.pkT Z R R R R) R ((T ((b2.2.2.1.length:Int)==0) (oi hm).symm).sub [] R)))))))
            ·refine .know (d:=95) R hc ?_;exact .sk R (.sk R (.sk R (.sk R (.sk R (.sk R (.op (O.pkF Z R R R R) R ((T false (oi hm).symm).sub [] R)))))))
          ·intro S;rcases ifS eb29 with ⟨hc,hm⟩|⟨hc,hm⟩
           ·refine .know (d:=88) R hc ?_;exact .op (O.mv (Gu.mk R R) R R) R (bS hm fun b3 q hm=> .op (O.ir sl91 (Gu.mk R R) R R R q R) R (.op (O.faR y5S (Gu.mk R R) R R) R (.op (O.ld nag3 (Gu.mk R R) R (.R R q lv100) R R) R (.op (O.bi (Gu.mk R R) R R R R) R (.op (O.pkT Z R R R R) R ((S (b3.2.2.2.1==(-1)) (oi hm).symm).sub [] R))))))
           ·refine .know (d:=88) R hc ?_;exact .sk R (.sk R (.sk R (.sk R (.sk R (.op (O.pkF Z R R R R) R ((S false (oi hm).symm).sub [] R))))))
         ·intro Q;rcases Bool.eq_false_or_eq_true (((((g&&(a.2.2.2==0))&&a.2.2.1)&&(a.1==0))&&(a.2.1==1))&&(f.2==0)) with hc|hc
          ·refine .know (d:=83) R hc ?_;exact .op (O.mv (Gu.mk R R) R R) R (.op (O.lenH sl91 (Gu.mk R R) R R R) R (.op (O.bi (Gu.mk R R) R R R R) R (.op (O.pkT Z R R R R) R ((Q ((f.1.length:Int)==1) (andT hc).symm).sub [] R))))
          ·refine .know (d:=83) R hc ?_;exact .sk R (.sk R (.sk R (.op (O.pkF Z R R R R) R ((Q false (andF hc).symm).sub [] R))))
        ·intro P;rcases Bool.eq_false_or_eq_true ((((g&&(a.2.2.2==0))&&a.2.2.1)&&(a.1==0))&&(a.2.1==1)) with hc|hc
         ·refine .know (d:=79) R hc ?_;exact .op (O.mv (Gu.mk R R) R R) R (.op (O.bi (Gu.mk R R) R R R R) R (.op (O.pkT Z R R R R) R ((P (f.2==0) (andT hc).symm).sub [] R)))
         ·refine .know (d:=79) R hc ?_;exact .sk R (.sk R (.op (O.pkF Z R R R R) R ((P false (andF hc).symm).sub [] R)))
       ·intro N;rcases Bool.eq_false_or_eq_true (((g&&(a.2.2.2==0))&&a.2.2.1)&&(a.1==0)) with hc|hc
        ·refine .know (d:=75) R hc ?_;exact .op (O.mv (Gu.mk R R) R R) R (.op (O.bi (Gu.mk R R) R R R R) R (.op (O.pkT Z R R R R) R ((N (a.2.1==1) (andT hc).symm).sub [] R)))
        ·refine .know (d:=75) R hc ?_;exact .sk R (.sk R (.op (O.pkF Z R R R R) R ((N false (andF hc).symm).sub [] R)))
      ·intro M;rcases Bool.eq_false_or_eq_true ((g&&(a.2.2.2==0))&&a.2.2.1) with hc|hc
       ·refine .know (d:=71) R hc ?_;exact .op (O.mv (Gu.mk R R) R R) R (.op (O.bi (Gu.mk R R) R R R R) R (.op (O.pkT Z R R R R) R ((M (a.1==0) (andT hc).symm).sub [] R)))
       ·refine .know (d:=71) R hc ?_;exact .sk R (.sk R (.op (O.pkF Z R R R R) R ((M false (andF hc).symm).sub [] R)))
     ·intro L;rcases Bool.eq_false_or_eq_true (g&&(a.2.2.2==0)) with hc|hc
      ·refine .know (d:=68) R hc ?_;exact .op (O.mv (Gu.mk R R) R R) R (.op (O.pkT Z R R R R) R ((L a.2.2.1 (andT hc).symm).sub [] R))
      ·refine .know (d:=68) R hc ?_;exact .sk R (.op (O.pkF Z R R R R) R ((L false (andF hc).symm).sub [] R))
    ·intro K;rcases Bool.eq_false_or_eq_true g with hc|hc
     ·refine .know (d:=64) R hc ?_;exact .op (O.mv (Gu.mk R R) R R) R (.op (O.bi (Gu.mk R R) R R R R) R (.op (O.pkT Z R R R R) R ((K (a.2.2.2==0) (andT hc).symm).sub [] R)))
     ·refine .know (d:=64) R hc ?_;exact .sk R (.sk R (.op (O.pkF Z R R R R) R ((K false (andF hc).symm).sub [] R)))
   ·intro J;rcases ifS eb14 with ⟨hc,hm⟩|⟨hc,hm⟩
    ·refine .know (d:=58) R hc ?_;exact .op (O.mv (Gu.mk R R) R R) R (bS hm fun b0 W hm=> .op (O.caY (r':= .h 2) [2] [(0,ROW qI 3 b0)] (some 3) (y5I W) cf53 R R (Gu.mk R R) R R ⟨⟨R,.hr R,trivial⟩,trivial⟩ R ⟨.row flr3,trivial⟩ (fun _ _ _ _ h=>h) ⟨⟨_,R,I4⟩,trivial⟩ I3 R) R (.op (O.bsF (r:=qI) (zs:=([0,2]:List Int)) bs32 R R (Gu.mk R R) R R R (.c .k (.c .k .n)) R R R) R (bS hm fun b1 X hm=> .op (O.caZ (y8V X) cf59 R R (Gu.mk R R) R ⟨⟨R,.hr R,trivial⟩,⟨R,LnL.rf⟩,trivial⟩ (fun _ _ _ _ _ h=>h) R) R (.op (O.pkT Z R R R R) R ((J b1 (oi hm).symm).sub [] R)))))
    ·refine .know (d:=58) R hc ?_;exact .sk R (.sk R (.sk R (.sk R (.op (O.pkF Z R R R R) R ((J false (oi hm).symm).sub [] R)))))
  ·intro I;rcases ifS eb11 with ⟨hc,hm⟩|⟨hc,hm⟩
   ·refine .know (d:=52) R hc ?_;exact .op (O.mv (Gu.mk R R) R R) R (bS hm fun b4 s hm=> .op (O.ir sl91 (Gu.mk R R) R R R s R) R (.op (O.faR y7g (Gu.mk R R) R R) R (.op (O.ld nag4 (Gu.mk R R) R (.R R s lv100) R R) R (.op (O.pkT Z R R R R) R ((I b4.2.2.2.2.1 (oi hm).symm).sub [] R)))))
   ·refine .know (d:=52) R hc ?_;exact .sk R (.sk R (.sk R (.sk R (.op (O.pkF Z R R R R) R ((I false (oi hm).symm).sub [] R)))))
 ·intro H;rcases Bool.eq_false_or_eq_true (m.2==0) with hc|hc
  ·refine .know (d:=47) R hc ?_;exact .op (O.mv (Gu.mk R R) R R) R (.op (O.lenH sl91 (Gu.mk R R) R R R) R (.op (O.bi (Gu.mk R R) R R R R) R (.op (O.pkT Z R R R R) R ((H ((m.1.length:Int)==1) (andT hc).symm).sub [] R))))
  ·refine .know (d:=47) R hc ?_;exact .sk R (.sk R (.sk R (.op (O.pkF Z R R R R) R ((H false (andF hc).symm).sub [] R))))
def y3m(p0:((Int×y1C)×(Int×y1C)×Int)×Bool):Option PbT:=
 (y4M p0.1 p0.2).bind fun a=>
 some a
theorem y8L{p0:((Int×y1C)×(Int×y1C)×Int)×Bool}{r:PbT}(hm:y3m p0=some r):
  F0 47 [.a (lx84 p0)] [] (.g [lF qI r.1.1,lI r.1.2.1,lF qI r.1.2.2.1,lF qT r.1.2.2.2,lH 0,lI r.2.1.2.1,lH 1,lH 2,lH 3]) [ROW qI 3 r.2.1.1,ROW qI 3 r.2.1.2.2.1,ROW qT 124 r.2.1.2.2.2,ROW qI 3 r.2.2]:=by
 unfold y3m at hm;refine Fw.mk2 Tryz.func47 Tryz.ntmps47 R (fun C=>?_) R;refine .sr (.bo 0 R (.al 1 zz37 R (.nr (.fa yhb R (.op (O.lg (l':=(lx30 p0.1)) ag30 Z R (.B R) R R R) R (.fa yhc R (.lb nag4 R (bS hm fun b c hm=> .op (O.ca (r':= .g [lF qI b.1.1,lI b.1.2.1,lF qI b.1.2.2.1,lF qT b.1.2.2.2,lH 2,lI b.2.1.2.1,lH 3,lH 4,lH 5]) [2,3,4,5] [(0,ROW qI 3 b.2.1.1),(1,ROW qI 3 b.2.1.2.2.1),(2,ROW qT 124 b.2.1.2.2.2),(3,ROW qI 3 b.2.2)] (some 6) (y9W c) cf16 R R Z R R R R ⟨⟨_,R,I4⟩,⟨_,R,I4⟩,⟨_,R,I4⟩,⟨_,R,I4⟩,trivial⟩ I3 R) R (.st ag37.sz R (.ns (.ret ?_)))))))))));cases hm;exact .rr [2,3,4,5] Tryz.results47 (.cell R R ag37 R .nil) R I3 ⟨⟨_,R,I4⟩,⟨_,R,I4⟩,⟨_,R,I4⟩,⟨_,R,I4⟩,trivial⟩
def y3d(p0:List Int)(p1:Int)(a:Int):Option (Int⊕(Unit⊕Unit)):=
 if decide (a<(p0.length:Int)) then
  (idx p0 a).bind fun b=>
  if(b==p1) then
   some (.inr (.inr (())))
  else
   some (.inl (W (a+1)))
 else
  some (.inr (.inl ()))
def yF(p0:List Int)(p1:Int):Option Bool:=
 (iter (y3d p0 p1) 0).bind fun a=>
 match a with
 | .inl b=>
  some false
 | .inr (c)=>
  some true
theorem y1L{p0:List Int}(hm:yF p0 p1=some r):
  F0 54 [.f qI p0,.i p1] [] (.b r) []:=by
 unfold yF at hm;refine Fw.mk2 Tryz.func54 Tryz.ntmps54 R (fun C=>?_) R;refine .sr (.an R (.seq (.sr (.an R (.block (bS hm fun k g hm=>?_))))));refine .cutU (z:= .exit 0) (fun d=> .inl d=k) (fun (d:Unit)=>⟨[],[],0⟩) ?_ fun K6=>?_
 ·rintro d rfl;dsimp only at hm;refine .blkE (.seqN (.sr (.an R (.ret ?_))));cases hm;exact .rr [] Tryz.results54 (.tmp R .nil) R I3 trivial
 refine .cutU (z:= .ret) (fun e=> .inr (e)=k) (fun (e:Unit)=>⟨[(4,.b true)],[],0⟩) ?_ fun K8=>?_
 ·rintro e rfl;dsimp only at hm;refine .blkR (.seqR ?_);cases hm;exact .rr [] Tryz.results54 (.tmp R .nil) R I3 trivial
 refine .iter (fun (c:Int)=>⟨[(5,.i c),(0,.f qI p0),(1,.i p1)],[],0⟩) g [] R ?_;intro c l hm j a;unfold y3d at hm;refine .seq (.sr (.mv R (.mv R (.ln sl32 R (.bi R (.ns ?_))))));refine .cc hm R (fun hm=>?_) fun hm=> .exit (.seqX (.seqX ((K6 _ (a _ (oi hm).symm)).sub [] R)));refine .skip (.seqN (.seq (.block (.sr (.mv R (.mv R (bS hm fun m h hm=> .ix sl32 h R (.le nag3 lv3 R (.mv R (.bi R (.ns ?_)))))))))));exact .cc hm R (fun hm=> .sr (.an R (.ret (.blkR (.seqR (.seqR ((K8 _ (a _ (oi hm).symm)).sub [] R))))))) fun hm=> .skip (.blkN (.seqN (.reg (.mv R (.bi R (.sa R (.nil ((j _ (oi hm).symm).sub [] R))))))))
def y1M(a:Int×List Int)(b:List Int):Option ((Int×List Int)⊕(List Int)):=
 some (.inl (W (a.1+1),b))
def y2G(p0:PbT)(a:Int×List Int):Option ((Int×List Int)⊕(List Int)):=
 if decide (a.1<(p0.2.1.1.length:Int)) then
  (idx p0.2.1.1 a.1).bind fun c=>
  (yF p0.2.2 c).bind fun b=>
  if(!b) then
   (idx p0.2.1.1 a.1).bind fun d=>
   (app a.2 ([d]:List Int)).bind fun e=>
   y1M a e
  else
   y1M a a.2
 else
  some (.inr a.2)
def y2z(p0:PbT):Option (List Int):=
 (iter (y2G p0) (0,([]:List Int))).bind fun a=>
 some a
theorem y6v{r:List Int}(hm:y2z p0=some r):
  F0 121 [.a (lx37 p0)] [] (.h 0) [ROW qI 3 r]:=by
 unfold y2z at hm;refine Fw.mk2 Tryz.func121 Tryz.ntmps121 R (fun C=>?_) R;refine .sr (.bo 0 R (.an R (.sr (.an R (.seq (.sr (.an R (.block (bS hm fun g l hm=>?_)))))))));refine .cut1 (z:= .exit 0) g (fun (g:List Int)=>⟨[(3,.h 0)],[(0,ROW qI 3 g)],1⟩) ?_ fun v=>?_
 ·skip
  refine .blkE (.seqN (.sr (.mv R (.an R (.ret ?_)))));cases hm;exact .rr [0] Tryz.results121 (.tmp R .nil) R I3 ⟨⟨_,R,I4⟩,trivial⟩
 refine .nlg qI 3 3 0 R R (.iter (fun (d:Int×List Int)=>⟨[(4,.i d.1),(3,.h 0),(1,.q 1 0)],[(0,ROW qI 3 d.2),(1,.bx 37 (lx37 p0))],2⟩) l [(0,1),(1,0)] R ?_);intro d j hm u t;unfold y2G at hm;refine .seq (.sr (.mv R (.fa y3g R (.fa yG R (.lb nag32 R (.ln sl32 R (.bi R (.ns ?_))))))));refine .cc hm R (fun hm=>?_) fun hm=> .exit (.seqX (.seqX ((v _ (t _ (oi hm).symm)).sub [] R)));refine .skip (.seqN ?_);refine .join1 (fun (e:List Int)=>y1M d e=some j) (fun e=>⟨[(3,.h 0),(4,.i d.1),(1,.q 1 0)],[(0,ROW qI 3 e),(1,.bx 37 (lx37 p0))],2⟩) ?_ ?_
 ·intro e hm;unfold y1M at hm;exact .reg (.mv R (.bi R (.sa R (.nil ((u _ (oi hm).symm).sub [] R)))))
 ·intro f;refine .block (.seq ?_);refine .sub (τ:=⟨[(4,.i d.1),(3,.h 0),(1,.q 1 0)],[(0,ROW qI 3 d.2),(1,.bx 37 (lx37 p0))],2⟩) ?_ [] R;refine bS hm fun y o hm=>bS hm fun w m hm=>?_;refine .drw [(2,[]),(2,[oT]),(2,[]),(2,[oF,oF,oT]),(2,[oF,oF,oT,oT]),(2,[]),(2,fA 2 (tT 4)),(2,fA 2 (tT 5)),(2,tT 8),(2,tT 9)] [_,_,_,_,_,_,_,_,_,_] ⟨[(22,.b (!w)),(4,.i d.1),(3,.h 0),(1,.q 1 0)],[(0,ROW qI 3 d.2),(1,.bx 37 (lx37 p0))],2⟩ ⟨O.faP y8B Z R R,O.ld nag32 Z R (.B R) R R,O.faP y3g Z R R,O.faP yG Z R R,O.ld nag32 Z R (.B R) R R,O.mv Z R R,O.ix sl32 Z R R o R,O.ld nag3 Z R (.E lv3) R R,O.ca0 (y1L m) cf54 R R Z R R R,O.not Z R R,trivial⟩ (by kernel_rfl) R ?_;exact .seqN (.cc hm R (fun hm=> .reg (.mv R (.fa y3g R (.fa yG R (.lb nag32 R (.mv R (bS hm fun x p hm=> .ix sl32 p R (.le nag3 lv3 R (.op (O.bsF (r:=qI) (zs:=([x]:List Int)) bs32 R R Z R R R (.c .k .n) R R R) R (bS hm fun D s hm=> .op (O.ap 2 Tryz.underlying32 el3 R R Z R R (.fr R) s R) R (.sa R (.nil (.blkN ((f _ hm).sub [(0,2)] R)))))))))))))) fun hm=> .skip (.blkN ((f _ hm).sub [] R)))
def y2A(p0:PbT):Option Int:=
 (y6Q p0).bind fun a=>
 if(a != 0) then
  some a
 else
  if(p0.1.2.1==0) then
   some 12
  else
   (y2z p0).bind fun b=>
   (yT p0.2.1 b).bind fun c=>
   some c.2
theorem y9K{r:Int}(hm:y2A p0=some r):
    F0 48 [.a (lx37 p0)] [] (.i r) []:=by
  unfold y2A at hm;refine Fw.mk2 Tryz.func48 Tryz.ntmps48 R (fun C=>?_) R;refine .sr (.bo 0 R (.an R (.seq (.sr (.op (O.lg (l':=(lx37 p0)) ag37 Z R (.B R) R R R) R (bS hm fun g c hm=> .c0 (yaj c) cf119 R (.an R (.sr (.mv R (.bi R (.ns ?_)))))))))));refine .cc hm R (fun hm=>?_) fun hm=>?_
  ·refine .sr (.mv R (.an R (.ret (.seqR ?_))));cases hm;exact .rr [] Tryz.results48 (.tmp R .nil) R I3 trivial
  ·refine .skip (.seqN (.seq (.sr (.fa y2n R (.fa y2m R (.lb nag3 R (.bi R (.ns ?_))))))));refine .cc hm R (fun hm=>?_) fun hm=>?_
   ·refine .sr (.an R (.ret (.seqR ?_)));cases hm;exact .rr [] Tryz.results48 (.tmp R .nil) R I3 trivial
   ·refine .skip (.seqN (.seq ?_));refine .sub (τ:=⟨[(1,.q 0 0)],[(0,.bx 37 (lx37 p0))],1⟩) ?_ [] R;refine bS hm fun f d hm=>bS hm fun b e hm=>?_;refine .drz 7 [(8,6)] [(1,[],[],[]),(1,[oT],[],[]),(1,[],[],[]),(1,[oF,oF,oT],[],[]),(2,[oT,oT,oT,oT],[],[]),(6,[oT,oT,oT,oT,oT],[],[]),(6,[oT,oT,oT,oT,oT,oT],[],[]),(6,[oT,oT,oT,oT,oT,oT],[],[]),(1,[],[],[]),(7,[oT,oT,oT,oT,oT,oT,oT,oF,oT],[],[]),(7,[oT,oT,oT,oT,oT,oT,oT,oT,oT,oT],[],[(8,6)])] [_,_,_,_,_,_,_,_,_,_,_] ⟨[(5,.i b.2)],[],7⟩ ⟨O.faP y3g Z R R,O.lg (l':=(lx35 p0.2.1)) ag35 Z R (.B R) R R R,O.lg (l':=(lx37 p0)) ag37 Z R (.B R) R R R,O.ca (r':= .h 1) [1] [(0,ROW qI 3 f)] (some 2) (y6v d) cf121 R R Z R R R R ⟨⟨_,R,I4⟩,trivial⟩ I3 R,O.caY (r':= .tp [.a [lI b.1.1.1,lI b.1.1.2.1,lI b.1.1.2.2.1,lH 2,lH 3,lH 4,lH 5,lI b.1.2.2.2],.i b.2]) [2,3,4,5] [(0,ROW rB 4 b.1.1.2.2.2.1),(1,ROW rE302 302 b.1.1.2.2.2.2),(2,ROW qI 3 b.1.2.1),(3,ROW qI 3 b.1.2.2.1)] (some 6) (y7C e) cf120 R R Z R R ⟨⟨R,LnL.rf⟩,⟨R,.hr R,trivial⟩,trivial⟩ R ⟨.row flr4,.row yf3,.row flr3,.row flr3,trivial⟩ (fun _ _ _ _ h=>h) ⟨⟨_,R,I4⟩,⟨_,R,I4⟩,⟨_,R,I4⟩,⟨_,R,I4⟩,trivial⟩ I3 R,O.mv Z R R,O.ex Z R R R,O.ex Z R R R,O.al 6 R zz193 R Z R,O.st ag193.sz Z R R R R R,O.as Z R R,trivial⟩ (by kernel_rfl) R ?_;refine .seqN (.sr (.mv R (.an R (.ret ?_))));cases hm;exact .rr [] Tryz.results48 (.tmp R .nil) R I3 trivial
def yR(a:Int×List Int)(b:List Int):Option ((Int×List Int)⊕(List Int)):=
 some (.inl (W (a.1+1),b))
def y2L(p0:PbT)(p1:Int)(p2:Bool)(a:Int×List Int):Option ((Int×List Int)⊕(List Int)):=
 if((decide (a.1<(p0.1.1.length:Int)))&&(decide ((a.2.length:Int)<3))) then
  (idx p0.1.1 a.1).bind fun b=>
  (yF p0.2.2 b).bind fun d=>
  (if d then
   (ng a.1).bind fun _=>
   some ((IntKind.u8.wrap (((BitVec.ofInt 8 (p1.fdiv (2 ^ (min a.1.toNat 8))) &&& BitVec.ofInt 8 1).toNat:Int)))==1)
  else
   some false).bind fun c=>
  if c then
   if p2 then
    (app ([b]:List Int) a.2).bind fun e=>
    yR a e
   else
    (app a.2 ([b]:List Int)).bind fun f=>
    yR a f
  else
   yR a a.2
 else
  some (.inr a.2)
def y3L(p0:PbT)(p1:Int)(p2:Bool):Option (List Int):=
 (iter (y2L p0 p1 p2) (0,([]:List Int))).bind fun a=>
 some a
theorem y7r{p2:Bool}{r:List Int}(hm:y3L p0 p1 p2=some r):
  F0 126 [.a (lx37 p0),.o (lV (.int .u8 p1)),.b p2] [] (.h 0) [ROW qI 3 r]:=by
 unfold y3L at hm;refine Fw.mk2 Tryz.func126 Tryz.ntmps126 R (fun C=>?_) R;refine .sr (.bo 0 R (.an R (.sr (.an R (.seq (.sr (.an R (.block (bS hm fun j v hm=>?_)))))))));refine .cut1 (z:= .exit 0) j (fun (j:List Int)=>⟨[(7,.h 0)],[(0,ROW qI 3 j)],1⟩) ?_ fun F=>?_
 ·skip
  refine .blkE (.seqN (.sr (.mv R (.an R (.ret ?_)))));cases hm;exact .rr [0] Tryz.results126 (.tmp R .nil) R I3 ⟨⟨_,R,I4⟩,trivial⟩
 refine .nlg qI 3 7 0 R R (.iter (fun (e:Int×List Int)=>⟨[(8,.i e.1),(7,.h 0),(3,.q 1 0),(1,.o (lV (.int .u8 p1))),(2,.b p2)],[(0,ROW qI 3 e.2),(1,.bx 37 (lx37 p0))],2⟩) v [(0,1),(1,0)] R ?_);intro e s hm E D;unfold y2L at hm;refine .seq (.sr (.mv R (.fa y2n R (.fa yG R (.lb nag32 R (.ln sl32 R (.bi R (.mv R ?_))))))));refine .cut 4 (fun (l:Bool)=>((decide (e.1<(p0.1.1.length:Int)))&&(decide ((e.2.length:Int)<3)))=l) (fun l=>⟨[(20,.b l),(8,.i e.1),(7,.h 0),(3,.q 1 0),(1,.o (lV (.int .u8 p1))),(2,.b p2)],[(0,ROW qI 3 e.2),(1,.bx 37 (lx37 p0))],2⟩) ?_ ?_
 ·rintro _ rfl;refine .ns ?_;refine .cc hm R (fun hm=>?_) fun hm=> .exit (.seqX (.seqX ((F _ (D _ (oi hm).symm)).sub [] R)));refine .skip (.seqN ?_);refine .join1 (fun (g:List Int)=>yR e g=some s) (fun g=>⟨[(7,.h 0),(8,.i e.1),(3,.q 1 0),(1,.o (lV (.int .u8 p1))),(2,.b p2)],[(0,ROW qI 3 g),(1,.bx 37 (lx37 p0))],2⟩) ?_ ?_
  ·intro g hm;unfold yR at hm;exact .reg (.mv R (.bi R (.sa R (.nil ((E _ (oi hm).symm).sub [] R)))))
  ·intro f;refine .block (.sr (.fa y2n R (.fa yG R (.lb nag32 R (.mv R (bS hm fun p x hm=> .ix sl32 x R (.le nag3 lv3 R (.an R (.sr (.fa y8B R (.lb nag32 R (.mv R (bS hm fun I w hm=> .c0 (y1L w) cf54 R (.mv R (bS hm fun G eb26 hm=>?_)))))))))))))));refine .cut 6 (fun (m:Bool)=>G=m) (fun m=>⟨[(39,.b m),(9,.i p),(8,.i e.1),(7,.h 0),(3,.q 1 0),(1,.o (lV (.int .u8 p1))),(2,.b p2)],[(0,ROW qI 3 e.2),(1,.bx 37 (lx37 p0))],2⟩) ?_ ?_
   ·rintro _ rfl;refine .ns ?_;refine .cc hm R (fun hm=>?_) fun hm=> .skip (.blkN ((f _ hm).sub [] R));refine .sr (.mv R (.ns ?_));exact .cc hm R (fun hm=> .reg (.mv R (.op (O.bsO (r:=qI) (zs:=([p]:List Int)) 2 R bs32 R R Z R R R (.c .k .n) R R R) R (.mv R (bS hm fun J y hm=> .op (O.ap 3 Tryz.underlying32 el3 R R Z R R (.ow R R) y R) R (.sa R (.nil (.blkN ((f _ hm).sub [(0,3)] R))))))))) fun hm=> .reg (.mv R (.mv R (.op (O.bsF (r:=qI) (zs:=([p]:List Int)) bs32 R R Z R R R (.c .k .n) R R R) R (bS hm fun K B hm=> .op (O.ap 2 Tryz.underlying32 el3 R R Z R R (.fr R) B R) R (.sa R (.nil (.blkN ((f _ hm).sub [(0,2)] R))))))))
   ·intro u;rcases ifS eb26 with ⟨hc,hm⟩|⟨hc,hm⟩
    ·refine .know (d:=33) R hc ?_;exact .op (O.mv (Gu.mk R R) R R) R (.op (O.mv (Gu.mk R R) R R) R (bS hm fun _ H hm=> .op (O.shr (Gu.mk R R) R R (ycg H) R) R (.op (O.bi (Gu.mk R R) R R R R) R (.op (O.bi (Gu.mk R R) R R R R) R (.op (O.pkT Z R R R R) R ((u ((IntKind.u8.wrap (((BitVec.ofInt 8 (p1.fdiv (2 ^ (min e.1.toNat 8))) &&& BitVec.ofInt 8 1).toNat:Int)))==1) (oi hm).symm).sub [] R))))))
    ·refine .know (d:=33) R hc ?_;exact .sk R (.sk R (.sk R (.sk R (.sk R (.op (O.pkF Z R R R R) R ((u false (oi hm).symm).sub [] R))))))
 ·intro t;rcases Bool.eq_false_or_eq_true (decide (e.1<(p0.1.1.length:Int))) with hc|hc
  ·refine .know (d:=16) R hc ?_;exact .op (O.mv (Gu.mk R R) R R) R (.op (O.lenH sl32 (Gu.mk R R) R R R) R (.op (O.bi (Gu.mk R R) R R R R) R (.op (O.pkT Z R R R R) R ((t (decide ((e.2.length:Int)<3)) (andT hc).symm).sub [] R))))
  ·refine .know (d:=16) R hc ?_;exact .sk R (.sk R (.sk R (.op (O.pkF Z R R R R) R ((t false (andF hc).symm).sub [] R))))
def y1o(a:Int×(List CycT))(c:List Int)(d:List Int)(b:Int):Option ((Int×(List CycT))⊕(List CycT)):=
 (app a.2 ([(c,d,b)]:List CycT)).bind fun e=>
 some (.inl (W (a.1+1),e))
def y1p(p1:PbT)(a:Int×(List CycT))(b:List Int)(c:List Int)(e:Int×Int×Int×Int)(d:Bool):Option ((Int×(List CycT))⊕(List CycT)):=
 if d then
  (idx p1.1.1 ((W e.2.2.2).tmod 6)).bind fun f=>
  y1o a b c f
 else
  y1o a b c (-1)
def y2j(p0:List (Int×Int×Int×Int))(p1:PbT)(a:Int×(List CycT)):Option ((Int×(List CycT))⊕(List CycT)):=
 if((decide (a.1<(p0.length:Int)))&&(decide (a.1<8))) then
  (idx p0 a.1).bind fun f=>
  (idx p0 a.1).bind fun g=>
  (y3L p1 f.1 ((g.2.2.1.tmod 2)==1)).bind fun c=>
  (idx p0 a.1).bind fun h=>
  (idx p0 a.1).bind fun i=>
  (y3L p1 h.2.1 (((IntKind.u8.wrap (i.2.2.1.tdiv 2)).tmod 2)==1)).bind fun d=>
  (idx p0 a.1).bind fun b=>
  if decide (((W b.2.2.2).tmod 6)<(p1.1.1.length:Int)) then
   (idx p1.1.1 ((W b.2.2.2).tmod 6)).bind fun j=>
   (yF p1.2.2 j).bind fun e=>
   y1p p1 a c d b (!e)
  else
   y1p p1 a c d b false
 else
  some (.inr a.2)
def y2S(p0:List (Int×Int×Int×Int))(p1:PbT):Option (List CycT):=
 (iter (y2j p0 p1) (0,([]:List CycT))).bind fun a=>
 some a
theorem y8x{p0:List (Int×Int×Int×Int)}{p1:PbT}{r:(List CycT)}(hm:y2S p0 p1=some r):
  F0 52 [.f rE209 p0,.a (lx37 p1)] [] (.h 0) [ROW rE114 114 r]:=by
 unfold y2S at hm;refine Fw.mk2 Tryz.func52 Tryz.ntmps52 R (fun C=>?_) R;refine .sr (.bo 0 R (.an R (.sr (.an R (.seq (.sr (.an R (.block (bS hm fun y G hm=>?_)))))))));refine .cut1 (z:= .exit 0) y (fun (y:(List CycT))=>⟨[(5,.h 0)],[(0,ROW rE114 114 y)],1⟩) ?_ fun X=>?_
 ·skip
  refine .blkE (.seqN (.sr (.mv R (.an R (.ret ?_)))));cases hm;exact .rr [0] Tryz.results52 (.tmp R .nil) R I3 ⟨⟨_,R,I4⟩,trivial⟩
 refine .nlg rE114 114 5 0 R R (.iter (fun (e:Int×(List CycT))=>⟨[(6,.i e.1),(5,.h 0),(3,.q 1 0),(0,.f rE209 p0)],[(0,ROW rE114 114 e.2),(1,.bx 37 (lx37 p1))],2⟩) G [(0,1),(1,0)] R ?_);intro e u hm V U;unfold y2j at hm;refine .seq (.sr (.mv R (.mv R (.ln sl86 R (.bi R (.mv R ?_))))));refine .cut 3 (fun (D:Bool)=>((decide (e.1<(p0.length:Int)))&&(decide (e.1<8)))=D) (fun D=>⟨[(16,.b D),(6,.i e.1),(5,.h 0),(3,.q 1 0),(0,.f rE209 p0)],[(0,ROW rE114 114 e.2),(1,.bx 37 (lx37 p1))],2⟩) ?_ ?_
 ·rintro _ rfl;refine .ns ?_;refine .cc hm R (fun hm=>?_) fun hm=> .exit (.seqX (.seqX ((X _ (U _ (oi hm).symm)).sub [] R)));refine .skip (.seqN (.seq (.block (.seq ?_))));refine .sub (τ:=⟨[(6,.i e.1),(5,.h 0),(3,.q 1 0),(0,.f rE209 p0)],[(0,ROW rE114 114 e.2),(1,.bx 37 (lx37 p1))],2⟩) ?_ [] R;refine bS hm fun a0 K hm=>bS hm fun a1 L hm=>bS hm fun g H hm=>bS hm fun a2 M hm=>bS hm fun a3 N hm=>bS hm fun j I hm=>?_;refine .drz 5 [(30,4)] [(2,[],[],[]),(2,[],[],[]),(2,[],[],[]),(2,[oF,oT,oT],[],[]),(2,[oF,oT,oT,oT],[],[]),(2,[oF,oT,oT,oT,oT],[],[]),(2,[],[],[]),(2,[],[],[]),(2,[oF,oF,oF,oF,oF,oF,oT,oT],[],[]),(2,[oF,oF,oF,oF,oF,oF,oT,oT,oT],[],[]),(2,[oF,oF,oF,oF,oF,oF,oT,oT,oT,oT],[],[]),(2,[oF,oF,oF,oF,oF,oF,oT,oT,oT,oT,oT],[],[]),(2,[oF,oF,oF,oF,oF,oF,oT,oT,oT,oT,oT,oT],[],[]),(2,[oT,oT,oT,oT,oT,oT,oT,oT,oT,oT,oT,oT,oT],[],[]),(2,[],[],[]),(2,[],[],[]),(2,[],[],[]),(2,[oF,oF,oF,oF,oF,oF,oF,oF,oF,oF,oF,oF,oF,oF,oF,oT,oT],[],[]),(2,[oF,oF,oF,oF,oF,oF,oF,oF,oF,oF,oF,oF,oF,oF,oF,oT,oT,oT],[],[]),(2,[oF,oF,oF,oF,oF,oF,oF,oF,oF,oF,oF,oF,oF,oF,oF,oT,oT,oT,oT],[],[]),(2,[],[],[]),(2,[],[],[]),(2,[oF,oF,oF,oF,oF,oF,oF,oF,oF,oF,oF,oF,oF,oF,oF,oF,oF,oF,oF,oF,oT,oT],[],[]),(2,[oF,oF,oF,oF,oF,oF,oF,oF,oF,oF,oF,oF,oF,oF,oF,oF,oF,oF,oF,oF,oT,oT,oT],[],[]),(2,[oF,oF,oF,oF,oF,oF,oF,oF,oF,oF,oF,oF,oF,oF,oF,oF,oF,oF,oF,oF,oT,oT,oT,oT],[],[]),(2,[oF,oF,oF,oF,oF,oF,oF,oF,oF,oF,oF,oF,oF,oF,oF,oF,oF,oF,oF,oF,oT,oT,oT,oT,oT],[],[]),(2,[oF,oF,oF,oF,oF,oF,oF,oF,oF,oF,oF,oF,oF,oF,oF,oF,oF,oF,oF,oF,oT,oT,oT,oT,oT,oT],[],[]),(2,[oF,oF,oF,oF,oF,oF,oF,oF,oF,oF,oF,oF,oF,oF,oF,oF,oF,oF,oF,oF,oT,oT,oT,oT,oT,oT,oT],[],[]),(3,[oT,oT,oT,oT,oT,oT,oT,oT,oT,oT,oT,oT,oT,oT,oT,oT,oT,oT,oT,oT,oT,oT,oT,oT,oT,oT,oT,oT],[],[]),(4,[oT,oT,oT,oT,oT,oT,oT,oT,oT,oT,oT,oT,oT,oT,oT,oT,oT,oT,oT,oT,oT,oT,oT,oT,oT,oT,oT,oT,oT],[],[]),(2,[],[],[]),(5,[oT,oT,oT,oT,oT,oT,oT,oT,oT,oT,oT,oT,oT,oT,oT,oT,oT,oT,oT,oT,oT,oT,oT,oT,oT,oT,oT,oT,oT,oT,oT],[],[])] [_,_,_,_,_,_,_,_,_,_,_,_,_,_,_,_,_,_,_,_,_,_,_,_,_,_,_,_,_,_,_,_] ⟨[(7,.q 4 0),(6,.i e.1),(5,.h 0),(3,.q 1 0),(0,.f rE209 p0)],[(4,.bx 114 [lH 2,lH 3,lI (-1)]),(2,ROW qI 3 g),(3,ROW qI 3 j),(0,ROW rE114 114 e.2),(1,.bx 37 (lx37 p1))],5⟩ ⟨O.lg (l':=(lx37 p1)) ag37 Z R (.B R) R R R,O.mv Z R R,O.mv Z R R,O.ix sl86 Z R R K R,O.faE ygF Z R R,O.ld nag5 Z R (.E lv209) R R,O.mv Z R R,O.mv Z R R,O.ix sl86 Z R R L R,O.faE ye8 Z R R,O.ld nag5 Z R (.E lv209) R R,O.rem Z R R (by decide) R,O.bi Z R R R R,O.ca (r':= .h 2) [2] [(0,ROW qI 3 g)] (some 3) (y7r H) cf126 R R Z R R R R ⟨⟨_,R,I4⟩,trivial⟩ I3 R,O.lg (l':=(lx37 p1)) ag37 Z R (.B R) R R R,O.mv Z R R,O.mv Z R R,O.ix sl86 Z R R M R,O.faE ygG Z R R,O.ld nag5 Z R (.E lv209) R R,O.mv Z R R,O.mv Z R R,O.ix sl86 Z R R N R,O.faE ye8 Z R R,O.ld nag5 Z R (.E lv209) R R,O.quo Z R R (by decide) R,O.rem Z R R (by decide) R,O.bi Z R R R R,O.ca (r':= .h 3) [3] [(0,ROW qI 3 j)] (some 4) (y7r I) cf126 R R Z R R R R ⟨⟨_,R,I4⟩,trivial⟩ I3 R,O.bu (l:=[lH 2,lH 3,lI (-1)]) pl114 R Z R R R,O.al 4 R zz114 R Z R,O.st ag114.sz Z R R R R R,trivial⟩ (by kernel_rfl) R ?_
  refine .seqN ?_;refine .join1 (fun (m:Int)=>y1o e g j m=some u) (fun m=>⟨[(7,.q 0 0),(6,.i e.1),(5,.h 3),(3,.q 4 0),(0,.f rE209 p0)],[(0,.bx 114 [lH 1,lH 2,lI m]),(1,ROW qI 3 g),(2,ROW qI 3 j),(3,ROW rE114 114 e.2),(4,.bx 37 (lx37 p1))],5⟩) ?_ ?_
  ·intro m hm;unfold y1o at hm;exact .reg (.mv R (.op (O.lg (l':=[lH 1,lH 2,lI m]) ag114 Z R (.B R) R R R) R (.fz 1 [82] [0] R R fR R R (.fz 2 [82] [0] R R fR R R (.op (O.bsF (r:=rE114) (zs:=([(g,j,m)]:List CycT)) bs94 R R Z R R R (.c (.p .l (.p .l .k)) .n) R R R) R (bS hm fun a4 P hm=> .op (O.ap 5 Tryz.underlying94 el114 R R Z R R (.fr R) P R) R (.sa R (.nil (.blkN (.seqN (.reg (.mv R (.bi R (.sa R (.nil ((V _ (oi hm).symm).sub [(0,5),(1,4)] R))))))))))))))))
  ·intro v;refine .sr (.mv R (.mv R (bS hm fun o Q hm=> .ix sl86 Q R (.fe ygH R (.le nag5 lv209 R (.op (O.cv Tryz.underlying5 Tryz.underlying3 Z R R) R (.op (O.rem Z R R (by decide) R) R (.an R ?_))))))));refine .join1 (fun (t:Bool)=>y1p p1 e g j o t=some u) (fun t=>⟨[(73,.b t),(8,.i ((W o.2.2.2).tmod 6)),(7,.q 0 0),(6,.i e.1),(5,.h 3),(3,.q 4 0),(0,.f rE209 p0)],[(0,.bx 114 [lH 1,lH 2,lI (-1)]),(1,ROW qI 3 g),(2,ROW qI 3 j),(3,ROW rE114 114 e.2),(4,.bx 37 (lx37 p1))],5⟩) ?_ ?_
   ·intro t hm;unfold y1p at hm;exact .cc hm R (fun hm=> .reg (.fa y2n R (.fa yG R (.lb nag32 R (.mv R (bS hm fun a5 S hm=> .ix sl32 S R (.le nag3 lv3 R (.fa y7A R (.st nag3.sz R (.nil ((v _ hm).sub [] R))))))))))) fun hm=> .skip ((v _ hm).sub [] R)
   ·intro w;refine .sub (τ:=⟨[(8,.i ((W o.2.2.2).tmod 6)),(7,.q 4 0),(6,.i e.1),(5,.h 0),(3,.q 1 0),(0,.f rE209 p0)],[(4,.bx 114 [lH 2,lH 3,lI (-1)]),(2,ROW qI 3 g),(3,ROW qI 3 j),(0,ROW rE114 114 e.2),(1,.bx 37 (lx37 p1))],5⟩) ?_ [] R;refine .drP 6 [(5,[]),(5,[]),(5,[oF,oT]),(5,[oF,oT,oT]),(5,fA 1 (tT 3)),(5,tT 5)] [_,_,_,_,_,_] ⟨O.mv Z R R,O.faP y2n Z R R,O.faP yG Z R R,O.ld nag32 Z R (.B R) R R,O.len sl32 Z R R,O.bi Z R R R R,trivial⟩ fun x=>?_;rcases ifS hm with ⟨s,hm⟩|⟨s,hm⟩
    ·skip
     exact bS hm fun a6 T hm=>bS hm fun Y J hm=> .drF x [(5,tT 6),(5,tT 7),(5,tT 8),(5,tT 7),(5,tA 7 (fA 2 (tT 1))),(5,tA 7 (fA 2 (tT 2))),(5,tT 7),(5,tA 7 (fA 2 (tT 4))),(5,tA 7 (fA 2 (tT 5))),(5,tT 15),(5,tT 16),(5,tT 17)] [_,_,_,_,_,_,_,_,_,_,_,_] ⟨[(73,.b (!Y)),(8,.i ((W o.2.2.2).tmod 6)),(7,.q 4 0),(6,.i e.1),(5,.h 0),(3,.q 1 0),(0,.f rE209 p0)],[(4,.bx 114 [lH 2,lH 3,lI (-1)]),(2,ROW qI 3 g),(3,ROW qI 3 j),(0,ROW rE114 114 e.2),(1,.bx 37 (lx37 p1))],5⟩ ⟨O.kn (O.mv Z R R) s,O.faP y8B (Gu.mk R R) R R,O.ld nag32 (Gu.mk R R) R (.B R) R R,O.faP y2n (Gu.mk R R) R R,O.faP yG (Gu.mk R R) R R,O.ld nag32 (Gu.mk R R) R (.B R) R R,O.mv (Gu.mk R R) R R,O.ix sl32 (Gu.mk R R) R R T R,O.ld nag3 (Gu.mk R R) R (.E lv3) R R,O.ca0 (y1L J) cf54 R R (Gu.mk R R) R R R,O.not (Gu.mk R R) R R,O.pkT Z R R R R,trivial⟩ (by kernel_rfl) R ((w _ hm).sub [(0,4),(1,2),(2,3),(3,0),(4,1)] R)
    ·skip
     exact .drF x [(5,tT 6),(5,tT 7),(5,tT 8),(5,tT 7),(5,tA 7 (fA 2 (tT 1))),(5,tA 7 (fA 2 (tT 2))),(5,tT 7),(5,tA 7 (fA 2 (tT 4))),(5,tA 7 (fA 2 (tT 5))),(5,tT 15),(5,tT 16),(5,tT 17)] [_,_,_,_,_,_,_,_,_,_,_,_] ⟨[(73,.b false),(8,.i ((W o.2.2.2).tmod 6)),(7,.q 4 0),(6,.i e.1),(5,.h 0),(3,.q 1 0),(0,.f rE209 p0)],[(4,.bx 114 [lH 2,lH 3,lI (-1)]),(2,ROW qI 3 g),(3,ROW qI 3 j),(0,ROW rE114 114 e.2),(1,.bx 37 (lx37 p1))],5⟩ ⟨O.kn (O.mv Z R R) s,O.skip R R R R,O.skip R R R R,O.skip R R R R,O.skip R R R R,O.skip R R R R,O.skip R R R R,O.skip R R R R,O.skip R R R R,O.skip R R R R,O.skip R R R R,O.pkF Z R R R R,trivial⟩ (by kernel_rfl) R ((w _ hm).sub [(0,4),(1,2),(2,3),(3,0),(4,1)] R)
 ·intro F;rcases Bool.eq_false_or_eq_true (decide (e.1<(p0.length:Int))) with hc|hc
  ·refine .know (d:=13) R hc ?_;exact .op (O.mv (Gu.mk R R) R R) R (.op (O.bi (Gu.mk R R) R R R R) R (.op (O.pkT Z R R R R) R ((F (decide (e.1<8)) (andT hc).symm).sub [] R)))
  ·refine .know (d:=13) R hc ?_;exact .sk R (.sk R (.op (O.pkF Z R R R R) R ((F false (andF hc).symm).sub [] R)))
def yK(a:Int×Int×Bool×List Int)(d:Int)(b:Bool)(c:List Int):Option ((Int×Int×Bool×List Int)⊕(Int×Bool×List Int)):=
 some (.inl (d,W (a.2.1+1),b,c))
def y2T(p0:PbT×Int×Int×Bool)(p1:List Int)(p2:Int)(a:Int×Int×Bool×List Int):Option ((Int×Int×Bool×List Int)⊕(Int×Bool×List Int)):=
 if decide (a.2.1<(p1.length:Int)) then
  (idx p1 a.2.1).bind fun e=>
  (ym p0.1.1 a.1 e).bind fun b=>
  if decide (b≥0) then
   (idx p1 a.2.1).bind fun f=>
   (app a.2.2.2 ([f]:List Int)).bind fun c=>
   if a.2.2.1 then
    (ym p0.1.1 b p2).bind fun d=>
    yK a b (decide (d≥0)) c
   else
    yK a b false c
  else
   yK a a.1 a.2.2.1 a.2.2.2
 else
  some (.inr (a.1,a.2.2))
def y2M(p0:PbT×Int×Int×Bool)(p1:List Int)(p2:Int):Option (List Int×Bool×(PbT×Int×Int×Bool)):=
 (ym p0.1.1 p0.2.1 p2).bind fun b=>
 (iter (y2T p0 p1 p2) (p0.2.1,0,(decide (b≥0)),([]:List Int))).bind fun a=>
 some (a.2.2,a.2.1,p0.1,a.1,p0.2.2)
theorem y6H{p0:PbT×Int×Int×Bool}{p1:List Int}{p2:Int}{r:List Int×Bool×(PbT×Int×Int×Bool)}(hm:y2M p0 p1 p2=some r):
  Fw Tryz.prog 188 ⟨1,[0]⟩ [.o (lP 0 0),.f qI p1,.i p2] [.bx 206 (lx206 p0)] (.tp [.h 1,.b r.2.1]) [.bx 206 (lx206 r.2.2),ROW qI 3 r.1]:=by
 unfold y2M at hm;refine Fw.mk2 Tryz.func188 Tryz.ntmps188 R (fun C=>?_) R;refine .sr (.sa R (.an R (.seq ?_)));refine .sub (τ:=⟨[(6,.o (lN)),(0,.q 0 0),(1,.f qI p1),(2,.i p2)],[(0,.bx 206 (lx206 p0))],1⟩) ?_ [] R;refine bS hm fun N K hm=>?_;refine .drw [(1,[]),(1,[oT]),(1,[oT,oT]),(1,tT 3),(1,tT 4),(1,[]),(1,[oF,oF,oF,oF,oF,oT]),(1,[oF,oF,oF,oF,oF,oT,oT]),(1,fA 5 (tT 3)),(1,[]),(1,tT 10),(1,tT 11),(1,tT 12)] [_,_,_,_,_,_,_,_,_,_,_,_,_] ⟨[(7,.b (decide (N≥0))),(6,.o (lN)),(0,.q 0 0),(1,.f qI p1),(2,.i p2)],[(0,.bx 206 (lx206 p0))],1⟩ ⟨O.mv Z R R,O.nc .B Z R R,O.faP y6d Z R R,O.faP y2n Z R R,O.lg (l':=(lx35 p0.1.1)) ag35 Z R (.B R) R R R,O.mv Z R R,O.nc .B Z R R,O.faP y8g Z R R,O.ld nag3 Z R (.B R) R R,O.mv Z R R,O.ca0 (yu K) cf55 R R Z R R R,O.bi Z R R R R,O.as Z R R,trivial⟩ (by kernel_rfl) R ?_;refine .seqN (.seq (.sr (.an R (.block (bS hm fun d w hm=>?_)))));refine .cut1 (z:= .exit 0) d (fun (d:Int×Bool×List Int)=>⟨[(7,.b d.2.1),(6,.h 1)],[(0,.bx 206 [lF qI p0.1.1.1,lI p0.1.1.2.1,lF qI p0.1.1.2.2.1,lF qT p0.1.1.2.2.2,lF qI p0.1.2.1.1,lI p0.1.2.1.2.1,lF qI p0.1.2.1.2.2.1,lF qT p0.1.2.1.2.2.2,lF qI p0.1.2.2,lI d.1,lI p0.2.2.1,lB p0.2.2.2]),(1,ROW qI 3 d.2.2)],2⟩) ?_ fun J=>?_
 ·skip
  refine .blkE (.seqN (.sr (.mv R (.mv R (.sa R (.an R (.ret ?_)))))));cases hm;exact .rr [0,1] Tryz.results188 (.tmp R (.tmp R .nil)) R I3 ⟨⟨_,R,I4⟩,⟨_,R,I4⟩,trivial⟩
 refine .nlg qI 3 6 0 R R (.iter (fun (a:Int×Int×Bool×List Int)=>⟨[(8,.i a.2.1),(7,.b a.2.2.1),(6,.h 1),(0,.q 0 0),(1,.f qI p1),(2,.i p2)],[(0,.bx 206 [lF qI p0.1.1.1,lI p0.1.1.2.1,lF qI p0.1.1.2.2.1,lF qT p0.1.1.2.2.2,lF qI p0.1.2.1.1,lI p0.1.2.1.2.1,lF qI p0.1.2.1.2.2.1,lF qT p0.1.2.1.2.2.2,lF qI p0.1.2.2,lI a.1,lI p0.2.2.1,lB p0.2.2.2]),(1,ROW qI 3 a.2.2.2)],2⟩) w [] R ?_);intro a v hm I H;unfold y2T at hm;refine .seq (.sr (.mv R (.mv R (.ln sl32 R (.bi R (.ns ?_))))));refine .cc hm R (fun hm=>?_) fun hm=> .exit (.seqX (.seqX ((J _ (H _ (oi hm).symm)).sub [] R)));refine .skip (.seqN ?_);refine .join3 (fun (p:Int) (j:Bool) (m:List Int)=>yK a p j m=some v) (fun p j m=>⟨[(7,.b j),(6,.h 1),(8,.i a.2.1),(0,.q 0 0),(1,.f qI p1),(2,.i p2)],[(0,.bx 206 [lF qI p0.1.1.1,lI p0.1.1.2.1,lF qI p0.1.1.2.2.1,lF qT p0.1.1.2.2.2,lF qI p0.1.2.1.1,lI p0.1.2.1.2.1,lF qI p0.1.2.1.2.2.1,lF qT p0.1.2.1.2.2.2,lF qI p0.1.2.2,lI p,lI p0.2.2.1,lB p0.2.2.2]),(1,ROW qI 3 m)],2⟩) ?_ ?_
 ·intro p j m hm;unfold yK at hm;exact .reg (.mv R (.bi R (.sa R (.nil ((I _ (oi hm).symm).sub [] R)))))
 ·intro e;refine .block (.seq ?_);refine .sub (τ:=⟨[(8,.i a.2.1),(7,.b a.2.2.1),(6,.h 1),(0,.q 0 0),(1,.f qI p1),(2,.i p2)],[(0,.bx 206 [lF qI p0.1.1.1,lI p0.1.1.2.1,lF qI p0.1.1.2.2.1,lF qT p0.1.1.2.2.2,lF qI p0.1.2.1.1,lI p0.1.2.1.2.1,lF qI p0.1.2.1.2.2.1,lF qT p0.1.2.1.2.2.2,lF qI p0.1.2.2,lI a.1,lI p0.2.2.1,lB p0.2.2.2]),(1,ROW qI 3 a.2.2.2)],2⟩) ?_ [] R;refine bS hm fun P D hm=>bS hm fun s x hm=>?_;refine .drw [(2,[]),(2,[oT]),(2,[oT,oT]),(2,tT 3),(2,tT 4),(2,[]),(2,[oF,oF,oF,oF,oF,oT]),(2,[oF,oF,oF,oF,oF,oT,oT]),(2,fA 5 (tT 3)),(2,[]),(2,[]),(2,[oF,oF,oF,oF,oF,oF,oF,oF,oF,oT,oT]),(2,fA 9 (tT 3)),(2,tT 13),(2,tT 14)] [_,_,_,_,_,_,_,_,_,_,_,_,_,_,_] ⟨[(9,.i s),(8,.i a.2.1),(7,.b a.2.2.1),(6,.h 1),(0,.q 0 0),(1,.f qI p1),(2,.i p2)],[(0,.bx 206 [lF qI p0.1.1.1,lI p0.1.1.2.1,lF qI p0.1.1.2.2.1,lF qT p0.1.1.2.2.2,lF qI p0.1.2.1.1,lI p0.1.2.1.2.1,lF qI p0.1.2.1.2.2.1,lF qT p0.1.2.1.2.2.2,lF qI p0.1.2.2,lI a.1,lI p0.2.2.1,lB p0.2.2.2]),(1,ROW qI 3 a.2.2.2)],2⟩ ⟨O.mv Z R R,O.nc .B Z R R,O.faP y6d Z R R,O.faP y2n Z R R,O.lg (l':=(lx35 p0.1.1)) ag35 Z R (.B R) R R R,O.mv Z R R,O.nc .B Z R R,O.faP y8g Z R R,O.ld nag3 Z R (.B R) R R,O.mv Z R R,O.mv Z R R,O.ix sl32 Z R R D R,O.ld nag3 Z R (.E lv3) R R,O.ca0 (yu x) cf55 R R Z R R R,O.as Z R R,trivial⟩ (by kernel_rfl) R ?_;refine .seqN (.sr (.mv R (.bi R (.ns ?_))));refine .cc hm R (fun hm=>?_) fun hm=> .skip (.blkN ((e _ _ _ hm).sub [] R));refine .sr (.mv R (.mv R (.mv R (.mv R (bS hm fun M F hm=> .ix sl32 F R (.le nag3 lv3 R (.op (O.bsF (r:=qI) (zs:=([M]:List Int)) bs32 R R Z R R R (.c .k .n) R R R) R (bS hm fun u G hm=> .op (O.ap 2 Tryz.underlying32 el3 R R Z R R (.fr R) G R) R (.mv R (.sa R (.op (O.nc .B Z R R) R (.fa y8g R (.st nag3.sz R (.ns ?_))))))))))))));refine .sub (τ:=⟨[(6,.h 2),(8,.i a.2.1),(7,.b a.2.2.1),(0,.q 0 0),(1,.f qI p1),(2,.i p2)],[(0,.bx 206 [lF qI p0.1.1.1,lI p0.1.1.2.1,lF qI p0.1.1.2.2.1,lF qT p0.1.1.2.2.2,lF qI p0.1.2.1.1,lI p0.1.2.1.2.1,lF qI p0.1.2.1.2.2.1,lF qT p0.1.2.1.2.2.2,lF qI p0.1.2.2,lI s,lI p0.2.2.1,lB p0.2.2.2]),(2,ROW qI 3 u)],3⟩) ?_ [] R;refine .drP 1 [(3,[])] [_] ⟨O.mv Z R R,trivial⟩ fun t=>?_;rcases ifS hm with ⟨g,hm⟩|⟨g,hm⟩
  ·skip
   exact bS hm fun L y hm=> .drH t 3 [(3,[oT]),(3,[oT,oT]),(3,tT 3),(3,tT 4),(3,tT 5),(3,tT 6),(3,[oT,oT]),(3,tA 2 (fA 5 (tT 1))),(3,tA 2 (fA 5 (tT 2))),(3,tA 2 (fA 5 (tT 3))),(3,[oT,oT]),(3,tT 12),(3,tT 13),(3,tT 14),(3,tT 15)] [_,_,_,_,_,_,_,_,_,_,_,_,_,_,_] ⟨[(7,.b (decide (L≥0))),(6,.h 2),(8,.i a.2.1),(0,.q 0 0),(1,.f qI p1),(2,.i p2)],[(0,.bx 206 [lF qI p0.1.1.1,lI p0.1.1.2.1,lF qI p0.1.1.2.2.1,lF qT p0.1.1.2.2.2,lF qI p0.1.2.1.1,lI p0.1.2.1.2.1,lF qI p0.1.2.1.2.2.1,lF qT p0.1.2.1.2.2.2,lF qI p0.1.2.2,lI s,lI p0.2.2.1,lB p0.2.2.2]),(2,ROW qI 3 u)],3⟩ ⟨O.kn (O.mv Z R R) g,O.mv (Gu.mk R R) R R,O.nc .B (Gu.mk R R) R R,O.faP y6d (Gu.mk R R) R R,O.faP y2n (Gu.mk R R) R R,O.lg (l':=(lx35 p0.1.1)) ag35 (Gu.mk R R) R (.B R) R R R,O.mv (Gu.mk R R) R R,O.nc .B (Gu.mk R R) R R,O.faP y8g (Gu.mk R R) R R,O.ld nag3 (Gu.mk R R) R (.B R) R R,O.mv (Gu.mk R R) R R,O.ca0 (yu y) cf55 R R (Gu.mk R R) R R R,O.bi (Gu.mk R R) R R R R,O.pkT Z R R R R,O.as Z R R,trivial⟩ (by kernel_rfl) R (.blkN ((e _ _ _ hm).sub [(1,2)] R))
  ·skip
   exact .drH t 3 [(3,[oT]),(3,[oT,oT]),(3,tT 3),(3,tT 4),(3,tT 5),(3,tT 6),(3,[oT,oT]),(3,tA 2 (fA 5 (tT 1))),(3,tA 2 (fA 5 (tT 2))),(3,tA 2 (fA 5 (tT 3))),(3,[oT,oT]),(3,tT 12),(3,tT 13),(3,tT 14),(3,tT 15)] [_,_,_,_,_,_,_,_,_,_,_,_,_,_,_] ⟨[(7,.b false),(6,.h 2),(8,.i a.2.1),(0,.q 0 0),(1,.f qI p1),(2,.i p2)],[(0,.bx 206 [lF qI p0.1.1.1,lI p0.1.1.2.1,lF qI p0.1.1.2.2.1,lF qT p0.1.1.2.2.2,lF qI p0.1.2.1.1,lI p0.1.2.1.2.1,lF qI p0.1.2.1.2.2.1,lF qT p0.1.2.1.2.2.2,lF qI p0.1.2.2,lI s,lI p0.2.2.1,lB p0.2.2.2]),(2,ROW qI 3 u)],3⟩ ⟨O.kn (O.mv Z R R) g,O.skip R R R R,O.skip R R R R,O.skip R R R R,O.skip R R R R,O.skip R R R R,O.skip R R R R,O.skip R R R R,O.skip R R R R,O.skip R R R R,O.skip R R R R,O.skip R R R R,O.skip R R R R,O.pkF Z R R R R,O.as Z R R,trivial⟩ (by kernel_rfl) R (.blkN ((e _ _ _ hm).sub [(1,2)] R))
def yr(a:Int×Bool×Int)(c:Int)(b:Bool):Option ((Int×Bool×Int)⊕(Int×Bool)):=
 some (.inl (c,b,W (a.2.2+1)))
def y2k(p0:PbT×Int×Int×Bool)(p1:List Int)(a:Int×Bool×Int):Option ((Int×Bool×Int)⊕(Int×Bool)):=
 if decide (a.2.2<32) then
  (yF p1 a.2.2).bind fun d=>
  (if (!d) then
   some true
  else
   (yF p0.1.2.1.1 a.2.2).bind fun e=>
   some (!e)).bind fun c=>
  if c then
   yr a a.1 a.2.1
  else
   (ym p0.1.2.1 a.1 a.2.2).bind fun b=>
   if decide (b≥0) then
    yr a b a.2.1
   else
    yr a a.1 true
 else
  some (.inr (a.1,a.2.1))
def y1i(p0:PbT×Int×Int×Bool)(p1:List Int):Option (PbT×Int×Int×Bool):=
 (iter (y2k p0 p1) (p0.2.2.1,p0.2.2.2,0)).bind fun a=>
 some (p0.1,p0.2.1,a)
theorem y4Z{p0:PbT×Int×Int×Bool}{p1:List Int}{r:(PbT×Int×Int×Bool)}(hm:y1i p0 p1=some r):
  Fw Tryz.prog 189 ⟨1,[0]⟩ [.o (lP 0 0),.f qI p1] [.bx 206 (lx206 p0)] (.tp []) [.bx 206 (lx206 r)]:=by
 unfold y1i at hm;refine Fw.mk2 Tryz.func189 Tryz.ntmps189 R (fun C=>?_) R;refine .sr (.an R (.block (bS hm fun h n hm=>?_)));refine .cut1 (z:= .exit 0) h (fun (h:Int×Bool)=>⟨[],[(0,.bx 206 [lF qI p0.1.1.1,lI p0.1.1.2.1,lF qI p0.1.1.2.2.1,lF qT p0.1.1.2.2.2,lF qI p0.1.2.1.1,lI p0.1.2.1.2.1,lF qI p0.1.2.1.2.2.1,lF qT p0.1.2.1.2.2.2,lF qI p0.1.2.2,lI p0.2.1,lI h.1,lB h.2])],1⟩) ?_ fun w=>?_
 ·skip
  refine .blkE ?_;cases hm;exact WX.rt [0] (.inr R) Tryz.results189 .nil R I3 ⟨⟨_,R,I4⟩,trivial⟩
 refine .iter (fun (a:Int×Bool×Int)=>⟨[(4,.i a.2.2),(0,.q 0 0),(1,.f qI p1)],[(0,.bx 206 [lF qI p0.1.1.1,lI p0.1.1.2.1,lF qI p0.1.1.2.2.1,lF qT p0.1.1.2.2.2,lF qI p0.1.2.1.1,lI p0.1.2.1.2.1,lF qI p0.1.2.1.2.2.1,lF qT p0.1.2.1.2.2.2,lF qI p0.1.2.2,lI p0.2.1,lI a.1,lB a.2.1])],1⟩) n [] R ?_;intro a k hm v u;unfold y2k at hm;refine .seq (.sr (.mv R (.bi R (.ns ?_))));refine .cc hm R (fun hm=>?_) fun hm=> .exit (.seqX (.seqX ((w _ (u _ (oi hm).symm)).sub [] R)));refine .skip (.seqN ?_);refine .join2 (fun (g:Int) (e:Bool)=>yr a g e=some k) (fun g e=>⟨[(4,.i a.2.2),(0,.q 0 0),(1,.f qI p1)],[(0,.bx 206 [lF qI p0.1.1.1,lI p0.1.1.2.1,lF qI p0.1.1.2.2.1,lF qT p0.1.1.2.2.2,lF qI p0.1.2.1.1,lI p0.1.2.1.2.1,lF qI p0.1.2.1.2.2.1,lF qT p0.1.2.1.2.2.2,lF qI p0.1.2.2,lI p0.2.1,lI g,lB e])],1⟩) ?_ ?_
 ·intro g e hm;unfold yr at hm;exact .reg (.mv R (.bi R (.sa R (.nil ((v _ (oi hm).symm).sub [] R)))))
 ·intro c;refine .block (.seq (.sr (.mv R (.mv R (bS hm fun E p hm=> .c0 (y1L p) cf54 R (.op (O.not Z R R) R (.mv R (bS hm fun x eb24 hm=>?_))))))));refine .cut 10 (fun (j:Bool)=>x=j) (fun j=>⟨[(24,.b j),(4,.i a.2.2),(0,.q 0 0),(1,.f qI p1)],[(0,.bx 206 [lF qI p0.1.1.1,lI p0.1.1.2.1,lF qI p0.1.1.2.2.1,lF qT p0.1.1.2.2.2,lF qI p0.1.2.1.1,lI p0.1.2.1.2.1,lF qI p0.1.2.1.2.2.1,lF qT p0.1.2.1.2.2.2,lF qI p0.1.2.2,lI p0.2.1,lI a.1,lB a.2.1])],1⟩) ?_ ?_
  ·rintro _ rfl;refine .ns (.cc hm R (fun hm=> .exit (.seqX (.blkE ((c _ _ hm).sub [] R)))) fun hm=>?_);refine .skip (.seqN (.seq ?_));refine .sub (τ:=⟨[(4,.i a.2.2),(0,.q 0 0),(1,.f qI p1)],[(0,.bx 206 [lF qI p0.1.1.1,lI p0.1.1.2.1,lF qI p0.1.1.2.2.1,lF qT p0.1.1.2.2.2,lF qI p0.1.2.1.1,lI p0.1.2.1.2.1,lF qI p0.1.2.1.2.2.1,lF qT p0.1.2.1.2.2.2,lF qI p0.1.2.2,lI p0.2.1,lI a.1,lB a.2.1])],1⟩) ?_ [] R;refine bS hm fun y s hm=>?_;refine .drw [(1,[]),(1,[oT]),(1,[oT,oT]),(1,tT 3),(1,tT 4),(1,[]),(1,[oF,oF,oF,oF,oF,oT]),(1,[oF,oF,oF,oF,oF,oT,oT]),(1,fA 5 (tT 3)),(1,[]),(1,tT 10),(1,tT 11)] [_,_,_,_,_,_,_,_,_,_,_,_] ⟨[(5,.i y),(4,.i a.2.2),(0,.q 0 0),(1,.f qI p1)],[(0,.bx 206 [lF qI p0.1.1.1,lI p0.1.1.2.1,lF qI p0.1.1.2.2.1,lF qT p0.1.1.2.2.2,lF qI p0.1.2.1.1,lI p0.1.2.1.2.1,lF qI p0.1.2.1.2.2.1,lF qT p0.1.2.1.2.2.2,lF qI p0.1.2.2,lI p0.2.1,lI a.1,lB a.2.1])],1⟩ ⟨O.mv Z R R,O.nc .B Z R R,O.faP y6d Z R R,O.faP y3g Z R R,O.lg (l':=(lx35 p0.1.2.1)) ag35 Z R (.B R) R R R,O.mv Z R R,O.nc .B Z R R,O.faP yai Z R R,O.ld nag3 Z R (.B R) R R,O.mv Z R R,O.ca0 (yu s) cf55 R R Z R R R,O.as Z R R,trivial⟩ (by kernel_rfl) R ?_;refine .seqN (.sr (.mv R (.bi R (.ns ?_))));exact .cc hm R (fun hm=> .reg (.mv R (.mv R (.op (O.nc .B Z R R) R (.fa yai R (.st nag3.sz R (.nil (.blkN ((c _ _ hm).sub [] R))))))))) fun hm=> .reg (.mv R (.op (O.nc .B Z R R) R (.fa ye9 R (.st nag4.sz R (.nil (.blkN ((c _ _ hm).sub [] R)))))))
  ·intro m;rcases ifS eb24 with ⟨hc,hm⟩|⟨hc,hm⟩
   ·refine .know (d:=14) R hc ?_;exact .sk R (.sk R (.sk R (.sk R (.sk R (.sk R (.sk R (.sk R (.sk R (.op (O.pkT Z R R R R) R ((m true (oi hm).symm).sub [] R))))))))))
   ·refine .know (d:=14) R hc ?_;exact .op (O.mv (Gu.mk R R) R R) R (.op (O.nc .B (Gu.mk R R) R R) R (.op (O.faP y6d (Gu.mk R R) R R) R (.op (O.faP y3g (Gu.mk R R) R R) R (.op (O.faP yG (Gu.mk R R) R R) R (.op (O.ld nag32 (Gu.mk R R) R (.B R) R R) R (.op (O.mv (Gu.mk R R) R R) R (bS hm fun D t hm=> .op (O.ca0 (y1L t) cf54 R R (Gu.mk R R) R R R) R (.op (O.not (Gu.mk R R) R R) R (.op (O.pkF Z R R R R) R ((m (!D) (oi hm).symm).sub [] R))))))))))
def y2c(a:Bool):Option Bool:=
 some a
def y1N(p0:PbT×Int×Int×Bool)(p1:Int):Option Bool:=
 (ym p0.1.1 p0.2.1 p1).bind fun a=>
 if decide (a≥0) then
  (yF p0.1.2.1.1 p1).bind fun b=>
  if(!b) then
   y2c true
  else
   (ym p0.1.2.1 p0.2.2.1 p1).bind fun c=>
   y2c (decide (c≥0))
 else
  y2c false
theorem y8a{p0:PbT×Int×Int×Bool}(hm:y1N p0 p1=some r):
  F0 190 [.o (lQ 206 (lx206 p0) 0),.i p1] [] (.b r) []:=by
 unfold y1N at hm;refine Fw.mk2 Tryz.func190 Tryz.ntmps190 R (fun C=>?_) R;refine .sr (.an R ?_);refine .join1 (fun (e:Bool)=>y2c e=some r) (fun e=>⟨[(4,.b e)],[],0⟩) ?_ ?_
 ·intro e hm;unfold y2c at hm;refine .ret ?_;cases hm;exact .rr [] Tryz.results190 (.tmp R .nil) R I3 trivial
 ·intro a;refine .sub (τ:=⟨[(0,.o (lQ 206 (lx206 p0) 0)),(1,.i p1)],[],0⟩) ?_ [] R;refine bS hm fun n h hm=> .drP 12 [(0,[]),(0,[oT]),(0,[oT,oT]),(0,tT 3),(0,tT 4),(0,[]),(0,[oF,oF,oF,oF,oF,oT]),(0,[oF,oF,oF,oF,oF,oT,oT]),(0,fA 5 (tT 3)),(0,[]),(0,tT 10),(0,tT 11)] [_,_,_,_,_,_,_,_,_,_,_,_] ⟨O.mv Z R R,O.nc .Q Z R R,O.faQ y6d Z R R,O.faQ y2n Z R R,O.lg (l':=(lx35 p0.1.1)) ag35 Z R .Q R R R,O.mv Z R R,O.nc .Q Z R R,O.faQ y8g Z R R,O.ld nag3 Z R .Q R R,O.mv Z R R,O.ca0 (yu h) cf55 R R Z R R R,O.bi Z R R R R,trivial⟩ fun f=>?_;rcases ifS hm with ⟨c,hm⟩|⟨c,hm⟩
  ·skip
   refine bS hm fun p j hm=> .drX f 22 [(0,tT 12),(0,tT 13),(0,tT 14),(0,tT 15),(0,tT 16),(0,tT 17),(0,tT 18),(0,tT 13),(0,tT 20),(0,tT 21)] [_,_,_,_,_,_,_,_,_,_] ⟨O.kn (O.mv Z R R) c,O.mv (Gu.mk R R) R R,O.nc .Q (Gu.mk R R) R R,O.faQ y6d (Gu.mk R R) R R,O.faQ y3g (Gu.mk R R) R R,O.faQ yG (Gu.mk R R) R R,O.ld nag32 (Gu.mk R R) R .Q R R,O.mv (Gu.mk R R) R R,O.ca0 (y1L j) cf54 R R (Gu.mk R R) R R R,O.not (Gu.mk R R) R R,trivial⟩ (by kernel_rfl) fun g=>?_;rcases ifS hm with ⟨d,hm⟩|⟨d,hm⟩
   ·skip
    exact .drF g [(0,tT 22),(0,tT 23),(0,tT 24),(0,tT 25),(0,tT 26),(0,tT 27),(0,tT 23),(0,tA 23 (fA 5 (tT 1))),(0,tA 23 (fA 5 (tT 2))),(0,tA 23 (fA 5 (tT 3))),(0,tT 23),(0,tT 33),(0,tT 34),(0,tT 35),(0,tT 36),(0,tT 37)] [_,_,_,_,_,_,_,_,_,_,_,_,_,_,_,_] ⟨[(4,.b true)],[],0⟩ ⟨O.kn (O.mv (Gu.mk R R) R R) d,O.skip R R R R,O.skip R R R R,O.skip R R R R,O.skip R R R R,O.skip R R R R,O.skip R R R R,O.skip R R R R,O.skip R R R R,O.skip R R R R,O.skip R R R R,O.skip R R R R,O.skip R R R R,O.pkT (Gu.mk R R) R R R R,O.pkT Z R R R R,O.as Z R R,trivial⟩ (by kernel_rfl) R ((a _ hm).sub [] R)
   ·skip
    exact bS hm fun m k hm=> .drF g [(0,tT 22),(0,tT 23),(0,tT 24),(0,tT 25),(0,tT 26),(0,tT 27),(0,tT 23),(0,tA 23 (fA 5 (tT 1))),(0,tA 23 (fA 5 (tT 2))),(0,tA 23 (fA 5 (tT 3))),(0,tT 23),(0,tT 33),(0,tT 34),(0,tT 35),(0,tT 36),(0,tT 37)] [_,_,_,_,_,_,_,_,_,_,_,_,_,_,_,_] ⟨[(4,.b (decide (m≥0)))],[],0⟩ ⟨O.kn (O.mv (Gu.mk R R) R R) d,O.mv (Gu.mk R R) R R,O.nc .Q (Gu.mk R R) R R,O.faQ y6d (Gu.mk R R) R R,O.faQ y3g (Gu.mk R R) R R,O.lg (l':=(lx35 p0.1.2.1)) ag35 (Gu.mk R R) R .Q R R R,O.mv (Gu.mk R R) R R,O.nc .Q (Gu.mk R R) R R,O.faQ yai (Gu.mk R R) R R,O.ld nag3 (Gu.mk R R) R .Q R R,O.mv (Gu.mk R R) R R,O.ca0 (yu k) cf55 R R (Gu.mk R R) R R R,O.bi (Gu.mk R R) R R R R,O.pkF (Gu.mk R R) R R R R,O.pkT Z R R R R,O.as Z R R,trivial⟩ (by kernel_rfl) R ((a _ hm).sub [] R)
  ·skip
   exact .drF f [(0,tT 12),(0,tT 13),(0,tT 14),(0,tT 15),(0,tT 16),(0,tT 17),(0,tT 18),(0,tT 13),(0,tT 20),(0,tT 21),(0,tT 22),(0,tT 23),(0,tT 24),(0,tT 25),(0,tT 26),(0,tT 27),(0,tT 23),(0,tA 23 (fA 5 (tT 1))),(0,tA 23 (fA 5 (tT 2))),(0,tA 23 (fA 5 (tT 3))),(0,tT 23),(0,tT 33),(0,tT 34),(0,tT 35),(0,tT 36),(0,tT 37)] [_,_,_,_,_,_,_,_,_,_,_,_,_,_,_,_,_,_,_,_,_,_,_,_,_,_] ⟨[(4,.b false)],[],0⟩ ⟨O.kn (O.mv Z R R) c,O.skip R R R R,O.skip R R R R,O.skip R R R R,O.skip R R R R,O.skip R R R R,O.skip R R R R,O.skip R R R R,O.skip R R R R,O.skip R R R R,O.skip R R R R,O.skipU R R R,O.skipU R R R,O.skipU R R R,O.skipU R R R,O.skipU R R R,O.skipU R R R,O.skipU R R R,O.skipU R R R,O.skipU R R R,O.skipU R R R,O.skipU R R R,O.skipU R R R,O.skip R R R R,O.pkF Z R R R R,O.as Z R R,trivial⟩ (by kernel_rfl) R ((a _ hm).sub [] R)
def y1w(e:List Int×Bool×(PbT×Int×Int×Bool))(d:List Int)(a:Int)(b:List Int×Bool×(PbT×Int×Int×Bool))(c:PbT×Int×Int×Bool):Option (StpT×(PbT×Int×Int×Bool)):=
 some ((e.1,b.1,d,a,((decide (a≥0))&&b.2.1),c.2.2),c)
def y1x(a:Int×Int)(b:Int):Option ((Int×Int)⊕Int):=
 some (.inl (W (a.1+1),b))
def y1y(h:(PbT×Int×Int×Bool))(b:List Int)(a:Int×Int):Option ((Int×Int)⊕Int):=
 if((decide (a.1<(b.length:Int)))&&(decide (a.2<0))) then
  (idx b a.1).bind fun e=>
  (if decide (e≥0) then
   (idx b a.1).bind fun g=>
   (y1N h g).bind fun d=>
   some d
  else
   some false).bind fun c=>
  if c then
   (idx b a.1).bind fun f=>
   y1x a f
  else
   y1x a a.2
 else
  some (.inr a.2)
def y1z(p1:CycT)(f:List Int×Bool×(PbT×Int×Int×Bool))(g:(PbT×Int×Int×Bool))(d:List Int)(e:List Int):Option (StpT×(PbT×Int×Int×Bool)):=
 (iter (y1y g e) (0,(-1))).bind fun a=>
 (y2M g p1.2.1 a).bind fun b=>
 (y1i b.2.2 b.1).bind fun c=>
 if((decide (a≥0))&&b.2.1) then
  (ym c.1.1 c.2.1 a).bind fun h=>
  (y1i (c.1,h,c.2.2) ([a]:List Int)).bind fun i=>
  y1w f d a b i
 else
  y1w f d a b c
def y1A(a:Int×List Int)(b:List Int):Option ((Int×List Int)⊕(List Int)):=
 some (.inl (W (a.1+1),b))
def y1B(c:(PbT×Int×Int×Bool))(b:List Int)(a:Int×List Int):Option ((Int×List Int)⊕(List Int)):=
 if decide (a.1<(b.length:Int)) then
  (idx b a.1).bind fun e=>
  (ym c.1.2.1 c.2.2.1 e).bind fun d=>
  if decide (d≥0) then
   (idx b a.1).bind fun f=>
   (app a.2 ([f]:List Int)).bind fun g=>
   y1A a g
  else
   y1A a a.2
 else
  some (.inr a.2)
def y2h(p0:PbT×Int×Int×Bool)(p1:CycT)(p2:List Int)(p3:Bool):Option (StpT×(PbT×Int×Int×Bool)):=
 (y2M p0 p1.1 (-1)).bind fun a=>
 (y1i a.2.2 a.1).bind fun b=>
 (y2z b.1).bind fun d=>
 (iter (y1B b d) (0,([]:List Int))).bind fun c=>
 if(!p3) then
  y1z p1 a b c ([p1.2.2]:List Int)
 else
  y1z p1 a b c p2
theorem y8M{p0:PbT×Int×Int×Bool}{p1:CycT}{p3:Bool}{r:StpT×(PbT×Int×Int×Bool)}(hm:y2h p0 p1 p2 p3=some r):
  Fw Tryz.prog 125 ⟨1,[0]⟩ [.o (lP 0 0),.a [lF qI p1.1,lF qI p1.2.1,lI p1.2.2],.f qI p2,.b p3] [.bx 206 (lx206 p0)] (.g [lF qI r.1.1,lF qI r.1.2.1,lH 1,lI r.1.2.2.2.1,lB r.1.2.2.2.2.1,lI r.1.2.2.2.2.2.1,lB r.1.2.2.2.2.2.2]) [.bx 206 (lx206 r.2),ROW qI 3 r.1.2.2.1]:=by
 unfold y2h at hm;refine Fw.mk2 Tryz.func125 Tryz.ntmps125 R (fun C=>?_) R;refine .sr (.bo 1 R (.al 2 zz100 R (.nr (.op (O.bu (l:=[lN,lN,lN,lI (-1),lB false,lI 0,lB false]) pl100 R Z R R R) R (.al 3 zz100 R (.st ag100.sz R (.nr (.mv R (.fa ycw R (.lb nag32 R (bS hm fun s b6 hm=> .op (O.ca (r':= .tp [.h 4,.b s.2.1]) [0,4] [(0,.bx 206 (lx206 s.2.2)),(1,ROW qI 3 s.1)] (some 5) (y6H b6) cf188 R R Z R R R R ⟨⟨_,R,I4⟩,⟨_,R,I4⟩,trivial⟩ I3 R) R (.mv R (.ex R (.ex R (.fa y6x R (.st nag32.sz R (.nr (.mv R (.fa y6x R (.lb nag32 R (.fz 4 [25] [3] R R fR R R (bS hm fun v b7 hm=> .op (O.ca (r':= .tp []) [0] [(0,.bx 206 (lx206 v))] none (y4Z b7) cf189 R R Z R R R R ⟨⟨_,R,I4⟩,trivial⟩ I3 R) R (.nr (.mv R ?_))))))))))))))))))))))));refine .op (O.nc .B Z R R) R (.fa y6d R (.op (O.lg (l':=(lx37 v.1)) ag37 Z R (.B R) R R R) R (bS hm fun y b8 hm=> .op (O.ca (r':= .h 5) [5] [(0,ROW qI 3 y)] (some 6) (y6v b8) cf121 R R Z R R R R ⟨⟨_,R,I4⟩,trivial⟩ I3 R) R (.an R (.seq (.sr (.an R (.block (bS hm fun p W hm=>?_)))))))));refine .cut1 (z:= .exit 0) p (fun (p:List Int)=>⟨[(9,.q 1 0),(8,.q 3 0),(5,.q 4 0),(0,.q 0 0),(2,.f qI p2),(3,.b p3)],[(0,.bx 206 (lx206 v)),(1,.bx 100 [lF qI s.1,lN,lH 2,lI (-1),lB false,lI 0,lB false]),(2,ROW qI 3 p),(3,.bx 100 [lN,lN,lN,lI 0,lB false,lI 0,lB false]),(4,.bx 114 [lF qI p1.1,lF qI p1.2.1,lI p1.2.2])],5⟩) ?_ fun b3=>?_
 ·skip
  refine .blkE (.seqN ?_);refine .join1 (fun (w:List Int)=>y1z p1 s v p w=some r) (fun w=>⟨[(2,.f qI w),(9,.q 1 0),(8,.q 3 0),(5,.q 4 0),(0,.q 0 0)],[(0,.bx 206 (lx206 v)),(1,.bx 100 [lF qI s.1,lN,lH 2,lI (-1),lB false,lI 0,lB false]),(2,ROW qI 3 p),(3,.bx 100 [lN,lN,lN,lI 0,lB false,lI 0,lB false]),(4,.bx 114 [lF qI p1.1,lF qI p1.2.1,lI p1.2.2])],5⟩) ?_ ?_
  ·intro w hm;unfold y1z at hm;refine .seq (.sr (.an R (.block (bS hm fun e X hm=>?_))));refine .cut1 (z:= .exit 2) e (fun (e:Int)=>⟨[(9,.q 1 0),(8,.q 3 0),(5,.q 4 0),(0,.q 0 0)],[(0,.bx 206 (lx206 v)),(1,.bx 100 [lF qI s.1,lN,lH 2,lI e,lB false,lI 0,lB false]),(2,ROW qI 3 p),(3,.bx 100 [lN,lN,lN,lI 0,lB false,lI 0,lB false]),(4,.bx 114 [lF qI p1.1,lF qI p1.2.1,lI p1.2.2])],5⟩) ?_ fun b4=>?_
   ·skip
    refine .blkE (.seqN (.sr (.an R (.sr (.mv R (.fa ycx R (.lb nag32 R (.fa y5S R (.lb nag3 R (bS hm fun j Y hm=> .op (O.ca (r':= .tp [.h 5,.b j.2.1]) [0,5] [(0,.bx 206 (lx206 j.2.2)),(1,ROW qI 3 j.1)] (some 6) (y6H Y) cf188 R R Z R R R R ⟨⟨_,R,I4⟩,⟨_,R,I4⟩,trivial⟩ I3 R) R (.mv R (.ex R (.ex R (.fa yag R (.st nag32.sz R (.an R (.sr (.fa y5S R (.lb nag3 R (.bi R (.mv R ?_)))))))))))))))))))));refine .cut 2 (fun (M:Bool)=>((decide (e≥0))&&j.2.1)=M) (fun M=>⟨[(111,.b M),(9,.q 1 0),(8,.q 3 0),(0,.q 0 0)],[(0,.bx 206 (lx206 j.2.2)),(1,.bx 100 [lF qI s.1,lH 5,lH 2,lI e,lB false,lI 0,lB false]),(5,ROW qI 3 j.1),(2,ROW qI 3 p),(3,.bx 100 [lN,lN,lN,lI 0,lB false,lI 0,lB false])],6⟩) ?_ ?_
    ·rintro _ rfl;refine .fa y7g R (.st nag4.sz R (.nr (.mv R (.fa yag R (.lb nag32 R (.fz 5 [115] [1] R R fR R R (bS hm fun u a0 hm=> .op (O.ca (r':= .tp []) [0] [(0,.bx 206 (lx206 u))] none (y4Z a0) cf189 R R Z R R R R ⟨⟨_,R,I4⟩,trivial⟩ I3 R) R (.ns ?_))))))));refine .join1 (fun (x:PbT×Int×Int×Bool)=>y1w s p e j x=some r) (fun x=>⟨[(9,.q 1 0),(8,.q 3 0),(0,.q 0 0)],[(0,.bx 206 (lx206 x)),(1,.bx 100 [lF qI s.1,lF qI j.1,lH 2,lI e,lB ((decide (e≥0))&&j.2.1),lI 0,lB false]),(2,ROW qI 3 p),(3,.bx 100 [lN,lN,lN,lI 0,lB false,lI 0,lB false])],4⟩) ?_ ?_
     ·intro x hm;unfold y1w at hm;refine .seq ?_;refine .sub (τ:=⟨[(9,.q 1 0),(8,.q 3 0),(0,.q 0 0)],[(0,.bx 206 (lx206 x)),(1,.bx 100 [lF qI s.1,lF qI j.1,lH 2,lI e,lB ((decide (e≥0))&&j.2.1),lI 0,lB false]),(2,ROW qI 3 p),(3,.bx 100 [lN,lN,lN,lI 0,lB false,lI 0,lB false])],4⟩) ?_ [] R;refine .drz 4 [(9,1)] [(4,[],[],[]),(4,[oT],[],[]),(4,[oT,oT],[],[]),(4,[oT,oT,oT],[],[]),(4,[],[1],[]),(4,[oF,oF,oF,oF,oT],[1],[]),(4,[oF,oF,oF,oF,oT,oT],[1],[]),(4,[oF,oF,oF,oF,oT,oT,oT],[1],[]),(4,[oT,oT,oT,oT],[],[]),(4,[oT,oT,oT,oT,oF,oF,oF,oF,oT],[],[]),(4,[oT,oT,oT,oT,oT,oT,oT,oT,oT,oT],[],[]),(4,[oT,oT,oT,oT,oT,oT,oT,oT,oT,oT,oT],[],[])] [_,_,_,_,_,_,_,_,_,_,_,_] ⟨[(9,.q 1 0),(8,.q 3 0)],[(0,.bx 206 (lx206 x)),(1,.bx 100 [lF qI s.1,lF qI j.1,lH 2,lI e,lB ((decide (e≥0))&&j.2.1),lI x.2.2.1,lB x.2.2.2]),(2,ROW qI 3 p),(3,.bx 100 [lN,lN,lN,lI 0,lB false,lI 0,lB false])],4⟩ ⟨O.mv Z R R,O.nc .B Z R R,O.faP yai Z R R,O.ld nag3 Z R (.B R) R R,O.mv Z R R,O.nc .B Z R R,O.faP ye9 Z R R,O.ld nag4 Z R (.B R) R R,O.faP y9q Z R R,O.st nag3.sz Z R R R R R,O.faP yah Z R R,O.st nag4.sz Z R R R R R,trivial⟩ (by kernel_rfl) R ?_;refine .seqN (.sr (.op (O.lg (l':=[lF qI s.1,lF qI j.1,lH 2,lI e,lB ((decide (e≥0))&&j.2.1),lI x.2.2.1,lB x.2.2.2]) ag100 Z R (.B R) R R R) R (.st ag100.sz R (.ns (.ret ?_)))));cases hm;exact .rr [0,2] Tryz.results125 (.cell R R ag100 R .nil) R I3 ⟨⟨_,R,I4⟩,⟨_,R,I4⟩,trivial⟩
     ·intro H;refine .sr (.fa y7g R (.lb nag4 R (.ns ?_)));refine .cc hm R (fun hm=>?_) fun hm=> .skip ((H _ hm).sub [] R);refine .seq ?_;refine .sub (τ:=⟨[(9,.q 1 0),(8,.q 3 0),(0,.q 0 0)],[(0,.bx 206 (lx206 u)),(1,.bx 100 [lF qI s.1,lF qI j.1,lH 2,lI e,lB ((decide (e≥0))&&j.2.1),lI 0,lB false]),(2,ROW qI 3 p),(3,.bx 100 [lN,lN,lN,lI 0,lB false,lI 0,lB false])],6⟩) ?_ [] R;refine bS hm fun b9 a1 hm=>?_;refine .drg 6 [(6,[]),(6,[]),(6,[oF,oT]),(6,[oF,oT,oT]),(6,fA 1 (tT 3)),(6,fA 1 (tT 4)),(6,[]),(6,[oF,oF,oF,oF,oF,oF,oT]),(6,[oF,oF,oF,oF,oF,oF,oT,oT]),(6,fA 6 (tT 3)),(6,[]),(6,[oF,oF,oF,oF,oF,oF,oF,oF,oF,oF,oT]),(6,fA 1 (tT 11)),(6,tT 13),(6,tT 14),(6,tT 15)] [_,_,_,_,_,_,_,_,_,_,_,_,_,_,_,_] ⟨[(9,.q 1 0),(8,.q 3 0),(0,.q 0 0)],[(0,.bx 206 [lF qI u.1.1.1,lI u.1.1.2.1,lF qI u.1.1.2.2.1,lF qT u.1.1.2.2.2,lF qI u.1.2.1.1,lI u.1.2.1.2.1,lF qI u.1.2.1.2.2.1,lF qT u.1.2.1.2.2.2,lF qI u.1.2.2,lI b9,lI u.2.2.1,lB u.2.2.2]),(1,.bx 100 [lF qI s.1,lF qI j.1,lH 2,lI e,lB ((decide (e≥0))&&j.2.1),lI 0,lB false]),(2,ROW qI 3 p),(3,.bx 100 [lN,lN,lN,lI 0,lB false,lI 0,lB false])],6⟩ ⟨O.mv Z R R,O.mv Z R R,O.nc .B Z R R,O.faP y6d Z R R,O.faP y2n Z R R,O.lg (l':=(lx35 u.1.1)) ag35 Z R (.B R) R R R,O.mv Z R R,O.nc .B Z R R,O.faP y8g Z R R,O.ld nag3 Z R (.B R) R R,O.faP y5S Z R R,O.ld nag3 Z R (.B R) R R,O.ca0 (yu a1) cf55 R R Z R R R,O.nc .B Z R R,O.faP y8g Z R R,O.st nag3.sz Z R R R R R,trivial⟩ (by kernel_rfl) R ?_;exact .seqN (.reg (.mv R (.fa y5S R (.lb nag3 R (.op (O.bsF (r:=qI) (zs:=([e]:List Int)) bs32 R R Z R R R (.c .k .n) R R R) R (bS hm fun c0 a2 hm=> .op (O.ca (r':= .tp []) [0] [(0,.bx 206 (lx206 c0))] none (y4Z a2) cf189 R R Z R R R R ⟨⟨_,R,I4⟩,trivial⟩ I3 R) R (.nil ((H _ hm).sub [] R))))))))
    ·intro T;rcases Bool.eq_false_or_eq_true (decide (e≥0)) with hc|hc
     ·refine .know (d:=109) R hc ?_;exact .op (O.mv (Gu.mk R R) R R) R (.op (O.pkT Z R R R R) R ((T j.2.1 (andT hc).symm).sub [] R))
     ·refine .know (d:=109) R hc ?_;exact .sk R (.op (O.pkF Z R R R R) R ((T false (andF hc).symm).sub [] R))
   refine .iter (fun (m:Int×Int)=>⟨[(12,.i m.1),(2,.f qI w),(9,.q 1 0),(8,.q 3 0),(5,.q 4 0),(0,.q 0 0)],[(0,.bx 206 (lx206 v)),(1,.bx 100 [lF qI s.1,lN,lH 2,lI m.2,lB false,lI 0,lB false]),(2,ROW qI 3 p),(3,.bx 100 [lN,lN,lN,lI 0,lB false,lI 0,lB false]),(4,.bx 114 [lF qI p1.1,lF qI p1.2.1,lI p1.2.2])],5⟩) X [] R ?_;intro m S hm b2 b0;unfold y1y at hm;refine .seq (.sr (.mv R (.mv R (.ln sl32 R (.bi R (.mv R ?_))))));refine .cut 4 (fun (N:Bool)=>((decide (m.1<(w.length:Int)))&&(decide (m.2<0)))=N) (fun N=>⟨[(75,.b N),(12,.i m.1),(2,.f qI w),(9,.q 1 0),(8,.q 3 0),(5,.q 4 0),(0,.q 0 0)],[(0,.bx 206 (lx206 v)),(1,.bx 100 [lF qI s.1,lN,lH 2,lI m.2,lB false,lI 0,lB false]),(2,ROW qI 3 p),(3,.bx 100 [lN,lN,lN,lI 0,lB false,lI 0,lB false]),(4,.bx 114 [lF qI p1.1,lF qI p1.2.1,lI p1.2.2])],5⟩) ?_ ?_
   ·rintro _ rfl;refine .ns ?_;refine .cc hm R (fun hm=>?_) fun hm=> .exit (.seqX (.seqX ((b4 _ (b0 _ (oi hm).symm)).sub [] R)));refine .skip (.seqN ?_);refine .join1 (fun (F:Int)=>y1x m F=some S) (fun F=>⟨[(12,.i m.1),(2,.f qI w),(9,.q 1 0),(8,.q 3 0),(5,.q 4 0),(0,.q 0 0)],[(0,.bx 206 (lx206 v)),(1,.bx 100 [lF qI s.1,lN,lH 2,lI F,lB false,lI 0,lB false]),(2,ROW qI 3 p),(3,.bx 100 [lN,lN,lN,lI 0,lB false,lI 0,lB false]),(4,.bx 114 [lF qI p1.1,lF qI p1.2.1,lI p1.2.2])],5⟩) ?_ ?_
    ·intro F hm;unfold y1x at hm;exact .reg (.mv R (.bi R (.sa R (.nil ((b2 _ (oi hm).symm).sub [] R)))))
    ·intro I;refine .block (.sr (.mv R (.mv R (bS hm fun c5 a5 hm=> .ix sl32 a5 R (.le nag3 lv3 R (.bi R (.mv R (bS hm fun b5 eb50 hm=>?_))))))));refine .cut 7 (fun (P:Bool)=>b5=P) (fun P=>⟨[(90,.b P),(12,.i m.1),(2,.f qI w),(9,.q 1 0),(8,.q 3 0),(5,.q 4 0),(0,.q 0 0)],[(0,.bx 206 (lx206 v)),(1,.bx 100 [lF qI s.1,lN,lH 2,lI m.2,lB false,lI 0,lB false]),(2,ROW qI 3 p),(3,.bx 100 [lN,lN,lN,lI 0,lB false,lI 0,lB false]),(4,.bx 114 [lF qI p1.1,lF qI p1.2.1,lI p1.2.2])],5⟩) ?_ ?_
     ·rintro _ rfl;exact .ns (.cc hm R (fun hm=> .reg (.mv R (.mv R (bS hm fun c6 a6 hm=> .ix sl32 a6 R (.le nag3 lv3 R (.fa y5S R (.st nag3.sz R (.nil (.blkN ((I _ hm).sub [] R)))))))))) fun hm=> .skip (.blkN ((I _ hm).sub [] R)))
     ·intro V;rcases ifS eb50 with ⟨hc,hm⟩|⟨hc,hm⟩
      ·refine .know (d:=83) R hc ?_;exact .op (O.mv (Gu.mk R R) R R) R (.op (O.mv (Gu.mk R R) R R) R (.op (O.mv (Gu.mk R R) R R) R (bS hm fun c7 a7 hm=> .op (O.ix sl32 (Gu.mk R R) R R a7 R) R (.op (O.ld nag3 (Gu.mk R R) R (.E lv3) R R) R (bS hm fun c1 a3 hm=> .op (O.caZ (y8a a3) cf190 R R (Gu.mk R R) R ⟨⟨R,(.q R LnL.rf),trivial⟩,⟨R,LnL.rf⟩,trivial⟩ (fun _ _ _ _ _ h=>h) R) R (.op (O.pkT Z R R R R) R ((V c1 (oi hm).symm).sub [] R)))))))
      ·refine .know (d:=83) R hc ?_;exact .sk R (.sk R (.sk R (.sk R (.sk R (.sk R (.op (O.pkF Z R R R R) R ((V false (oi hm).symm).sub [] R)))))))
   ·intro U;rcases Bool.eq_false_or_eq_true (decide (m.1<(w.length:Int))) with hc|hc
    ·refine .know (d:=71) R hc ?_;exact .op (O.faP y5S (Gu.mk R R) R R) R (.op (O.ld nag3 (Gu.mk R R) R (.B R) R R) R (.op (O.bi (Gu.mk R R) R R R R) R (.op (O.pkT Z R R R R) R ((U (decide (m.2<0)) (andT hc).symm).sub [] R))))
    ·refine .know (d:=71) R hc ?_;exact .sk R (.sk R (.sk R (.op (O.pkF Z R R R R) R ((U false (andF hc).symm).sub [] R))))
  ·intro G;refine .sr (.mv R (.op (O.not Z R R) R (.ns ?_)));exact .cc hm R (fun hm=> .reg (.fa y7A R (.lb nag3 R (.op (O.bsF (r:=qI) (zs:=([p1.2.2]:List Int)) bs32 R R Z R R R (.c .k .n) R R R) R (.sa R (.nil ((G _ hm).sub [] R))))))) fun hm=> .skip ((G _ hm).sub [] R)
 refine .nlb qI 3 3 2 R R (.iter (fun (t:Int×List Int)=>⟨[(11,.i t.1),(10,.h 1),(9,.q 2 0),(8,.q 4 0),(5,.q 5 0),(0,.q 0 0),(2,.f qI p2),(3,.b p3)],[(0,.bx 206 (lx206 v)),(1,ROW qI 3 y),(2,.bx 100 [lF qI s.1,lN,lH 3,lI (-1),lB false,lI 0,lB false]),(3,ROW qI 3 t.2),(4,.bx 100 [lN,lN,lN,lI 0,lB false,lI 0,lB false]),(5,.bx 114 [lF qI p1.1,lF qI p1.2.1,lI p1.2.2])],6⟩) W [(1,5),(2,3),(3,6),(4,2),(5,1)] R ?_);intro t Q hm b1 a9;unfold y1B at hm;refine .seq (.sr (.mv R (.mv R (.op (O.lenH sl32 Z R R R) R (.bi R (.ns ?_))))));refine .cc hm R (fun hm=>?_) fun hm=> .exit (.seqX (.seqX ((b3 _ (a9 _ (oi hm).symm)).sub [(1,2),(2,3),(3,4),(4,5)] R)));refine .skip (.seqN ?_);refine .join1 (fun (D:List Int)=>y1A t D=some Q) (fun D=>⟨[(11,.i t.1),(10,.h 1),(9,.q 2 0),(8,.q 4 0),(5,.q 5 0),(0,.q 0 0),(2,.f qI p2),(3,.b p3)],[(0,.bx 206 (lx206 v)),(1,ROW qI 3 y),(2,.bx 100 [lF qI s.1,lN,lH 3,lI (-1),lB false,lI 0,lB false]),(3,ROW qI 3 D),(4,.bx 100 [lN,lN,lN,lI 0,lB false,lI 0,lB false]),(5,.bx 114 [lF qI p1.1,lF qI p1.2.1,lI p1.2.2])],6⟩) ?_ ?_
 ·intro D hm;unfold y1A at hm;exact .reg (.mv R (.bi R (.sa R (.nil ((b1 _ (oi hm).symm).sub [] R)))))
 ·intro J;refine .block (.seq ?_);refine .sub (τ:=⟨[(11,.i t.1),(10,.h 1),(9,.q 2 0),(8,.q 4 0),(5,.q 5 0),(0,.q 0 0),(2,.f qI p2),(3,.b p3)],[(0,.bx 206 (lx206 v)),(1,ROW qI 3 y),(2,.bx 100 [lF qI s.1,lN,lH 3,lI (-1),lB false,lI 0,lB false]),(3,ROW qI 3 t.2),(4,.bx 100 [lN,lN,lN,lI 0,lB false,lI 0,lB false]),(5,.bx 114 [lF qI p1.1,lF qI p1.2.1,lI p1.2.2])],6⟩) ?_ [] R;refine bS hm fun c8 K hm=>bS hm fun c2 a4 hm=>?_;refine .drw [(6,[]),(6,[oT]),(6,[oT,oT]),(6,tT 3),(6,tT 4),(6,[]),(6,[oF,oF,oF,oF,oF,oT]),(6,[oF,oF,oF,oF,oF,oT,oT]),(6,fA 5 (tT 3)),(6,[]),(6,[]),(6,[oF,oF,oF,oF,oF,oF,oF,oF,oF,oT,oT]),(6,fA 9 (tT 3)),(6,tT 13),(6,tT 14)] [_,_,_,_,_,_,_,_,_,_,_,_,_,_,_] ⟨[(52,.b (decide (c2≥0))),(11,.i t.1),(10,.h 1),(9,.q 2 0),(8,.q 4 0),(5,.q 5 0),(0,.q 0 0),(2,.f qI p2),(3,.b p3)],[(0,.bx 206 (lx206 v)),(1,ROW qI 3 y),(2,.bx 100 [lF qI s.1,lN,lH 3,lI (-1),lB false,lI 0,lB false]),(3,ROW qI 3 t.2),(4,.bx 100 [lN,lN,lN,lI 0,lB false,lI 0,lB false]),(5,.bx 114 [lF qI p1.1,lF qI p1.2.1,lI p1.2.2])],6⟩ ⟨O.mv Z R R,O.nc .B Z R R,O.faP y6d Z R R,O.faP y3g Z R R,O.lg (l':=(lx35 v.1.2.1)) ag35 Z R (.B R) R R R,O.mv Z R R,O.nc .B Z R R,O.faP yai Z R R,O.ld nag3 Z R (.B R) R R,O.mv Z R R,O.mv Z R R,O.ir sl32 Z R R R K R,O.ld nag3 Z R (.R R K lv3) R R,O.ca0 (yu a4) cf55 R R Z R R R,O.bi Z R R R R,trivial⟩ (by kernel_rfl) R ?_;refine .seqN ?_;refine .cc hm R (fun hm=>?_) fun hm=> .skip (.blkN ((J _ hm).sub [] R));refine .sub (τ:=⟨[(11,.i t.1),(10,.h 1),(9,.q 2 0),(8,.q 4 0),(5,.q 5 0),(0,.q 0 0),(2,.f qI p2),(3,.b p3)],[(0,.bx 206 (lx206 v)),(1,ROW qI 3 y),(2,.bx 100 [lF qI s.1,lN,lH 3,lI (-1),lB false,lI 0,lB false]),(3,ROW qI 3 t.2),(4,.bx 100 [lN,lN,lN,lI 0,lB false,lI 0,lB false]),(5,.bx 114 [lF qI p1.1,lF qI p1.2.1,lI p1.2.2])],6⟩) ?_ [] R;refine bS hm fun c3 L hm=>bS hm fun c4 a8 hm=>?_;refine .drg 7 [(6,[]),(6,[oT]),(6,[]),(6,[]),(6,[oF,oF,oT,oT]),(6,fA 2 (tT 3)),(6,fA 2 (tT 4)),(6,tT 7),(7,tT 8),(7,tT 9)] [_,_,_,_,_,_,_,_,_,_] ⟨[(11,.i t.1),(10,.h 1),(9,.q 2 0),(8,.q 4 0),(5,.q 5 0),(0,.q 0 0),(2,.f qI p2),(3,.b p3)],[(0,.bx 206 (lx206 v)),(1,ROW qI 3 y),(2,.bx 100 [lF qI s.1,lN,lH 6,lI (-1),lB false,lI 0,lB false]),(6,ROW qI 3 c4),(4,.bx 100 [lN,lN,lN,lI 0,lB false,lI 0,lB false]),(5,.bx 114 [lF qI p1.1,lF qI p1.2.1,lI p1.2.2])],7⟩ ⟨O.faP yaf Z R R,O.ld nag32 Z R (.B R) R R,O.mv Z R R,O.mv Z R R,O.ir sl32 Z R R R L R,O.ld nag3 Z R (.R R L lv3) R R,O.bsF (r:=qI) (zs:=([c3]:List Int)) bs32 R R Z R R R (.c .k .n) R R R,O.ap 6 Tryz.underlying32 el3 R R Z R R (.fr R) a8 R,O.faP yaf Z R R,O.st nag32.sz Z R R R R R,trivial⟩ (by kernel_rfl) R ?_;exact .blkN ((J _ hm).sub [(3,6)] R)
def y3B(p1:List CycT)(p2:List Int)(p3:Bool)(a:Int×(List StpT)×(PbT×Int×Int×Bool)):Option ((Int×(List StpT)×(PbT×Int×Int×Bool))⊕(List StpT)):=
 if decide (a.1<(p1.length:Int)) then
  (idx p1 a.1).bind fun c=>
  (y2h a.2.2 c p2 p3).bind fun b=>
  (app a.2.1 ([b.1]:List StpT)).bind fun d=>
  some (.inl (W (a.1+1),d,b.2))
 else
  some (.inr a.2.1)
def y4C(p0:PbT)(p1:List CycT)(p2:List Int)(p3:Bool):Option (List StpT):=
 (iter (y3B p1 p2 p3) (0,([]:List StpT),p0,0,0,false)).bind fun a=>
 some a
theorem y9L{p1:List CycT}{p3:Bool}{r:(List StpT)}(hm:y4C p0 p1 p2 p3=some r):
  F0 51 [.a (lx37 p0),.f rE114 p1,.f qI p2,.b p3] [] (.h 0) [ROW rE100 100 r]:=by
 unfold y4C at hm;refine Fw.mk2 Tryz.func51 Tryz.ntmps51 R (fun C=>?_) R;refine .sr (.bo 0 R (.an R (.sr (.op (O.lg (l':=(lx37 p0)) ag37 Z R (.B R) R R R) R (.op (O.bu (l:=[lF qI p0.1.1,lI p0.1.2.1,lF qI p0.1.2.2.1,lF qT p0.1.2.2.2,lF qI p0.2.1.1,lI p0.2.1.2.1,lF qI p0.2.1.2.2.1,lF qT p0.2.1.2.2.2,lF qI p0.2.2,lI 0,lI 0,lB false]) pl206 R Z R R R) R (.bo 1 R (.an R (.sr (.an R (.seq (.sr (.an R (.block (bS hm fun j o hm=>?_))))))))))))));refine .cut1 (z:= .exit 0) j (fun (j:(List StpT))=>⟨[(10,.h 0)],[(0,ROW rE100 100 j)],1⟩) ?_ fun x=>?_
 ·skip
  refine .blkE (.seqN (.sr (.mv R (.an R (.ret ?_)))));cases hm;exact .rr [0] Tryz.results51 (.tmp R .nil) R I3 ⟨⟨_,R,I4⟩,trivial⟩
 refine .nlg rE100 100 10 0 R R (.iter (fun (e:Int×(List StpT)×(PbT×Int×Int×Bool))=>⟨[(11,.i e.1),(10,.h 0),(9,.q 1 0),(1,.f rE114 p1),(2,.f qI p2),(3,.b p3)],[(0,ROW rE100 100 e.2.1),(1,.bx 206 (lx206 e.2.2))],2⟩) o [(0,2)] R ?_);intro e y hm w v;unfold y3B at hm;refine .seq (.sr (.mv R (.mv R (.ln sl94 R (.bi R (.ns ?_))))));exact .cc hm R (fun hm=> .skip (.seqN (.seq (.block (.reg (.mv R (.mv R (.mv R (.mv R (bS hm fun m t hm=> .ix sl94 t R (.op (O.lg (l':=[lF qI m.1,lF qI m.2.1,lI m.2.2]) ag114 Z R (.E lv114) R R R) R (.mv R (.mv R (bS hm fun d s hm=> .op (O.ca (r':= .g [lF qI d.1.1,lF qI d.1.2.1,lH 2,lI d.1.2.2.2.1,lB d.1.2.2.2.2.1,lI d.1.2.2.2.2.2.1,lB d.1.2.2.2.2.2.2]) [1,2] [(0,.bx 206 (lx206 d.2)),(1,ROW qI 3 d.1.2.2.1)] (some 3) (y8M s) cf125 R R Z R R R R ⟨⟨_,R,I4⟩,⟨_,R,I4⟩,trivial⟩ I3 R) R (.fz 2 [29] [] R R fR R R (.op (O.bsF (r:=rE100) (zs:=([d.1]:List StpT)) bs91 R R Z R R R (.c (.p .l (.p .l (.p .l (.p .k (.p .b (.p .k .b)))))) .n) R R R) R (bS hm fun D u hm=> .op (O.ap 3 Tryz.underlying91 el100 R R Z R R (.fr R) u R) R (.sa R (.nil (.blkN (.seqN (.reg (.mv R (.bi R (.sa R (.nil ((w _ (oi hm).symm).sub [(0,3)] R))))))))))))))))))))))))))) fun hm=> .exit (.seqX (.seqX ((x _ (v _ (oi hm).symm)).sub [] R)))
def yy(l3:List StpT):Option (List StpT):=
 some l3
def y4d(p0:List StpT)(p1:Int):Option (List StpT):=
 (app ([]:List StpT) p0).bind fun a=>
 if((a.length:Int)==0) then
  some a
 else
  (nz (a.length:Int)).bind fun _=>
  if((p1.tmod 8)==1) then
   (idx a ((W (IntKind.u8.wrap (p1.tdiv 8))).tmod (a.length:Int))).bind fun q=>
   (idx a ((W (IntKind.u8.wrap (p1.tdiv 8))).tmod (a.length:Int))).bind fun c=>
   (upd a ((W (IntKind.u8.wrap (p1.tdiv 8))).tmod (a.length:Int)) (c.1,c.2.1,c.2.2.1,c.2.2.2.1,c.2.2.2.2.1,W (q.2.2.2.2.2.1+1),c.2.2.2.2.2.2)).bind fun r=>
   yy r
  else
   if((p1.tmod 8)==2) then
    (idx a ((W (IntKind.u8.wrap (p1.tdiv 8))).tmod (a.length:Int))).bind fun d=>
    (upd a ((W (IntKind.u8.wrap (p1.tdiv 8))).tmod (a.length:Int)) (d.1,d.2.1,d.2.2.1,d.2.2.2.1,d.2.2.2.2.1,d.2.2.2.2.2.1,true)).bind fun s=>
    yy s
   else
    if((p1.tmod 8)==3) then
     (idx a ((W (IntKind.u8.wrap (p1.tdiv 8))).tmod (a.length:Int))).bind fun e=>
     (app ([]:List Int) e.1).bind fun f=>
     (app f ([7]:List Int)).bind fun g=>
     (idx a ((W (IntKind.u8.wrap (p1.tdiv 8))).tmod (a.length:Int))).bind fun h=>
     (upd a ((W (IntKind.u8.wrap (p1.tdiv 8))).tmod (a.length:Int)) (g,h.2)).bind fun i=>
     yy i
    else
     if((p1.tmod 8)==4) then
      (idx a ((W (IntKind.u8.wrap (p1.tdiv 8))).tmod (a.length:Int))).bind fun j=>
      (app ([]:List Int) j.1).bind fun k=>
      (app k ([0]:List Int)).bind fun l=>
      (idx a ((W (IntKind.u8.wrap (p1.tdiv 8))).tmod (a.length:Int))).bind fun m=>
      (upd a ((W (IntKind.u8.wrap (p1.tdiv 8))).tmod (a.length:Int)) (l,m.2)).bind fun n=>
      yy n
     else
      if((p1.tmod 8)==5) then
       (idx a ((W (IntKind.u8.wrap (p1.tdiv 8))).tmod (a.length:Int))).bind fun o=>
       (idx a ((W (IntKind.u8.wrap (p1.tdiv 8))).tmod (a.length:Int))).bind fun b=>
       (upd a ((W (IntKind.u8.wrap (p1.tdiv 8))).tmod (a.length:Int)) (b.1,b.2.1,b.2.2.1,b.2.2.2.1,(!o.2.2.2.2.1),b.2.2.2.2.2)).bind fun p=>
       yy p
      else
       yy a
theorem y9B{p0:List StpT}{r:(List StpT)}(hm:y4d p0 p1=some r):
    F0 50 [.f rE100 p0,.o (lV (.int .u8 p1))] [] (.h 0) [ROW rE100 100 r]:=by
  unfold y4d at hm;refine Fw.mk2 Tryz.func50 Tryz.ntmps50 R (fun C=>?_) R;refine .sr (.an R (.sr (.op (O.b0O (r:=rE100) 0 R bs91 R Z R) R (.mv R (bS hm fun x1 H hm=> .op (O.ap 1 Tryz.underlying91 el100 R R Z R R (.fr R) H R) R (.an R (.seq (.sr (.mv R (.op (O.lenH sl91 Z R R R) R (.bi R (.ns ?_))))))))))));refine .cc hm R (fun hm=>?_) fun hm=>?_
  ·refine .sr (.mv R (.an R (.ret (.seqR ?_))));cases hm;exact .rr [1] Tryz.results50 (.tmp R .nil) R I3 ⟨⟨_,R,I4⟩,trivial⟩
  ·refine .skip (.seqN (.sr (.mv R (.op (O.quo Z R R (by decide) R) R (.op (O.cv Tryz.underlying5 Tryz.underlying3 Z R R) R (.mv R (.op (O.lenH sl91 Z R R R) R (bS hm fun _ S hm=> .op (O.rem Z R R (ydN S) R) R (.an R ?_)))))))));refine .join1 (fun (l3:List StpT)=>yy l3=some r) (fun l3=>⟨[(5,.h 0)],[(0,ROW rE100 100 l3)],1⟩) ?_ ?_
   · intro l3 hm;unfold yy at hm;refine .sr (.mv R (.an R (.ret ?_)));cases hm;exact .rr [0] Tryz.results50 (.tmp R .nil) R I3 ⟨⟨_,R,I4⟩,trivial⟩
   · intro a;refine .sr (.mv R (.op (O.rem Z R R (by decide) R) R (.ns (.block (.sr (.bi R (.an R ?_)))))));refine .cc hm R (fun hm=> .reg (.mv R (.mv R (bS hm fun Q u hm=> .op (O.ir sl91 Z R R R u R) R (.op (O.faR y9q Z R R) R (.op (O.ld nag3 Z R (.R R u lv100) R R) R (.bi R (bS hm fun e v hm=> .op (O.ir sl91 Z R R R v R) R (.op (O.faR y9q Z R R) R (bS hm fun x7 I hm=> .op (O.su (z:=(e.1,e.2.1,e.2.2.1,e.2.2.2.1,e.2.2.2.2.1,W (Q.2.2.2.2.2.1+1),e.2.2.2.2.2.2)) nag3.sz Z R R v I R R R lv100 R (.p .l (.p .l (.p .l (.p .k (.p .b (.p .k .b))))))) R (.nil (.blkN ((a _ hm).sub [(0,1)] R))))))))))))) fun hm=>?_;refine .sr (.bi R (.an R ?_));refine .cc hm R (fun hm=> .reg (.mv R (.mv R (bS hm fun g w hm=> .op (O.ir sl91 Z R R R w R) R (.op (O.faR yah Z R R) R (bS hm fun x9 J hm=> .op (O.su (z:=(g.1,g.2.1,g.2.2.1,g.2.2.2.1,g.2.2.2.2.1,g.2.2.2.2.2.1,true)) nag4.sz Z R R w J R R R lv100 R (.p .l (.p .l (.p .l (.p .k (.p .b (.p .k .b))))))) R (.nil (.blkN ((a _ hm).sub [(0,1)] R))))))))) fun hm=>?_;refine .sr (.bi R (.an R ?_));refine .cc hm R (fun hm=> .reg (.mv R (.mv R (.op (O.b0O (r:=qI) 2 R bs32 R Z R) R (.mv R (.mv R (bS hm fun T i hm=> .op (O.ir sl91 Z R R R i R) R (.op (O.faR y6x Z R R) R (.op (O.ld nag32 Z R (.R R i lv100) R R) R (bS hm fun U x hm=> .op (O.ap 3 Tryz.underlying32 el3 R R Z R R (.fr R) x R) R (.op (O.bsF (r:=qI) (zs:=([7]:List Int)) bs32 R R Z R R R (.c .k .n) R R R) R (bS hm fun K y hm=> .op (O.ap 4 Tryz.underlying32 el3 R R Z R R (.fr R) y R) R (bS hm fun L j hm=> .op (O.ir sl91 Z R R R j R) R (.op (O.faR y6x Z R R) R (.fz 4 [50] [] R R fR R R (bS hm fun V B hm=> .op (O.su (z:=(K,L.2)) nag32.sz Z R R j B R R R lv100 R (.p .l (.p .l (.p .l (.p .k (.p .b (.p .k .b))))))) R (.nil (.blkN ((a _ hm).sub [(0,1)] R))))))))))))))))))) fun hm=>?_;refine .sr (.bi R (.an R ?_));refine .cc hm R (fun hm=> .reg (.mv R (.mv R (.op (O.b0O (r:=qI) 2 R bs32 R Z R) R (.mv R (.mv R (bS hm fun X m hm=> .op (O.ir sl91 Z R R R m R) R (.op (O.faR y6x Z R R) R (.op (O.ld nag32 Z R (.R R m lv100) R R) R (bS hm fun Y D hm=> .op (O.ap 3 Tryz.underlying32 el3 R R Z R R (.fr R) D R) R (.op (O.bsF (r:=qI) (zs:=([0]:List Int)) bs32 R R Z R R R (.c .k .n) R R R) R (bS hm fun M E hm=> .op (O.ap 4 Tryz.underlying32 el3 R R Z R R (.fr R) E R) R (bS hm fun N q hm=> .op (O.ir sl91 Z R R R q R) R (.op (O.faR y6x Z R R) R (.fz 4 [65] [] R R fR R R (bS hm fun a0 F hm=> .op (O.su (z:=(M,N.2)) nag32.sz Z R R q F R R R lv100 R (.p .l (.p .l (.p .l (.p .k (.p .b (.p .k .b))))))) R (.nil (.blkN ((a _ hm).sub [(0,1)] R))))))))))))))))))) fun hm=>?_;refine .sr (.bi R (.an R ?_));exact .cc hm R (fun hm=> .reg (.mv R (.mv R (.mv R (.mv R (bS hm fun P s hm=> .op (O.ir sl91 Z R R R s R) R (.op (O.faR y7g Z R R) R (.op (O.ld nag4 Z R (.R R s lv100) R R) R (.op (O.not Z R R) R (bS hm fun d t hm=> .op (O.ir sl91 Z R R R t R) R (.op (O.faR y7g Z R R) R (bS hm fun a1 G hm=> .op (O.su (z:=(d.1,d.2.1,d.2.2.1,d.2.2.2.1,(!P.2.2.2.2.1),d.2.2.2.2.2)) nag4.sz Z R R t G R R R lv100 R (.p .l (.p .l (.p .l (.p .k (.p .b (.p .k .b))))))) R (.nil (.blkN ((a _ hm).sub [(0,1)] R))))))))))))))) fun hm=> .skip (.blkN ((a _ hm).sub [(0,1)] R))
def y4e(p0:AutT)(p2:List Int)(a:Int×Int):Option ((Int×Int)⊕(Int⊕(Int×Int))):=
 if decide (a.1<(p2.length:Int)) then
  (idx p2 a.1).bind fun c=>
  (ym p0 a.2 c).bind fun b=>
  if decide (b<0) then
   some (.inr (.inr (a)))
  else
   some (.inl (W (a.1+1),b))
 else
  some (.inr (.inl a.2))
def y5J(p0:AutT)(p1:Int)(p2:List Int):Option (Int×Int):=
 (iter (y4e p0 p2) (0,p1)).bind fun c=>
 match c with
 | .inl b=>
  some (b,(p2.length:Int))
 | .inr (a)=>
  some (a.2,a.1)
theorem yap{p0:AutT}{r:Int×Int}(hm:y5J p0 p1 p2=some r):
  F0 127 [.a (lx35 p0),.i p1,.f qI p2] [] (.tp [.i r.1,.i r.2]) []:=by
 unfold y5J at hm;refine Fw.mk2 Tryz.func127 Tryz.ntmps127 R (fun C=>?_) R;refine .sr (.bo 0 R (.sa R (.an R (.seq (.sr (.an R (.block (bS hm fun o m hm=>?_))))))));refine .cutU (z:= .exit 0) (fun d=> .inl d=o) (fun (d:Int)=>⟨[(1,.i d),(2,.f qI p2)],[],0⟩) ?_ fun j=>?_
 ·rintro d rfl;dsimp only at hm;refine .blkE (.seqN (.sr (.mv R (.mv R (.ln sl32 R (.sa R (.an R (.ret ?_))))))));cases hm;exact .rr [] Tryz.results127 (.tmp R (.tmp R .nil)) R I3 trivial
 refine .cutU (z:= .ret) (fun c=> .inr (c)=o) (fun (c:Int×Int)=>⟨[(7,.i c.1),(6,.i c.2)],[],0⟩) ?_ fun k=>?_
 ·rintro c rfl;dsimp only at hm;refine .blkR (.seqR ?_);cases hm;exact .rr [] Tryz.results127 (.tmp R (.tmp R .nil)) R I3 trivial
 refine .iter (fun (b:Int×Int)=>⟨[(8,.i b.1),(3,.q 0 0),(1,.i b.2),(2,.f qI p2)],[(0,.bx 35 (lx35 p0))],1⟩) m [] R ?_;intro b s hm n e;unfold y4e at hm;refine .seq (.sr (.mv R (.mv R (.ln sl32 R (.bi R (.ns ?_))))));refine .cc hm R (fun hm=>?_) fun hm=> .exit (.seqX (.seqX ((j _ (e _ (oi hm).symm)).sub [] R)));refine .skip (.seqN (.seq (.block (.seq ?_))));refine .sub (τ:=⟨[(8,.i b.1),(3,.q 0 0),(1,.i b.2),(2,.f qI p2)],[(0,.bx 35 (lx35 p0))],1⟩) ?_ [] R;refine bS hm fun t h hm=>bS hm fun p g hm=>?_;refine .drw [(1,[]),(1,[]),(1,[]),(1,[]),(1,[oF,oF,oT,oT]),(1,fA 2 (tT 3)),(1,tT 6),(1,tT 7)] [_,_,_,_,_,_,_,_] ⟨[(9,.i p),(8,.i b.1),(3,.q 0 0),(1,.i b.2),(2,.f qI p2)],[(0,.bx 35 (lx35 p0))],1⟩ ⟨O.lg (l':=(lx35 p0)) ag35 Z R (.B R) R R R,O.mv Z R R,O.mv Z R R,O.mv Z R R,O.ix sl32 Z R R h R,O.ld nag3 Z R (.E lv3) R R,O.ca0 (yu g) cf55 R R Z R R R,O.as Z R R,trivial⟩ (by kernel_rfl) R ?_;refine .seqN (.seq (.sr (.mv R (.bi R (.ns ?_)))));exact .cc hm R (fun hm=> .sr (.mv R (.mv R (.sa R (.an R (.ret (.seqR (.blkR (.seqR (.seqR ((k _ (e _ (oi hm).symm)).sub [] R))))))))))) fun hm=> .skip (.seqN (.reg (.mv R (.sa R (.nil (.blkN (.seqN (.reg (.mv R (.bi R (.sa R (.nil ((n _ (oi hm).symm).sub [] R)))))))))))))
def y3n(p0:AutT)(p1:List Int):Option Bool:=
 (y5J p0 0 p1).bind fun a=>
 some ((decide (p0.2.1>0))&&(a.2==(p1.length:Int)))
theorem y8N{p0:AutT}{p1:List Int}(hm:y3n p0 p1=some r):
  F0 56 [.a (lx35 p0),.f qI p1] [] (.b r) []:=by
 unfold y3n at hm;refine Fw.mk2 Tryz.func56 Tryz.ntmps56 R (fun C=>?_) R;refine .sr (.bo 0 R (.an R (.sr (.op (O.lg (l':=(lx35 p0)) ag35 Z R (.B R) R R R) R (.mv R (bS hm fun h g hm=> .c0 (yap g) cf127 R (.mv R (.ex R (.ex R (.sa R (.an R (.sr (.fa y2m R (.lb nag3 R (.bi R (.mv R ?_))))))))))))))));refine .cut 5 (fun (c:Bool)=>((decide (p0.2.1>0))&&(h.2==(p1.length:Int)))=c) (fun c=>⟨[(21,.b c)],[],1⟩) ?_ ?_
 ·rintro _ rfl;refine .an R (.ret ?_);cases hm;exact .rr [] Tryz.results56 (.tmp R .nil) R I3 trivial
 ·intro e;rcases Bool.eq_false_or_eq_true (decide (p0.2.1>0)) with hc|hc
  ·refine .know (d:=16) R hc ?_;exact .op (O.mv (Gu.mk R R) R R) R (.op (O.mv (Gu.mk R R) R R) R (.op (O.len sl32 (Gu.mk R R) R R) R (.op (O.bi (Gu.mk R R) R R R R) R (.op (O.pkT Z R R R R) R ((e (h.2==(p1.length:Int)) (andT hc).symm).sub [] R)))))
  ·refine .know (d:=16) R hc ?_;exact .sk R (.sk R (.sk R (.sk R (.op (O.pkF Z R R R R) R ((e false (andF hc).symm).sub [] R)))))
def yg(a:Int×Int×Bool×Int)(b:Int)(c:Int):Option (Int⊕(Unit⊕Bool)):=
 if(c != 0) then
  some (.inr (.inr (((((a.1==b)&&(a.2.1==c))&&a.2.2.1)&&(a.2.2.2==0)))))
 else
  some (.inl (W (b+1)))
def yz(c:Int×Bool×Int)(a:Bool)(b:Int):Option ((Int×Bool×Int)⊕Int):=
 some (.inl (W (c.1+1),a,b))
def yA(g:PbT)(c:List Int)(a:Int×Bool×Int):Option ((Int×Bool×Int)⊕Int):=
 if((decide (a.1<(c.length:Int)))&&a.2.1) then
  (idx c a.1).bind fun e=>
  (yF g.2.1.1 e).bind fun d=>
  if d then
   (idx c a.1).bind fun f=>
   (ym g.2.1 a.2.2 f).bind fun b=>
   yz a (decide (b≥0)) b
  else
   yz a a.2.1 a.2.2
 else
  some (.inr a.2.2)
def yB(k:PbT)(c:(List StpT))(b:Int×Int×Bool×Int)(i:AutT×Int)(a:Int):Option (Int⊕(Unit⊕Bool)):=
 if decide (a<(c.length:Int)) then
  (slc c 0 (W (a+1))).bind fun j=>
  (y3e j).bind fun d=>
  (iter (yA k d) (0,true,0)).bind fun h=>
  (y3n i.1 d).bind fun e=>
  if(!e) then
   yg b a 1
  else
   (idx c a).bind fun f=>
   if f.2.2.2.2.2.2 then
    yg b a 2
   else
    (idx c a).bind fun g=>
    if(g.2.2.2.2.2.1 != h) then
     yg b a 3
    else
     yg b a 0
 else
  some (.inr (.inl ()))
def yC(e:PbT)(b:List Int)(a:Int):Option (Int⊕(Unit⊕Unit)):=
 if decide (a<(b.length:Int)) then
  (idx b a).bind fun d=>
  (yF e.1.1 d).bind fun c=>
  if(!c) then
   some (.inr (.inr (())))
  else
   some (.inl (W (a+1)))
 else
  some (.inr (.inl ()))
def y2d(p0:((Int×y1C)×(Int×y1C)×Int)×Bool)(p1:List (Int×Int×Int×Int))(p2:Int):Option Bool:=
 (y5m).bind fun k=>
 if(!k) then
  some false
 else
  (y3m p0).bind fun b=>
  (y2A b).bind fun h=>
  if(h != 0) then
   (y1j b ([]:List StpT)).bind fun i=>
   some ((!i.2.2.1)&&(i.2.2.2==h))
  else
   (y2S p1 b).bind fun l=>
   (y4C b l ([]:List Int) false).bind fun m=>
   (y4d m p2).bind fun d=>
   (y1j b d).bind fun a=>
   (y6a ([b.1,b.2.1]:List AutT)).bind fun c=>
   if(c.2 != 0) then
    some false
   else
    (y3e d).bind fun g=>
    (iter (yC b g) 0).bind fun e=>
    match e with
    | .inl o=>
     (iter (yB b d a c) 0).bind fun f=>
     match f with
     | .inl p=>
      some ((((W (a.1+a.2.1))==0)&&(!a.2.2.1))&&(a.2.2.2==0))
     | .inr (j)=>
      some j
    | .inr (n)=>
     some ((((W (a.1+a.2.1))==0)&&(!a.2.2.1))&&(a.2.2.2==9))
theorem y6G{p0:((Int×y1C)×(Int×y1C)×Int)×Bool}{p1:List (Int×Int×Int×Int)}{p2:Int}(hm:y2d p0 p1 p2=some r):
    F0 9 [.a (lx84 p0),.f rE209 p1,.o (lV (.int .u8 p2))] [] (.b r) []:=by
  unfold y2d at hm;refine Fw.mk2 Tryz.func9 Tryz.ntmps9 R (fun C=>?_) R;refine .sr (.bo 0 R (.an R (.seq (.sr (bS hm fun r1 e2 hm=> .c0 (y9J e2) cf46 R (.op (O.not Z R R) R (.ns ?_)))))));refine .cc hm R (fun hm=>?_) fun hm=>?_
  ·refine .sr (.an R (.ret (.seqR ?_)));cases hm;exact .rr [] Tryz.results9 (.tmp R .nil) R I3 trivial
  ·refine .skip (.seqN (.sr (.op (O.lg (l':=(lx84 p0)) ag84 Z R (.B R) R R R) R (bS hm fun s e3 hm=> .op (O.ca (r':= .g [lF qI s.1.1,lI s.1.2.1,lF qI s.1.2.2.1,lF qT s.1.2.2.2,lH 1,lI s.2.1.2.1,lH 2,lH 3,lH 4]) [1,2,3,4] [(0,ROW qI 3 s.2.1.1),(1,ROW qI 3 s.2.1.2.2.1),(2,ROW qT 124 s.2.1.2.2.2),(3,ROW qI 3 s.2.2)] (some 5) (y8L e3) cf47 R R Z R R R R ⟨⟨_,R,I4⟩,⟨_,R,I4⟩,⟨_,R,I4⟩,⟨_,R,I4⟩,trivial⟩ I3 R) R (.al 5 zz37 R (.st ag37.sz R (.ns (.seq (.sr (.op (O.lg (l':=[lF qI s.1.1,lI s.1.2.1,lF qI s.1.2.2.1,lF qT s.1.2.2.2,lH 1,lI s.2.1.2.1,lH 2,lH 3,lH 4]) ag37 Z R (.B R) R R R) R (bS hm fun r3 e4 hm=> .op (O.caZ (y9K e4) cf48 R R Z R ⟨⟨R,.rf,.rf,.rf,.rf,.hr R,.rf,.hr R,.hr R,.hr R,trivial⟩,trivial⟩ (fun _ _ _ _ _ h=>h) R) R (.an R (.sr (.mv R (.bi R (.ns ?_))))))))))))))));refine .cc hm R (fun hm=>?_) fun hm=>?_
   ·refine .sr (.op (O.lg (l':=[lF qI s.1.1,lI s.1.2.1,lF qI s.1.2.2.1,lF qT s.1.2.2.2,lH 1,lI s.2.1.2.1,lH 2,lH 3,lH 4]) ag37 Z R (.B R) R R R) R (bS hm fun r4 e5 hm=> .op (O.caZ (y4G e5) cf49 R R Z R ⟨⟨R,.rf,.rf,.rf,.rf,.hr R,.rf,.hr R,.hr R,.hr R,trivial⟩,⟨R,(.cv .rf (.nf (r:=rE100))),trivial⟩,trivial⟩ (fun _ _ _ _ _ h=>h) R) R (.mv R (.ex R (.ex R (.ex R (.ex R (.sa R (.sa R (.sa R (.an R (.sr (.mv R (.op (O.not Z R R) R (.mv R ?_)))))))))))))));refine .cut 4 (fun (v5:Bool)=>((!r4.2.2.1)&&(r4.2.2.2==r3))=v5) (fun v5=>⟨[(49,.b v5)],[],6⟩) ?_ ?_
    · rintro _ rfl;refine .an R (.ret (.seqR ?_));cases hm;exact .rr [] Tryz.results9 (.tmp R .nil) R I3 trivial
    · intro J6;rcases Bool.eq_false_or_eq_true (!r4.2.2.1) with hc|hc
      · refine .know (d:=45) R hc ?_;exact .op (O.mv (Gu.mk R R) R R) R (.op (O.mv (Gu.mk R R) R R) R (.op (O.bi (Gu.mk R R) R R R R) R (.op (O.pkT Z R R R R) R ((J6 (r4.2.2.2==r3) (andT hc).symm).sub [] R))))
      · refine .know (d:=45) R hc ?_;exact .sk R (.sk R (.sk R (.op (O.pkF Z R R R R) R ((J6 false (andF hc).symm).sub [] R))))
   ·refine .skip (.seqN (.seq (.fz 1 [32,31] [5] R R fR R R (.fz 2 [32,31] [5] R R fR R R (.fz 3 [32,31] [5] R R fR R R (.fz 4 [32,31] [5] R R fR R R ?_))))));refine .sub (τ:=⟨[(7,.q 5 0),(1,.f rE209 p1),(2,.o (lV (.int .u8 p2)))],[(5,.bx 37 (lx37 s))],6⟩) ?_ [] R;refine bS hm fun r7 e6 hm=>bS hm fun r8 e7 hm=>bS hm fun v e8 hm=>?_;refine .drw [(6,[]),(6,[]),(6,[]),(6,[oF,oT,oT]),(6,tT 4),(6,[]),(6,tT 6),(7,tT 7)] [_,_,_,_,_,_,_,_] ⟨[(13,.h 6),(7,.q 5 0)],[(6,ROW rE100 100 v),(5,.bx 37 (lx37 s))],7⟩ ⟨O.lg (l':=(lx37 s)) ag37 Z R (.B R) R R R,O.mv Z R R,O.lg (l':=(lx37 s)) ag37 Z R (.B R) R R R,O.ca0 (r:= .f rE114 r7) (Fw.fz (y8x e6)) cf52 R R Z R R R,O.ca0c (r:= .f rE100 r8) (Fw.fz (y9L e7)) cf51 R R Z R ⟨⟨R,.rf⟩,⟨R,.rf⟩,⟨R,(.c (.nf (r:=qI)) .n)⟩,⟨R,.rf⟩,trivial⟩ R R,O.mv Z R R,O.ca (r':= .h 6) [6] [(0,ROW rE100 100 v)] (some 7) (y9B e8) cf50 R R Z R R R R ⟨⟨_,R,I4⟩,trivial⟩ I3 R,O.as Z R R,trivial⟩ (by kernel_rfl) R ?_;refine .seqN (.sr (.op (O.lg (l':=(lx37 s)) ag37 Z R (.B R) R R R) R (.mv R (bS hm fun e c6 hm=> .op (O.caZ (y4G c6) cf49 R R Z R ⟨⟨R,LnL.rf⟩,⟨R,.hr R,trivial⟩,trivial⟩ (fun _ _ _ _ _ h=>h) R) R (.mv R (.ex R (.ex R (.ex R (.ex R (.sa R (.sa R (.sa R (.an R (.sr (.fa y2n R (.op (O.lg (l':=(lx35 s.1)) ag35 Z R (.B R) R R R) R (.fa y3g R (.op (O.lg (l':=(lx35 s.2.1)) ag35 Z R (.B R) R R R) R (.op (O.bsF (r:=rE35) (zs:=([s.1,s.2.1]:List AutT)) bs66 R R Z R R R (.c (.p .l (.p .k (.p .l .l))) (.c (.p .l (.p .k (.p .l .l))) .n)) R R R) R (bS hm fun j c7 hm=> .op (O.ca (r':= .tp [.a [lH 7,lI j.1.2.1,lH 8,lH 9],.i j.2]) [7,8,9] [(0,ROW qI 3 j.1.1),(1,ROW qI 3 j.1.2.2.1),(2,ROW qT 124 j.1.2.2.2)] (some 10) (yaU c7) cf20 R R Z R R R R ⟨⟨_,R,I4⟩,⟨_,R,I4⟩,⟨_,R,I4⟩,trivial⟩ I3 R) R (.mv R (.ex R (.ex R (.al 10 zz35 R (.st ag35.sz R (.an R (.seq (.sr (.mv R (.bi R ?_))))))))))))))))))))))))))))));refine .ns ?_;refine .cc hm R (fun hm=>?_) fun hm=>?_
    ·refine .sr (.an R (.ret (.seqR ?_)));cases hm;exact .rr [] Tryz.results9 (.tmp R .nil) R I3 trivial
    ·refine .skip (.seqN (.sr (.mv R (bS hm fun Q c8 hm=> .op (O.caY (r':= .h 11) [11] [(0,ROW qI 3 Q)] (some 12) (y5I c8) cf53 R R Z R R ⟨⟨R,.hr R,trivial⟩,trivial⟩ R ⟨.row flr3,trivial⟩ (fun _ _ _ _ h=>h) ⟨⟨_,R,I4⟩,trivial⟩ I3 R) R (.an R (.seq (.sr (.an R (.block (bS hm fun b9 c3 hm=>?_))))))))));refine .cutU (z:= .exit 0) (fun a3=> .inl a3=b9) (fun (a3:Unit)=>⟨[(18,.q 0 0),(17,.i e.2.2.2),(16,.b e.2.2.1),(15,.i e.2.1),(14,.i e.1),(13,.h 4),(7,.q 5 0)],[(0,.bx 35 [lH 1,lI j.1.2.1,lH 2,lH 3]),(1,ROW qI 3 j.1.1),(2,ROW qI 3 j.1.2.2.1),(3,ROW qT 124 j.1.2.2.2),(4,ROW rE100 100 v),(5,.bx 37 (lx37 s))],6⟩) ?_ fun d8=>?_
     · rintro a3 rfl;dsimp only at hm;refine .blkE (.seqN (.seq (.sr (.an R (.block (bS hm fun c1 c4 hm=>?_))))));refine .cutU (z:= .exit 2) (fun a4=> .inl a4=c1) (fun (a4:Unit)=>⟨[(17,.i e.2.2.2),(16,.b e.2.2.1),(15,.i e.2.1),(14,.i e.1)],[],0⟩) ?_ fun d9=>?_
       · rintro a4 rfl;dsimp only at hm;refine .blkE (.seqN (.sr (.mv R (.mv R (.bi R (.bi R (.mv R ?_)))))));refine .cut 3 (fun (a5:Bool)=>(((W (e.1+e.2.1))==0)&&(!e.2.2.1))=a5) (fun a5=>⟨[(186,.b a5),(17,.i e.2.2.2)],[],0⟩) ?_ ?_
         · rintro _ rfl;refine .mv R ?_;refine .cut 3 (fun (a6:Bool)=>((((W (e.1+e.2.1))==0)&&(!e.2.2.1))&&(e.2.2.2==0))=a6) (fun a6=>⟨[(190,.b a6)],[],0⟩) ?_ ?_
           · rintro _ rfl;refine .an R (.ret ?_);cases hm;exact .rr [] Tryz.results9 (.tmp R .nil) R I3 trivial
           · intro b7;rcases Bool.eq_false_or_eq_true (((W (e.1+e.2.1))==0)&&(!e.2.2.1)) with hc|hc
             · refine .know (d:=187) R hc ?_;exact .op (O.mv (Gu.mk R R) R R) R (.op (O.bi (Gu.mk R R) R R R R) R (.op (O.pkT Z R R R R) R ((b7 (e.2.2.2==0) (andT hc).symm).sub [] R)))
             · refine .know (d:=187) R hc ?_;exact .sk R (.sk R (.op (O.pkF Z R R R R) R ((b7 false (andF hc).symm).sub [] R)))
         · intro b6;rcases Bool.eq_false_or_eq_true ((W (e.1+e.2.1))==0) with hc|hc
           · refine .know (d:=183) R hc ?_;exact .op (O.mv (Gu.mk R R) R R) R (.op (O.not (Gu.mk R R) R R) R (.op (O.pkT Z R R R R) R ((b6 (!e.2.2.1) (andT hc).symm).sub [] R)))
           · refine .know (d:=183) R hc ?_;exact .sk R (.sk R (.op (O.pkF Z R R R R) R ((b6 false (andF hc).symm).sub [] R)))
       refine .cutU (z:= .ret) (fun S=> .inr (S)=c1) (fun (S:Bool)=>⟨[(6,.b S)],[],0⟩) ?_ fun e0=>?_
       · rintro S rfl;dsimp only at hm;refine .blkR (.seqR ?_);cases hm;exact .rr [] Tryz.results9 (.tmp R .nil) R I3 trivial
       refine .fz 4 [13] [] R R fR R R (.iter (fun (t:Int)=>⟨[(22,.i t),(18,.q 0 0),(17,.i e.2.2.2),(16,.b e.2.2.1),(15,.i e.2.1),(14,.i e.1),(13,.f rE100 v),(7,.q 4 0)],[(0,.bx 35 [lH 1,lI j.1.2.1,lH 2,lH 3]),(1,ROW qI 3 j.1.1),(2,ROW qI 3 j.1.2.2.1),(3,ROW qT 124 j.1.2.2.2),(4,.bx 37 (lx37 s))],5⟩) c4 [(4,5)] R ?_);intro t b4 hm d3 a1;unfold yB at hm;refine .seq (.sr (.mv R (.mv R (.ln sl91 R (.bi R (.ns ?_))))));refine .cc hm R (fun hm=>?_) fun hm=> .exit (.seqX (.seqX ((d9 _ (a1 _ (oi hm).symm)).sub [] R)));refine .skip (.seqN (.seq (.block (.sr (.mv R (.mv R (.bi R (bS hm fun f6 d0 hm=> .op (O.sh sl91 Z R R d0 R) R (bS hm fun u c9 hm=> .op (O.ca (r':= .h 5) [5] [(0,ROW qI 3 u)] (some 6) (y5I c9) cf53 R R Z R R R R ⟨⟨_,R,I4⟩,trivial⟩ I3 R) R (.an R (.sr (.sa R (.an R (.seq (.sr (.an R (.block (bS hm fun a2 c5 hm=>?_))))))))))))))))));refine .cut1 (z:= .exit 4) a2 (fun (a2:Int)=>⟨[(24,.i a2),(23,.h 0),(22,.i t),(18,.q 1 0),(17,.i e.2.2.2),(16,.b e.2.2.1),(15,.i e.2.1),(14,.i e.1),(13,.f rE100 v),(7,.q 5 0)],[(0,ROW qI 3 u),(1,.bx 35 [lH 2,lI j.1.2.1,lH 3,lH 4]),(2,ROW qI 3 j.1.1),(3,ROW qI 3 j.1.2.2.1),(4,ROW qT 124 j.1.2.2.2),(5,.bx 37 (lx37 s))],6⟩) ?_ fun e1=>?_
       · skip
         refine .blkE (.seqN (.sr (.an R ?_)));refine .join1 (fun (w:Int)=>yg e t w=some b4) (fun w=>⟨[(27,.i w),(22,.i t),(18,.q 0 0),(17,.i e.2.2.2),(16,.b e.2.2.1),(15,.i e.2.1),(14,.i e.1),(13,.f rE100 v),(7,.q 4 0)],[(0,.bx 35 [lH 1,lI j.1.2.1,lH 2,lH 3]),(1,ROW qI 3 j.1.1),(2,ROW qI 3 j.1.2.2.1),(3,ROW qT 124 j.1.2.2.2),(4,.bx 37 (lx37 s))],5⟩) ?_ ?_
         · intro w hm;unfold yg at hm;refine .sr (.mv R (.bi R (.ns ?_)));refine .cc hm R (fun hm=>?_) fun hm=> .skip (.blkN (.seqN (.reg (.mv R (.bi R (.sa R (.nil ((d3 _ (oi hm).symm).sub [] R))))))));refine .sr (.mv R (.mv R (.bi R (.mv R ?_))));refine .cut 4 (fun (a7:Bool)=>((e.1==t)&&(e.2.1==w))=a7) (fun a7=>⟨[(171,.b a7),(17,.i e.2.2.2),(16,.b e.2.2.1)],[],5⟩) ?_ ?_
           · rintro _ rfl;refine .mv R ?_;refine .cut 2 (fun (G:Bool)=>(((e.1==t)&&(e.2.1==w))&&e.2.2.1)=G) (fun G=>⟨[(174,.b G),(17,.i e.2.2.2)],[],5⟩) ?_ ?_
             · rintro _ rfl;refine .mv R ?_;refine .cut 3 (fun (H:Bool)=>((((e.1==t)&&(e.2.1==w))&&e.2.2.1)&&(e.2.2.2==0))=H) (fun H=>⟨[(178,.b H)],[],5⟩) ?_ ?_
               · rintro _ rfl;exact .an R (.ret (.blkR (.seqR (.seqR ((e0 _ (a1 _ (oi hm).symm)).sub [] R)))))
               · intro U;rcases Bool.eq_false_or_eq_true (((e.1==t)&&(e.2.1==w))&&e.2.2.1) with hc|hc
                 · refine .know (d:=175) R hc ?_;exact .op (O.mv (Gu.mk R R) R R) R (.op (O.bi (Gu.mk R R) R R R R) R (.op (O.pkT Z R R R R) R ((U (e.2.2.2==0) (andT hc).symm).sub [] R)))
                 · refine .know (d:=175) R hc ?_;exact .sk R (.sk R (.op (O.pkF Z R R R R) R ((U false (andF hc).symm).sub [] R)))
             · intro T;rcases Bool.eq_false_or_eq_true ((e.1==t)&&(e.2.1==w)) with hc|hc
               · refine .know (d:=172) R hc ?_;exact .op (O.mv (Gu.mk R R) R R) R (.op (O.pkT Z R R R R) R ((T e.2.2.1 (andT hc).symm).sub [] R))
               · refine .know (d:=172) R hc ?_;exact .sk R (.op (O.pkF Z R R R R) R ((T false (andF hc).symm).sub [] R))
           · intro b8;rcases Bool.eq_false_or_eq_true (e.1==t) with hc|hc
             · refine .know (d:=167) R hc ?_;exact .op (O.mv (Gu.mk R R) R R) R (.op (O.mv (Gu.mk R R) R R) R (.op (O.bi (Gu.mk R R) R R R R) R (.op (O.pkT Z R R R R) R ((b8 (e.2.1==w) (andT hc).symm).sub [] R))))
             · refine .know (d:=167) R hc ?_;exact .sk R (.sk R (.sk R (.op (O.pkF Z R R R R) R ((b8 false (andF hc).symm).sub [] R))))
         · intro x;refine .block (.sr (.op (O.lg (l':=[lH 2,lI j.1.2.1,lH 3,lH 4]) ag35 Z R (.B R) R R R) R (.mv R (bS hm fun f0 a8 hm=> .op (O.caZ (y8N a8) cf56 R R Z R ⟨⟨R,.hr R,.rf,.hr R,.hr R,trivial⟩,⟨R,.hr R,trivial⟩,trivial⟩ (fun _ _ _ _ _ h=>h) R) R (.op (O.not Z R R) R (.an R ?_))))));refine .cc hm R (fun hm=> .reg (.sa R (.nil (.blkN ((x _ hm).sub [(0,1),(1,2),(2,3),(3,4),(4,5)] R))))) fun hm=>?_;refine .sr (.mv R (.mv R (bS hm fun f1 b2 hm=> .ix sl91 b2 R (.fe yah R (.le nag4 lv100 R (.an R ?_))))));refine .cc hm R (fun hm=> .reg (.sa R (.nil (.blkN ((x _ hm).sub [(0,1),(1,2),(2,3),(3,4),(4,5)] R))))) fun hm=>?_;refine .sr (.mv R (.mv R (bS hm fun f2 b3 hm=> .ix sl91 b3 R (.fe y9q R (.le nag3 lv100 R (.mv R (.bi R (.an R ?_))))))));exact .cc hm R (fun hm=> .reg (.sa R (.nil (.blkN ((x _ hm).sub [(0,1),(1,2),(2,3),(3,4),(4,5)] R))))) fun hm=> .skip (.blkN ((x _ hm).sub [(0,1),(1,2),(2,3),(3,4),(4,5)] R))
       refine .iter (fun (m:Int×Bool×Int)=>⟨[(26,.i m.1),(25,.b m.2.1),(24,.i m.2.2),(23,.h 0),(22,.i t),(18,.q 1 0),(17,.i e.2.2.2),(16,.b e.2.2.1),(15,.i e.2.1),(14,.i e.1),(13,.f rE100 v),(7,.q 5 0)],[(0,ROW qI 3 u),(1,.bx 35 [lH 2,lI j.1.2.1,lH 3,lH 4]),(2,ROW qI 3 j.1.1),(3,ROW qI 3 j.1.2.2.1),(4,ROW qT 124 j.1.2.2.2),(5,.bx 37 (lx37 s))],6⟩) c5 [(0,5),(1,0),(2,1),(3,2),(4,3),(5,4)] R ?_;intro m b5 hm d4 d1;unfold yA at hm;refine .seq (.sr (.mv R (.mv R (.op (O.lenH sl32 Z R R R) R (.bi R (.mv R ?_))))));refine .cut 2 (fun (I:Bool)=>((decide (m.1<(u.length:Int)))&&m.2.1)=I) (fun I=>⟨[(122,.b I),(26,.i m.1),(25,.b m.2.1),(24,.i m.2.2),(23,.h 0),(22,.i t),(18,.q 1 0),(17,.i e.2.2.2),(16,.b e.2.2.1),(15,.i e.2.1),(14,.i e.1),(13,.f rE100 v),(7,.q 5 0)],[(0,ROW qI 3 u),(1,.bx 35 [lH 2,lI j.1.2.1,lH 3,lH 4]),(2,ROW qI 3 j.1.1),(3,ROW qI 3 j.1.2.2.1),(4,ROW qT 124 j.1.2.2.2),(5,.bx 37 (lx37 s))],6⟩) ?_ ?_
       · rintro _ rfl;refine .ns ?_;refine .cc hm R (fun hm=>?_) fun hm=> .exit (.seqX (.seqX ((e1 _ (d1 _ (oi hm).symm)).sub [] R)));refine .skip (.seqN ?_);refine .join2 (fun (y:Bool) (D:Int)=>yz m y D=some b5) (fun y D=>⟨[(25,.b y),(24,.i D),(26,.i m.1),(23,.h 0),(22,.i t),(18,.q 1 0),(17,.i e.2.2.2),(16,.b e.2.2.1),(15,.i e.2.1),(14,.i e.1),(13,.f rE100 v),(7,.q 5 0)],[(0,ROW qI 3 u),(1,.bx 35 [lH 2,lI j.1.2.1,lH 3,lH 4]),(2,ROW qI 3 j.1.1),(3,ROW qI 3 j.1.2.2.1),(4,ROW qT 124 j.1.2.2.2),(5,.bx 37 (lx37 s))],6⟩) ?_ ?_
         · intro y D hm;unfold yz at hm;exact .reg (.mv R (.bi R (.sa R (.nil ((d4 _ (oi hm).symm).sub [] R)))))
         · intro L;refine .block (.seq ?_);refine .sub (τ:=⟨[(26,.i m.1),(25,.b m.2.1),(24,.i m.2.2),(23,.h 0),(22,.i t),(18,.q 1 0),(17,.i e.2.2.2),(16,.b e.2.2.1),(15,.i e.2.1),(14,.i e.1),(13,.f rE100 v),(7,.q 5 0)],[(0,ROW qI 3 u),(1,.bx 35 [lH 2,lI j.1.2.1,lH 3,lH 4]),(2,ROW qI 3 j.1.1),(3,ROW qI 3 j.1.2.2.1),(4,ROW qT 124 j.1.2.2.2),(5,.bx 37 (lx37 s))],6⟩) ?_ [] R;refine bS hm fun f3 M hm=>bS hm fun d5 a9 hm=>?_;refine .drw [(6,[]),(6,[oT]),(6,[oT,oT]),(6,[]),(6,[]),(6,[oF,oF,oF,oT,oT]),(6,fA 3 (tT 3)),(6,tT 7)] [_,_,_,_,_,_,_,_] ⟨[(132,.b d5),(26,.i m.1),(25,.b m.2.1),(24,.i m.2.2),(23,.h 0),(22,.i t),(18,.q 1 0),(17,.i e.2.2.2),(16,.b e.2.2.1),(15,.i e.2.1),(14,.i e.1),(13,.f rE100 v),(7,.q 5 0)],[(0,ROW qI 3 u),(1,.bx 35 [lH 2,lI j.1.2.1,lH 3,lH 4]),(2,ROW qI 3 j.1.1),(3,ROW qI 3 j.1.2.2.1),(4,ROW qT 124 j.1.2.2.2),(5,.bx 37 (lx37 s))],6⟩ ⟨O.faP y3g Z R R,O.faP yG Z R R,O.ld nag32 Z R (.B R) R R,O.mv Z R R,O.mv Z R R,O.ir sl32 Z R R R M R,O.ld nag3 Z R (.R R M lv3) R R,O.ca0 (y1L a9) cf54 R R Z R R R,trivial⟩ (by kernel_rfl) R ?_;refine .seqN ?_;refine .cc hm R (fun hm=>?_) fun hm=> .skip (.blkN ((L _ _ hm).sub [] R));refine .seq ?_;refine .sub (τ:=⟨[(26,.i m.1),(24,.i m.2.2),(23,.h 0),(22,.i t),(18,.q 1 0),(17,.i e.2.2.2),(16,.b e.2.2.1),(15,.i e.2.1),(14,.i e.1),(13,.f rE100 v),(7,.q 5 0)],[(0,ROW qI 3 u),(1,.bx 35 [lH 2,lI j.1.2.1,lH 3,lH 4]),(2,ROW qI 3 j.1.1),(3,ROW qI 3 j.1.2.2.1),(4,ROW qT 124 j.1.2.2.2),(5,.bx 37 (lx37 s))],6⟩) ?_ [] R;refine bS hm fun f4 N hm=>bS hm fun d6 b0 hm=>?_;refine .drg 6 [(6,[]),(6,[oT]),(6,[]),(6,[]),(6,[]),(6,[oF,oF,oF,oT,oT]),(6,fA 3 (tT 3)),(6,tT 7),(6,tT 8)] [_,_,_,_,_,_,_,_,_] ⟨[(24,.i d6),(26,.i m.1),(23,.h 0),(22,.i t),(18,.q 1 0),(17,.i e.2.2.2),(16,.b e.2.2.1),(15,.i e.2.1),(14,.i e.1),(13,.f rE100 v),(7,.q 5 0)],[(0,ROW qI 3 u),(1,.bx 35 [lH 2,lI j.1.2.1,lH 3,lH 4]),(2,ROW qI 3 j.1.1),(3,ROW qI 3 j.1.2.2.1),(4,ROW qT 124 j.1.2.2.2),(5,.bx 37 (lx37 s))],6⟩ ⟨O.faP y3g Z R R,O.lg (l':=(lx35 s.2.1)) ag35 Z R (.B R) R R R,O.mv Z R R,O.mv Z R R,O.mv Z R R,O.ir sl32 Z R R R N R,O.ld nag3 Z R (.R R N lv3) R R,O.ca0 (yu b0) cf55 R R Z R R R,O.as Z R R,trivial⟩ (by kernel_rfl) R ?_;exact .seqN (.reg (.mv R (.bi R (.sa R (.nil (.blkN ((L _ _ hm).sub [] R)))))))
       · intro V;rcases Bool.eq_false_or_eq_true (decide (m.1<(u.length:Int))) with hc|hc
         · refine .know (d:=120) R hc ?_;exact .op (O.mv (Gu.mk R R) R R) R (.op (O.pkT Z R R R R) R ((V m.2.1 (andT hc).symm).sub [] R))
         · refine .know (d:=120) R hc ?_;exact .sk R (.op (O.pkF Z R R R R) R ((V false (andF hc).symm).sub [] R))
     refine .cutU (z:= .ret) (fun F=> .inr (F)=b9) (fun (F:Unit)=>⟨[(6,.b ((((W (e.1+e.2.1))==0)&&(!e.2.2.1))&&(e.2.2.2==9)))],[],0⟩) ?_ fun c2=>?_
     · rintro F rfl;dsimp only at hm;refine .blkR (.seqR ?_);cases hm;exact .rr [] Tryz.results9 (.tmp R .nil) R I3 trivial
     refine .iter (fun (E:Int)=>⟨[(21,.i E),(20,.h 0),(18,.q 1 0),(17,.i e.2.2.2),(16,.b e.2.2.1),(15,.i e.2.1),(14,.i e.1),(13,.h 5),(7,.q 6 0)],[(0,ROW qI 3 Q),(1,.bx 35 [lH 2,lI j.1.2.1,lH 3,lH 4]),(2,ROW qI 3 j.1.1),(3,ROW qI 3 j.1.2.2.1),(4,ROW qT 124 j.1.2.2.2),(5,ROW rE100 100 v),(6,.bx 37 (lx37 s))],7⟩) c3 [(0,11),(1,10),(2,7),(3,8),(4,9),(5,6),(6,5)] R ?_;intro E e9 hm d2 a0;unfold yC at hm;refine .seq (.sr (.mv R (.mv R (.op (O.lenH sl32 Z R R R) R (.bi R (.ns ?_))))));refine .cc hm R (fun hm=>?_) fun hm=> .exit (.seqX (.seqX ((d8 _ (a0 _ (oi hm).symm)).sub [(0,1),(1,2),(2,3),(3,4),(4,5),(5,6)] R)));refine .skip (.seqN (.seq (.block (.seq ?_))));refine .sub (τ:=⟨[(21,.i E),(20,.h 0),(18,.q 1 0),(17,.i e.2.2.2),(16,.b e.2.2.1),(15,.i e.2.1),(14,.i e.1),(13,.h 5),(7,.q 6 0)],[(0,ROW qI 3 Q),(1,.bx 35 [lH 2,lI j.1.2.1,lH 3,lH 4]),(2,ROW qI 3 j.1.1),(3,ROW qI 3 j.1.2.2.1),(4,ROW qT 124 j.1.2.2.2),(5,ROW rE100 100 v),(6,.bx 37 (lx37 s))],7⟩) ?_ [] R;refine bS hm fun f5 P hm=>bS hm fun d7 b1 hm=>?_;refine .drw [(7,[]),(7,[oT]),(7,[oT,oT]),(7,[]),(7,[]),(7,[oF,oF,oF,oT,oT]),(7,fA 3 (tT 3)),(7,tT 7),(7,tT 8)] [_,_,_,_,_,_,_,_,_] ⟨[(92,.b (!d7)),(21,.i E),(20,.h 0),(18,.q 1 0),(17,.i e.2.2.2),(16,.b e.2.2.1),(15,.i e.2.1),(14,.i e.1),(13,.h 5),(7,.q 6 0)],[(0,ROW qI 3 Q),(1,.bx 35 [lH 2,lI j.1.2.1,lH 3,lH 4]),(2,ROW qI 3 j.1.1),(3,ROW qI 3 j.1.2.2.1),(4,ROW qT 124 j.1.2.2.2),(5,ROW rE100 100 v),(6,.bx 37 (lx37 s))],7⟩ ⟨O.faP y2n Z R R,O.faP yG Z R R,O.ld nag32 Z R (.B R) R R,O.mv Z R R,O.mv Z R R,O.ir sl32 Z R R R P R,O.ld nag3 Z R (.R R P lv3) R R,O.ca0 (y1L b1) cf54 R R Z R R R,O.not Z R R,trivial⟩ (by kernel_rfl) R ?_;refine .seqN ?_;refine .cc hm R (fun hm=>?_) fun hm=> .skip (.blkN (.seqN (.reg (.mv R (.bi R (.sa R (.nil ((d2 _ (oi hm).symm).sub [] R))))))));refine .sr (.mv R (.mv R (.bi R (.bi R (.mv R ?_)))));refine .cut 3 (fun (J:Bool)=>(((W (e.1+e.2.1))==0)&&(!e.2.2.1))=J) (fun J=>⟨[(100,.b J),(17,.i e.2.2.2)],[],7⟩) ?_ ?_
     · rintro _ rfl;refine .mv R ?_;refine .cut 3 (fun (K:Bool)=>((((W (e.1+e.2.1))==0)&&(!e.2.2.1))&&(e.2.2.2==9))=K) (fun K=>⟨[(104,.b K)],[],7⟩) ?_ ?_
       · rintro _ rfl;exact .an R (.ret (.blkR (.seqR (.seqR ((c2 _ (a0 _ (oi hm).symm)).sub [] R)))))
       · intro Y;rcases Bool.eq_false_or_eq_true (((W (e.1+e.2.1))==0)&&(!e.2.2.1)) with hc|hc
         · refine .know (d:=101) R hc ?_;exact .op (O.mv (Gu.mk R R) R R) R (.op (O.bi (Gu.mk R R) R R R R) R (.op (O.pkT Z R R R R) R ((Y (e.2.2.2==9) (andT hc).symm).sub [] R)))
         · refine .know (d:=101) R hc ?_;exact .sk R (.sk R (.op (O.pkF Z R R R R) R ((Y false (andF hc).symm).sub [] R)))
     · intro X;rcases Bool.eq_false_or_eq_true ((W (e.1+e.2.1))==0) with hc|hc
       · refine .know (d:=97) R hc ?_;exact .op (O.mv (Gu.mk R R) R R) R (.op (O.not (Gu.mk R R) R R) R (.op (O.pkT Z R R R R) R ((X (!e.2.2.1) (andT hc).symm).sub [] R)))
       · refine .know (d:=97) R hc ?_;exact .sk R (.sk R (.op (O.pkF Z R R R R) R ((X false (andF hc).symm).sub [] R)))
end
end Go.Proofs.YtecmobjeeonmaaaGreatDoor
namespace Go.Proofs.YtecmobjeeonmaaaGreatDoor
open Go.RowKit Go.Shelf
structure St where
 s:Int
 p:Int
 e:Int
def St.cells(x:St):List Value:=[.int .i64 x.s,.int .i64 x.p,.int .i64 x.e]
end Go.Proofs.YtecmobjeeonmaaaGreatDoor
namespace Go.Proofs.YtecmobjeeonmaaaGreatDoor
def wval(u:List Int):Int:=u.foldl (fun acc e=>33*acc+e+1) 0
theorem ybd(u:List Int)(e:Int):wval (u++[e])=33*wval u+e+1:=by simp [wval,List.foldl_append]
def Evs(u:List Int):Prop:=∀e∈u,0≤e∧e<32
theorem Evs.nil :Evs []:=fun e h=>by cases h
theorem Evs.snoc{u:List Int}{e:Int}(h:Evs u)(h0:0≤e)(h1:e<32):Evs (u++[e]):=by
 intro x hx;rcases List.mem_append.1 hx with h2|h2
 ·exact h x h2
 ·rw [List.mem_singleton.1 h2];exact⟨h0,h1⟩
theorem Evs.of_snoc{u:List Int}{e:Int}(h:Evs (u++[e])):Evs u∧0≤e∧e<32:=
 ⟨fun x hx=>h x (List.mem_append_left _ hx),h e (by simp)⟩
theorem yfK{α:Type}{P:List α→Prop}(h0:P [])(h1:∀u e,P u→P (u++[e]))(u:List α):P u:=by
 have h2:∀n (u:List α),u.length=n→P u:=by
  intro n
  induction n with
  | zero=>intro u hu;rw [List.eq_nil_of_length_eq_zero hu];exact h0
  | succ n ih=>
   intro u hu;rcases List.eq_nil_or_concat u with rfl|⟨l,b,rfl⟩
   ·cases hu
   ·have hl:l.length=n:=by simpa using hu
    simpa using h1 l b (ih l hl)
 exact h2 _ u rfl
theorem ydD(u:List Int):Evs u→0≤wval u:=by
 refine yfK (P:=fun u=>Evs u→0≤wval u) (fun _=>Int.le_refl 0) (fun u e ih h=>?_) u;have h1:=h.of_snoc;have:=ih h1.1;rw [ybd];omega
def Leads(es:List Ed)(perm:Ed→Bool)(s:Int):List Int→Int→Prop
 | [],t=>s=t
 | e::u,t=>∃x∈es,x.f=s∧x.e=e∧perm x=true∧Leads es perm x.t u t
theorem Leads.snoc{es:List Ed}{perm:Ed→Bool}:∀{u:List Int} {s t:Int},Leads es perm s u t→∀{x:Ed},x∈es→x.f=t→perm x=true→Leads es perm s (u++[x.e]) x.t
 | [],s,t,h,x,hx,hf,hp=>⟨x,hx,by rw [hf];exact h.symm,rfl,hp,rfl⟩
 | e::u,s,t,⟨y,hy,h1,h2,h3,h4⟩,x,hx,hf,hp=>⟨y,hy,h1,h2,h3,h4.snoc hx hf hp⟩
theorem Leads.of_snoc{es:List Ed}{perm:Ed→Bool}{e:Int}:∀{u:List Int} {s t:Int},Leads es perm s (u++[e]) t→∃x∈es,Leads es perm s u x.f∧x.e=e∧x.t=t∧perm x=true
 | [],s,t,⟨y,hy,h1,h2,h3,h4⟩=>⟨y,hy,h1.symm,h2,h4,h3⟩
 | a::u,s,t,⟨y,hy,h1,h2,h3,h4⟩=>by
  obtain⟨x,hx,g1,g2,g3,g4⟩:=Leads.of_snoc (u:=u) h4;exact⟨x,hx,⟨y,hy,h1,h2,h3,g1⟩,g2,g3,g4⟩
def EvEs(es:List Ed):Prop:=∀x∈es,0≤x.e∧x.e<32
structure Found (es:List Ed) (perm:Ed→Bool) (s:Int) (L:List (List Int×Int)) (b:Int):Prop where
 lead:∀r∈L,Leads es perm s r.1 r.2
 sorted:∀j k:Nat,j<k→∀r r':List Int×Int,L[j]? =some r→L[k]? =some r'→wval r.1<wval r'.1
 bd:∀r∈L,wval r.1≤b
section
variable{es:List Ed}{perm:Ed→Bool}{s:Int}{L:List (List Int×Int)}{b:Int}{m i:Nat}
theorem Found.mono(h:Found es perm s L b){j k:Nat}(hjk:j≤k){r r':List Int×Int}(hj:L[j]? =some r)(hk:L[k]? =some r'):wval r.1≤wval r'.1:=by
 by_cases e:j=k
 ·subst e;rw [hj] at hk;cases hk;exact Int.le_refl _
 ·exact Int.le_of_lt (h.sorted j k (by omega) r r' hj hk)
end
def edLt(x y:Ed):Prop:=x.f<y.f∨(x.f=y.f∧x.e<y.e)
def yc7(es:List Ed):Prop:=es.Pairwise edLt
def ybo(es:List Ed)(tg:List Int):Nat→Int→Prop
 | 0,s=>s∈tg
 | k+1,s=>∃x∈es,x.f=s∧ybo es tg k x.t
end Go.Proofs.YtecmobjeeonmaaaGreatDoor
