/- Parts of the proof, without what nothing here names. -/
import Derived.Test.YtecmobjeeonmaaaGreatDoorProg
import Derived.Lib.AppendZeros
import Derived.Test.YtecmobjeeonmaaaGreatDoorQo4
set_option maxRecDepth 100000
set_option maxRecDepth 100000
set_option maxHeartbeats 8000000
namespace Go.Proofs.YtecmobjeeonmaaaGreatDoor
open Go Go.RowKit
noncomputable section
variable{p0:Bool}{p1 p2:Int}
def y2k(a:Int×List Int)(b:Int)(c:Bool):Option (Int⊕(List Int)):=
 if c then
  (app a.2 ([a.1]:List Int)).bind fun d=>
  some (.inr d)
 else
  some (.inl (W (b+1)))
def y3k(d:PbT)(e:AutT×List (List Int)×Int)(a:Int×List Int)(b:Int):Option (Int⊕(List Int)):=
 if decide (b<(d.2.2.length:Int)) then
  (idx d.2.2 b).bind fun c=>
  (idx e.2.1 a.1).bind fun h=>
  (idx h 0).bind fun i=>
  (y4o d.1 i c).bind fun f=>
  if decide (f≥0) then
   (y4o e.1 a.1 c).bind fun g=>
   y2k a b (decide (g<0))
  else
   y2k a b false
 else
  some (.inr a.2)
def y2l(d:PbT)(c:AutT×List (List Int)×Int)(a:Int×List Int):Option ((Int×List Int)⊕(List Int)):=
 if decide (a.1<(c.2.1.length:Int)) then
  (iter (y3k d c a) 0).bind fun b=>
  some (.inl (W (a.1+1),b))
 else
  some (.inr a.2)
def y6j(p0:(Int×y1d)×(Int×y1d)×Int)(p1:Bool):Option PbT:=
 (y6g p0).bind fun a=>
 if(!p1) then
  some a
 else
  (yo ([a.1,a.2.1]:List AutT)).bind fun c=>
  (iter (y2l a c) (0,([]:List Int))).bind fun b=>
  (y3w c.1 b a.2.2).bind fun d=>
  some (a.1,d.1.2.2.1,a.2.2)
theorem yat{p0:(Int×y1d)×(Int×y1d)×Int}{p1:Bool}{r:PbT}(hm:y6j p0 p1=some r):
    F0 16 [.a (lx30 p0),.b p1] [] (.g [lF qI r.1.1,lI r.1.2.1,lF qI r.1.2.2.1,lF qT r.1.2.2.2,lH 0,lI r.2.1.2.1,lH 1,lH 2,lH 3]) [rwI r.2.1.1,rwI r.2.1.2.2.1,ROW qT 124 r.2.1.2.2.2,rwI r.2.2]:=by
  refine Fw.mk2 Tryz.func16 Tryz.ntmps16 R (fun C=>?_) R;refine .sr (.bo 0 R (.al 1 zz37 R (.nr (.lg (lx30 p0) ag30 R (.B R) R (bS hm fun d U hm=> .op (O.ca (r':= .tp [.a [lH 2,lI d.1.2.1,lH 3,lH 4],.a [lH 5,lI d.2.1.2.1,lH 6,lH 7],.h 8]) [2,3,4,5,6,7,8] [(0,rwI d.1.1),(1,rwI d.1.2.2.1),(2,ROW qT 124 d.1.2.2.2),(3,rwI d.2.1.1),(4,rwI d.2.1.2.2.1),(5,ROW qT 124 d.2.1.2.2.2),(6,rwI d.2.2)] (some 9) (yas U) cf72 R R Z R R R R ⟨⟨_,R,I4⟩,⟨_,R,I4⟩,⟨_,R,I4⟩,⟨_,R,I4⟩,⟨_,R,I4⟩,⟨_,R,I4⟩,⟨_,R,I4⟩,trivial⟩ I3 R) R (.mv R (.ex R (.ex R (.ex R (.al 9 zz35 R (.al 10 zz35 R (.st ag35.sz R (.st ag35.sz R (.an R (.sr (.lg [lH 2,lI d.1.2.1,lH 3,lH 4] ag35 R (.B R) R (.lg [lH 5,lI d.2.1.2.1,lH 6,lH 7] ag35 R (.B R) R (.mv R (.bu [lH 2,lI d.1.2.1,lH 3,lH 4,lH 5,lI d.2.1.2.1,lH 6,lH 7,lH 8] pl37 R (.al 11 zz37 R (.st ag37.sz R (.ns (.seq (.sr (.mv R (.no R (.ns ?_)))))))))))))))))))))))))));refine .cc hm R (fun hm=>?_) fun hm=>?_
  ·refine .sr (.lg [lH 2,lI d.1.2.1,lH 3,lH 4,lH 5,lI d.2.1.2.1,lH 6,lH 7,lH 8] ag37 R (.B R) R (.st ag37.sz R (.ns (.ret (.seqR (.fz 2 [] [1,9,11] R R fR R R (.fz 3 [] [1,9,11] R R fR R R (.fz 4 [] [1,9,11] R R fR R R ?_))))))));cases hm;exact .rr [5,6,7,8] Tryz.results16 (.cell R R ag37 R .nil) R I3 ⟨⟨_,R,I4⟩,⟨_,R,I4⟩,⟨_,R,I4⟩,⟨_,R,I4⟩,trivial⟩
  ·refine .skip (.seqN (.sr (.lg [lH 2,lI d.1.2.1,lH 3,lH 4] ag35 R (.B R) R (.lg [lH 5,lI d.2.1.2.1,lH 6,lH 7] ag35 R (.B R) R (.fz 2 [32] [9,11] R R fR R R (.fz 3 [32] [9,11] R R fR R R (.fz 4 [32] [9,11] R R fR R R (.fz 5 [33] [10,11] R R fR R R (.fz 6 [33] [10,11] R R fR R R (.fz 7 [33] [10,11] R R fR R R (.op (O.bsF (r:=rE35) (zs:=([d.1,d.2.1]:List AutT)) bs66 R R Z R R R (.c (.p .l (.p .k (.p .l .l))) (.c (.p .l (.p .k (.p .l .l))) .n)) R R R) R (bS hm fun e V hm=> .op (O.ca (r':= .tp [.a [lH 12,lI e.1.2.1,lH 13,lH 14],.h 15,.i e.2.2]) [12,13,14,15] [(0,rwI e.1.1),(1,rwI e.1.2.2.1),(2,ROW qT 124 e.1.2.2.2),(3,ROW (rL qI) 32 e.2.1)] (some 16) (y6H V) cf32 R R Z R R R R ⟨⟨_,R,I4⟩,⟨_,R,I4⟩,⟨_,R,I4⟩,⟨_,R,I4⟩,trivial⟩ I3 R) R (.mv R (.ex R (.ex R (.ex R (.al 16 zz35 R (.st ag35.sz R (.sa R (.an R (.sr (.an R (.seq (.sr (.an R (.block (bS hm fun y H hm=>?_)))))))))))))))))))))))))));refine .cut1 (z:= .exit 0) y (fun (y:List Int)=>⟨[(12,.h 0),(9,.q 1 0),(8,.q 5 0),(7,.h 6),(4,.q 7 0)],[(0,rwI y),(1,.bx 35 [lH 2,lI e.1.2.1,lH 3,lH 4]),(2,rwI e.1.1),(3,rwI e.1.2.2.1),(4,ROW qT 124 e.1.2.2.2),(5,.bx 37 [lF qI d.1.1,lI d.1.2.1,lF qI d.1.2.2.1,lF qT d.1.2.2.2,lF qI d.2.1.1,lI d.2.1.2.1,lF qI d.2.1.2.2.1,lF qT d.2.1.2.2.2,lH 6]),(6,rwI d.2.2),(7,.bx 37 [lN,lI 0,lN,lN,lN,lI 0,lN,lN,lN])],8⟩) ?_ fun T=>?_
   · skip
     refine .blkE (.seqN (.sr (.lg [lH 2,lI e.1.2.1,lH 3,lH 4] ag35 R (.B R) R (.mv R (.mv R (bS hm fun j J hm=> .op (O.caY (r':= .tp [.a [lH 8,lH 9,lH 10,lI j.1.2.1,lH 11,lI j.1.2.2.1.2.1,lH 12,lH 13,lH 14],.i j.2]) [8,9,10,11,12,13,14] [(0,rwI j.1.1.1),(1,rwI j.1.1.2.1),(2,ROW rE286 286 j.1.1.2.2),(3,rwI j.1.2.2.1.1),(4,rwI j.1.2.2.1.2.2.1),(5,ROW qT 124 j.1.2.2.1.2.2.2),(6,rwI j.1.2.2.2)] (some 15) (yaa J) cf74 R R Z R R ⟨⟨R,.hr R,.rf,.hr R,.hr R,trivial⟩,⟨R,.hr R,trivial⟩,⟨R,.hr R,trivial⟩,trivial⟩ R ⟨.row flr3,.row flr3,.row yhe,.row flr3,.row flr3,.row y4Q,.row flr3,trivial⟩ (fun _ _ _ _ h=>h) ⟨⟨_,R,I4⟩,⟨_,R,I4⟩,⟨_,R,I4⟩,⟨_,R,I4⟩,⟨_,R,I4⟩,⟨_,R,I4⟩,⟨_,R,I4⟩,trivial⟩ I3 R) R (.mv R (.ex R (.ex R (.al 15 zz131 R (.st ag131.sz R (.an R (.sr (.fa yfS R (.lg [lH 11,lI j.1.2.2.1.2.1,lH 12,lH 13] ag35 R (.B R) R (.fa y5Z R (.st ag35.sz R (.nr (.lg [lF qI d.1.1,lI d.1.2.1,lF qI d.1.2.2.1,lF qT d.1.2.2.2,lH 11,lI j.1.2.2.1.2.1,lH 12,lH 13,lH 6] ag37 R (.B R) R (.st ag37.sz R (.ns (.ret ?_))))))))))))))))))))));cases hm;exact .rr [11,12,13,6] Tryz.results16 (.cell R R ag37 R .nil) R I3 ⟨⟨_,R,I4⟩,⟨_,R,I4⟩,⟨_,R,I4⟩,⟨_,R,I4⟩,trivial⟩
   refine .nlg qI 3 12 0 R R (.iter (fun (f:Int×List Int)=>⟨[(13,.i f.1),(12,.h 0),(10,.h 1),(9,.q 2 0),(8,.q 6 0),(7,.h 7),(5,.q 8 0),(4,.q 9 0)],[(0,rwI f.2),(1,ROW (rL qI) 32 e.2.1),(2,.bx 35 [lH 3,lI e.1.2.1,lH 4,lH 5]),(3,rwI e.1.1),(4,rwI e.1.2.2.1),(5,ROW qT 124 e.1.2.2.2),(6,.bx 37 [lF qI d.1.1,lI d.1.2.1,lF qI d.1.2.2.1,lF qT d.1.2.2.2,lF qI d.2.1.1,lI d.2.1.2.1,lF qI d.2.1.2.2.1,lF qT d.2.1.2.2.2,lH 7]),(7,rwI d.2.2),(8,.bx 35 (lx35 d.1)),(9,.bx 37 [lN,lI 0,lN,lN,lN,lI 0,lN,lN,lN])],10⟩) H [(0,17),(1,15),(2,16),(3,12),(4,13),(5,14),(6,11),(7,8),(8,9),(9,1)] R ?_);intro f Y hm Q P;refine .seq (.sr (.mv R (.mv R (.lh sl53 R (.bi R (.ns ?_))))));refine .cc hm R (fun hm=>?_) fun hm=> .exit (.seqX (.seqX ((T _ (P _ (oj hm))).sub [(1,2),(2,3),(3,4),(4,5),(5,6),(6,7),(7,9)] R)));refine .skip (.seqN (.seq (.block (.sr (.mv R (.lh sl32 R (.mv R (.ns (.block (bS hm fun D I hm=>?_))))))))));refine .cut1 (z:= .exit 2) D (fun (D:List Int)=>⟨[(12,.h 0),(13,.i f.1),(10,.h 1),(9,.q 2 0),(8,.q 6 0),(7,.h 7),(5,.q 8 0),(4,.q 9 0)],[(0,rwI D),(1,ROW (rL qI) 32 e.2.1),(2,.bx 35 [lH 3,lI e.1.2.1,lH 4,lH 5]),(3,rwI e.1.1),(4,rwI e.1.2.2.1),(5,ROW qT 124 e.1.2.2.2),(6,.bx 37 [lF qI d.1.1,lI d.1.2.1,lF qI d.1.2.2.1,lF qT d.1.2.2.2,lF qI d.2.1.1,lI d.2.1.2.1,lF qI d.2.1.2.2.1,lF qT d.2.1.2.2.2,lH 7]),(7,rwI d.2.2),(8,.bx 35 (lx35 d.1)),(9,.bx 37 [lN,lI 0,lN,lN,lN,lI 0,lN,lN,lN])],10⟩) ?_ fun G=>?_
   · skip
     exact .blkE (.blkN (.seqN (.reg (.mv R (.bi R (.sa R (.nil ((Q _ (oj hm)).sub [] R))))))))
   refine .iter (fun (m:Int)=>⟨[(47,.i m),(46,.i d.2.2.length),(45,.h 0),(13,.i f.1),(12,.h 1),(10,.h 2),(9,.q 3 0),(8,.q 7 0),(7,.h 0),(5,.q 8 0),(4,.q 9 0)],[(0,rwI d.2.2),(1,rwI f.2),(2,ROW (rL qI) 32 e.2.1),(3,.bx 35 [lH 4,lI e.1.2.1,lH 5,lH 6]),(4,rwI e.1.1),(5,rwI e.1.2.2.1),(6,ROW qT 124 e.1.2.2.2),(7,.bx 37 [lF qI d.1.1,lI d.1.2.1,lF qI d.1.2.2.1,lF qT d.1.2.2.2,lF qI d.2.1.1,lI d.2.1.2.1,lF qI d.2.1.2.2.1,lF qT d.2.1.2.2.2,lH 0]),(8,.bx 35 (lx35 d.1)),(9,.bx 37 [lN,lI 0,lN,lN,lN,lI 0,lN,lN,lN])],10⟩) I [(0,7),(1,0),(2,1),(3,2),(4,3),(5,4),(6,5),(7,6)] R ?_;intro m F hm S w;refine .sr (.bi R (.ns (.seq ?_)));refine .cc hm R (fun hm=>?_) fun hm=> .exit (.seqX (.seqX ((G _ (w _ (oj hm))).sub [(0,1),(1,2),(2,3),(3,4),(4,5),(5,6),(6,7),(7,0)] R)));refine .skip (.seqN (.seq (.block (.sr (bS hm fun X u hm=> .op (O.ir sl32 Z R R R u R) R (.op (O.ld nag3 Z R (.R R u lv3) R R) R (.an R ?_)))))));refine .join1 (fun (s:Bool)=>y2k f m s=some F) (fun s=>⟨[(67,.b s),(47,.i m),(46,.i d.2.2.length),(45,.h 0),(13,.i f.1),(12,.h 1),(10,.h 2),(9,.q 3 0),(8,.q 7 0),(7,.h 0),(5,.q 8 0),(4,.q 9 0)],[(0,rwI d.2.2),(1,rwI f.2),(2,ROW (rL qI) 32 e.2.1),(3,.bx 35 [lH 4,lI e.1.2.1,lH 5,lH 6]),(4,rwI e.1.1),(5,rwI e.1.2.2.1),(6,ROW qT 124 e.1.2.2.2),(7,.bx 37 [lF qI d.1.1,lI d.1.2.1,lF qI d.1.2.2.1,lF qT d.1.2.2.2,lF qI d.2.1.1,lI d.2.1.2.1,lF qI d.2.1.2.2.1,lF qT d.2.1.2.2.2,lH 0]),(8,.bx 35 (lx35 d.1)),(9,.bx 37 [lN,lI 0,lN,lN,lN,lI 0,lN,lN,lN])],10⟩) ?_ ?_
   · intro s hm;exact .cc hm R (fun hm=> .sr (.mv R (.mv R (.bf (r:=qI) ([f.1]:List Int) bs32 R (.c .k .n) R (bS hm fun a1 M hm=> .op (O.ap 10 Tryz.underlying32 el3 R R Z R R (.fr R) M R) R (.an R (.exit (.blkX R (.seqX (.seqX ((G _ (w _ (oj hm))).sub [(0,10),(1,2),(2,3),(3,4),(4,5),(5,6),(6,7),(7,0)] R))))))))))) fun hm=> .skip (.blkN (.seqN (.reg (.bi R (.mv R (.nil ((S _ (oj hm)).sub [] R)))))))
   · intro t;refine .sub (τ:=⟨[(15,.i X),(47,.i m),(46,.i d.2.2.length),(45,.h 0),(13,.i f.1),(12,.h 1),(10,.h 2),(9,.q 3 0),(8,.q 7 0),(7,.h 0),(5,.q 8 0),(4,.q 9 0)],[(0,rwI d.2.2),(1,rwI f.2),(2,ROW (rL qI) 32 e.2.1),(3,.bx 35 [lH 4,lI e.1.2.1,lH 5,lH 6]),(4,rwI e.1.1),(5,rwI e.1.2.2.1),(6,ROW qT 124 e.1.2.2.2),(7,.bx 37 [lF qI d.1.1,lI d.1.2.1,lF qI d.1.2.2.1,lF qT d.1.2.2.2,lF qI d.2.1.1,lI d.2.1.2.1,lF qI d.2.1.2.2.1,lF qT d.2.1.2.2.2,lH 0]),(8,.bx 35 (lx35 d.1)),(9,.bx 37 [lN,lI 0,lN,lN,lN,lI 0,lN,lN,lN])],10⟩) ?_ [] R;refine bS hm fun a2 v hm=>bS hm fun a3 N hm=>bS hm fun a0 K hm=> .drP 10 [(10,[]),(10,[]),(10,[]),(10,[oF,oT,oT]),(10,fA 1 (tT 3)),(10,fA 1 (tT 4)),(10,fA 1 (tT 5)),(10,[]),(10,tT 8),(10,tT 9)] [_,_,_,_,_,_,_,_,_,_] ⟨O.lg (l':=(lx35 d.1)) ag35 Z R (.B R) R R R,O.mv Z R R,O.mv Z R R,O.ir sl53 Z R R R v R,O.ld nag32 Z R (.R R v lv32) R R,O.ix sl32 Z R R N R,O.ld nag3 Z R (.E lv3) R R,O.mv Z R R,O.ca0 (y8d K) cf73 R R Z R R R,O.bi Z R R R R,trivial⟩ fun x=>?_;rcases ifS hm with ⟨o,hm⟩|⟨o,hm⟩
     · skip
       exact bS hm fun W L hm=> .drF x [(10,tT 10),(10,tT 11),(10,tT 11),(10,tT 11),(10,tT 14),(10,tT 15),(10,tT 16)] [_,_,_,_,_,_,_] ⟨[(67,.b (decide (W<0))),(47,.i m),(46,.i d.2.2.length),(45,.h 0),(13,.i f.1),(12,.h 1),(10,.h 2),(9,.q 3 0),(8,.q 7 0),(7,.h 0),(5,.q 8 0),(4,.q 9 0)],[(0,rwI d.2.2),(1,rwI f.2),(2,ROW (rL qI) 32 e.2.1),(3,.bx 35 [lH 4,lI e.1.2.1,lH 5,lH 6]),(4,rwI e.1.1),(5,rwI e.1.2.2.1),(6,ROW qT 124 e.1.2.2.2),(7,.bx 37 [lF qI d.1.1,lI d.1.2.1,lF qI d.1.2.2.1,lF qT d.1.2.2.2,lF qI d.2.1.1,lI d.2.1.2.1,lF qI d.2.1.2.2.1,lF qT d.2.1.2.2.2,lH 0]),(8,.bx 35 (lx35 d.1)),(9,.bx 37 [lN,lI 0,lN,lN,lN,lI 0,lN,lN,lN])],10⟩ ⟨O.kn (O.mv Z R R) o,O.lg (l':=[lH 4,lI e.1.2.1,lH 5,lH 6]) ag35 (Gu.mk R R) R (.B R) R R R,O.mv (Gu.mk R R) R R,O.mv (Gu.mk R R) R R,O.caZ (y8d L) cf73 R R (Gu.mk R R) R ⟨⟨R,.hr R,.rf,.hr R,.hr R,trivial⟩,⟨R,LnL.rf⟩,⟨R,LnL.rf⟩,trivial⟩ (fun _ _ _ _ _ h=>h) R,O.bi (Gu.mk R R) R R R R,O.pkT Z R R R R,trivial⟩ (by kernel_rfl) R ((t _ hm).sub [] R)
     · skip
       exact .drF x [(10,tT 10),(10,tT 11),(10,tT 11),(10,tT 11),(10,tT 14),(10,tT 15),(10,tT 16)] [_,_,_,_,_,_,_] ⟨[(67,.b false),(47,.i m),(46,.i d.2.2.length),(45,.h 0),(13,.i f.1),(12,.h 1),(10,.h 2),(9,.q 3 0),(8,.q 7 0),(7,.h 0),(5,.q 8 0),(4,.q 9 0)],[(0,rwI d.2.2),(1,rwI f.2),(2,ROW (rL qI) 32 e.2.1),(3,.bx 35 [lH 4,lI e.1.2.1,lH 5,lH 6]),(4,rwI e.1.1),(5,rwI e.1.2.2.1),(6,ROW qT 124 e.1.2.2.2),(7,.bx 37 [lF qI d.1.1,lI d.1.2.1,lF qI d.1.2.2.1,lF qT d.1.2.2.2,lF qI d.2.1.1,lI d.2.1.2.1,lF qI d.2.1.2.2.1,lF qT d.2.1.2.2.2,lH 0]),(8,.bx 35 (lx35 d.1)),(9,.bx 37 [lN,lI 0,lN,lN,lN,lI 0,lN,lN,lN])],10⟩ ⟨O.kn (O.mv Z R R) o,O.skip R R R R,O.skip R R R R,O.skip R R R R,O.skip R R R R,O.skip R R R R,O.pkF Z R R R R,trivial⟩ (by kernel_rfl) R ((t _ hm).sub [] R)
def y3x(a:Bool):Option Bool:=
 some a
def y6A(p0:TskT)(p1:Int)(p2:Int)(p3:Int):Option Bool:=
 (y2B p0.2.2.1 p1 p2).bind fun a=>
 if(a != (-1)) then
  (y2B p0.2.2.1 p1 p3).bind fun e=>
  if(e != (-1)) then
   (y2B p0.2.2.1 a p3).bind fun f=>
   if(f==(-1)) then
    (idx p0.2.2.2.1 a).bind fun c=>
    (idx c 0).bind fun d=>
    (y2B p0.1 d p3).bind fun b=>
    y3x (b != (-1))
   else
    y3x false
  else
   y3x false
 else
  y3x false
theorem yaX{p0:TskT}{p3:Int}{r:Bool}(hm:y6A p0 p1 p2 p3=some r):
  F0 90 [.o (lQ 155 (lx155 p0) 0),.i p1,.i p2,.i p3] [] (.b r) []:=by
 refine Fw.mk2 Tryz.func90 Tryz.ntmps90 R (fun C=>?_) R;refine .sr (.an R (.sr (.mv R (.op (O.nc .Q Z R R) R (.fq yaO R (.lg (lx141 p0.2.2.1) ag141 R .Q R (.mv R (.mv R (bS hm fun u p hm=> .c0 (y4E p) cf150 R (.an R ?_))))))))));refine .join1 (fun (g:Bool)=>y3x g=some r) (fun g=>⟨[(8,.b g)],[],0⟩) ?_ ?_
 ·intro g hm;refine .ret ?_;cases hm;exact .rr [] Tryz.results90 (.tmp R .nil) R I3 trivial
 ·intro c;refine .sub (τ:=⟨[(9,.i u),(0,.o (lQ 155 (lx155 p0) 0)),(1,.i p1),(3,.i p3)],[],0⟩) ?_ [] R;refine .drP 2 [(0,[]),(0,[oT])] [_,_] ⟨O.mv Z R R,O.bi Z R R R R,trivial⟩ fun h=>?_;rcases ifS hm with ⟨d,hm⟩|⟨d,hm⟩
  ·skip
   refine bS hm fun x q hm=> .drX h 12 [(0,[oT,oT]),(0,tT 3),(0,tT 4),(0,tT 5),(0,tT 6),(0,tT 3),(0,tT 3),(0,tT 9),(0,tT 10),(0,tT 11)] [_,_,_,_,_,_,_,_,_,_] ⟨O.kn (O.mv Z R R) d,O.mv (Gu.mk R R) R R,O.nc .Q (Gu.mk R R) R R,O.faQ yaO (Gu.mk R R) R R,O.lg (l':=(lx141 p0.2.2.1)) ag141 (Gu.mk R R) R .Q R R R,O.mv (Gu.mk R R) R R,O.mv (Gu.mk R R) R R,O.ca0 (y4E q) cf150 R R (Gu.mk R R) R R R,O.bi (Gu.mk R R) R R R R,O.pkT Z R R R R,trivial⟩ (by kernel_rfl) fun j=>?_;rcases ifS hm with ⟨e,hm⟩|⟨e,hm⟩
   ·skip
    refine bS hm fun y s hm=> .drX j 22 [(0,tT 12),(0,tT 13),(0,tT 14),(0,tT 15),(0,tT 16),(0,tT 13),(0,tT 13),(0,tT 19),(0,tT 20),(0,tT 21)] [_,_,_,_,_,_,_,_,_,_] ⟨O.kn (O.mv Z R R) e,O.mv (Gu.mk R R) R R,O.nc .Q (Gu.mk R R) R R,O.faQ yaO (Gu.mk R R) R R,O.lg (l':=(lx141 p0.2.2.1)) ag141 (Gu.mk R R) R .Q R R R,O.mv (Gu.mk R R) R R,O.mv (Gu.mk R R) R R,O.ca0 (y4E s) cf150 R R (Gu.mk R R) R R R,O.bi (Gu.mk R R) R R R R,O.pkT Z R R R R,trivial⟩ (by kernel_rfl) fun f=>?_;rcases ifS hm with ⟨a,hm⟩|⟨a,hm⟩
    ·skip
     exact bS hm fun v m hm=>bS hm fun w n hm=>bS hm fun t k hm=> .drF f [(0,tT 22),(0,tT 23),(0,tT 24),(0,tT 25),(0,tT 26),(0,tT 23),(0,tA 23 (fA 4 (tT 1))),(0,tA 23 (fA 4 (tT 2))),(0,tA 23 (fA 4 (tT 3))),(0,tT 23),(0,tA 23 (fA 4 (tT 5))),(0,tA 23 (fA 4 (tT 6))),(0,tA 23 (fA 4 (tT 7))),(0,tA 23 (fA 4 (tT 8))),(0,tT 23),(0,tT 37),(0,tT 38),(0,tT 39),(0,tT 40)] [_,_,_,_,_,_,_,_,_,_,_,_,_,_,_,_,_,_,_] ⟨[(8,.b (t != (-1)))],[],0⟩ ⟨O.kn (O.mv Z R R) a,O.mv (Gu.mk R R) R R,O.nc .Q (Gu.mk R R) R R,O.faQ yfL (Gu.mk R R) R R,O.lg (l':=(lx141 p0.1)) ag141 (Gu.mk R R) R .Q R R R,O.mv (Gu.mk R R) R R,O.nc .Q (Gu.mk R R) R R,O.faQ yaM (Gu.mk R R) R R,O.ld nag53 (Gu.mk R R) R .Q R R,O.mv (Gu.mk R R) R R,O.ix sl53 (Gu.mk R R) R R m R,O.ld nag32 (Gu.mk R R) R (.E lv32) R R,O.ix sl32 (Gu.mk R R) R R n R,O.ld nag3 (Gu.mk R R) R (.E lv3) R R,O.mv (Gu.mk R R) R R,O.ca0 (y4E k) cf150 R R (Gu.mk R R) R R R,O.bi (Gu.mk R R) R R R R,O.pkT Z R R R R,O.as Z R R,trivial⟩ (by kernel_rfl) R ((c _ hm).sub [] R)
    ·skip
     exact .drF f [(0,tT 22),(0,tT 23),(0,tT 24),(0,tT 25),(0,tT 26),(0,tT 23),(0,tA 23 (fA 4 (tT 1))),(0,tA 23 (fA 4 (tT 2))),(0,tA 23 (fA 4 (tT 3))),(0,tT 23),(0,tA 23 (fA 4 (tT 5))),(0,tA 23 (fA 4 (tT 6))),(0,tA 23 (fA 4 (tT 7))),(0,tA 23 (fA 4 (tT 8))),(0,tT 23),(0,tT 37),(0,tT 38),(0,tT 39),(0,tT 40)] [_,_,_,_,_,_,_,_,_,_,_,_,_,_,_,_,_,_,_] ⟨[(8,.b false)],[],0⟩ ⟨O.kn (O.mv Z R R) a,O.skip R R R R,O.skip R R R R,O.skip R R R R,O.skip R R R R,O.skip R R R R,O.skip R R R R,O.skip R R R R,O.skip R R R R,O.skip R R R R,O.skip R R R R,O.skip R R R R,O.skip R R R R,O.skip R R R R,O.skip R R R R,O.skip R R R R,O.skip R R R R,O.pkF Z R R R R,O.as Z R R,trivial⟩ (by kernel_rfl) R ((c _ hm).sub [] R)
   ·skip
    exact .drF j [(0,tT 12),(0,tT 13),(0,tT 14),(0,tT 15),(0,tT 16),(0,tT 13),(0,tT 13),(0,tT 19),(0,tT 20),(0,tT 21),(0,tT 22),(0,tT 23),(0,tT 24),(0,tT 25),(0,tT 26),(0,tT 23),(0,tA 23 (fA 4 (tT 1))),(0,tA 23 (fA 4 (tT 2))),(0,tA 23 (fA 4 (tT 3))),(0,tT 23),(0,tA 23 (fA 4 (tT 5))),(0,tA 23 (fA 4 (tT 6))),(0,tA 23 (fA 4 (tT 7))),(0,tA 23 (fA 4 (tT 8))),(0,tT 23),(0,tT 37),(0,tT 38),(0,tT 39),(0,tT 40)] [_,_,_,_,_,_,_,_,_,_,_,_,_,_,_,_,_,_,_,_,_,_,_,_,_,_,_,_,_] ⟨[(8,.b false)],[],0⟩ ⟨O.kn (O.mv Z R R) e,O.skip R R R R,O.skip R R R R,O.skip R R R R,O.skip R R R R,O.skip R R R R,O.skip R R R R,O.skip R R R R,O.skip R R R R,O.pkF Z R R R R,O.mv Z R R,O.skip R R R R,O.skip R R R R,O.skip R R R R,O.skip R R R R,O.skip R R R R,O.skip R R R R,O.skip R R R R,O.skip R R R R,O.skip R R R R,O.skip R R R R,O.skip R R R R,O.skip R R R R,O.skip R R R R,O.skip R R R R,O.skip R R R R,O.skip R R R R,O.pkF Z R R R R,O.as Z R R,trivial⟩ (by kernel_rfl) R ((c _ hm).sub [] R)
  ·skip
   exact .drF h [(0,[oT,oT]),(0,tT 3),(0,tT 4),(0,tT 5),(0,tT 6),(0,tT 3),(0,tT 3),(0,tT 9),(0,tT 10),(0,tT 11),(0,tT 12),(0,tT 13),(0,tT 14),(0,tT 15),(0,tT 16),(0,tT 13),(0,tT 13),(0,tT 19),(0,tT 20),(0,tT 21),(0,tT 22),(0,tT 23),(0,tT 24),(0,tT 25),(0,tT 26),(0,tT 23),(0,tA 23 (fA 4 (tT 1))),(0,tA 23 (fA 4 (tT 2))),(0,tA 23 (fA 4 (tT 3))),(0,tT 23),(0,tA 23 (fA 4 (tT 5))),(0,tA 23 (fA 4 (tT 6))),(0,tA 23 (fA 4 (tT 7))),(0,tA 23 (fA 4 (tT 8))),(0,tT 23),(0,tT 37),(0,tT 38),(0,tT 39),(0,tT 40)] [_,_,_,_,_,_,_,_,_,_,_,_,_,_,_,_,_,_,_,_,_,_,_,_,_,_,_,_,_,_,_,_,_,_,_,_,_,_,_] ⟨[(8,.b false)],[],0⟩ ⟨O.kn (O.mv Z R R) d,O.skip R R R R,O.skip R R R R,O.skip R R R R,O.skip R R R R,O.skip R R R R,O.skip R R R R,O.skip R R R R,O.skip R R R R,O.pkF Z R R R R,O.mv Z R R,O.skip R R R R,O.skip R R R R,O.skip R R R R,O.skip R R R R,O.skip R R R R,O.skip R R R R,O.skip R R R R,O.skip R R R R,O.pkF Z R R R R,O.mv Z R R,O.skip R R R R,O.skip R R R R,O.skip R R R R,O.skip R R R R,O.skip R R R R,O.skip R R R R,O.skip R R R R,O.skip R R R R,O.skip R R R R,O.skip R R R R,O.skip R R R R,O.skip R R R R,O.skip R R R R,O.skip R R R R,O.skip R R R R,O.skip R R R R,O.pkF Z R R R R,O.as Z R R,trivial⟩ (by kernel_rfl) R ((c _ hm).sub [] R)
def y6s(c:TskT)(b:Int)(d:Int)(a:Int):Option (Int⊕(Unit⊕(List Int×List Int))):=
 if decide (a<(c.2.2.2.2.2.length:Int)) then
  (idx c.2.2.2.2.2 a).bind fun e=>
  (y6A c b d e).bind fun f=>
  if f then
   (y4F c.2.2.1 b).bind fun g=>
   some (.inr (.inr ((g,([d,e]:List Int)))))
  else
   some (.inl (W (a+1)))
 else
  some (.inr (.inl ()))
def y6t(c:TskT)(b:Int)(a:Int):Option (Int⊕(Unit⊕(List Int×List Int))):=
 if decide (a<(c.2.2.2.2.1.length:Int)) then
  (idx c.2.2.2.2.1 a).bind fun f=>
  (iter (y6s c b f) 0).bind fun d=>
  match d with
  | .inl g=>
   some (.inl (W (a+1)))
  | .inr (e)=>
   some (.inr (.inr (e)))
 else
  some (.inr (.inl ()))
def y7l(d:TskT)(a:Int):Option (Int⊕(Unit⊕(List Int×List Int))):=
 if decide (a<(d.2.2.2.1.length:Int)) then
  (iter (y6t d a) 0).bind fun b=>
  match b with
  | .inl e=>
   some (.inl (W (a+1)))
  | .inr (c)=>
   some (.inr (.inr (c)))
 else
  some (.inr (.inl ()))
def y8h(p0:PbT):Option ((Int×List Int×List Int)×Bool×Int):=
 (y5j p0).bind fun a=>
 if(a.2 != 0) then
  some ((0,([]:List Int),([]:List Int)),false,a.2)
 else
  a.1.bind fun d=>
  (iter (y7l d) 0).bind fun b=>
  match b with
  | .inl e=>
   some ((0,([]:List Int),([]:List Int)),true,0)
  | .inr (c)=>
   some ((2,c),false,0)
theorem ydj{p0:PbT}{r:(Int×List Int×List Int)×Bool×Int}(hm:y8h p0=some r):
    F0 30 [.a (lx37 p0)] [] (.tp [.a [lI r.1.1,lH 0,lF qI r.1.2.2],.b r.2.1,.i r.2.2]) [rwI r.1.2.1]:=by
  refine Fw.mk2 Tryz.func30 Tryz.ntmps30 R (fun C=>?_) R;refine .sr (.bo 0 R (.al 1 zz44 R (.sa R (.an R (.sr (.lg (lx37 p0) ag37 R (.B R) R (bS hm fun r1 a2 hm=> .c0 (y9C a2) cf85 R (.mv R (.ex R (.ex R (.sa R (.an R (.seq (.sr (.mv R (.bi R (.ns ?_)))))))))))))))));refine .cc hm R (fun hm=>?_) fun hm=>?_
  ·refine .sr (.bu [lI 0,lN,lN] pl44 R (.mv R (.st ag44.sz R (.sa R (.an R (.ret (.seqR (.nlb qI 3 1 1 R R (.cno 1 R (.c .rf (.c .rf (.c (.nf (r:=qI)) .n))) R ?_)))))))));cases hm;exact .rr [2] Tryz.results30 (.cell R R ag44 R (.tmp R (.tmp R .nil))) R I3 ⟨⟨_,R,I4⟩,trivial⟩
  ·refine .skip (.seqN (.seq (.sr (.mv R (bS hm fun e p hm=> .cnt 20 R (.c (.pd p lv155) .n) R (.cnt 5 R (.c (.pd p lv155) .n) R (.cnt 14 R (.c (.pd p lv155) .n) R (.op (O.nc .Q Z R R) R (.fq yaM R (.lq nag53 R (.ln sl53 R (.mv R (.ns (.block (bS hm fun E I hm=>?_)))))))))))))));refine .cutU (z:= .exit 0) (fun w=> .inl w=E) (fun (w:Unit)=>⟨[(2,.q 0 0)],[(0,.bx 44 [lI 0,lN,lN])],1⟩) ?_ fun V=>?_
   · rintro w rfl;dsimp only at hm;refine .blkE (.seqN (.sr (.bu [lI 0,lN,lN] pl44 R (.st ag44.sz R (.sa R (.an R (.ret (.nlb qI 3 0 1 R R (.cno 0 R (.c .rf (.c .rf (.c (.nf (r:=qI)) .n))) R ?_)))))))));cases hm;exact .rr [1] Tryz.results30 (.cell R R ag44 R (.tmp R (.tmp R .nil))) R I3 ⟨⟨_,R,I4⟩,trivial⟩
   refine .cutU (z:= .ret) (fun j=> .inr (j)=E) (fun (j:List Int×List Int)=>⟨[(4,.i 0),(3,.b false),(2,.q 0 0)],[(0,.bx 44 [lI 2,lH 1,lF qI j.2]),(1,rwI j.1)],2⟩) ?_ fun W=>?_
   · rintro j rfl;dsimp only at hm;refine .blkR (.seqR ?_);cases hm;exact .rr [1] Tryz.results30 (.cell R R ag44 R (.tmp R (.tmp R .nil))) R I3 ⟨⟨_,R,I4⟩,trivial⟩
   refine .iter (fun (d:Int)=>⟨[(25,.i d),(24,.i e.2.2.2.1.length),(5,.o (lQ 155 (lx155 e) 0)),(2,.q 0 0)],[(0,.bx 44 [lI 0,lN,lN])],1⟩) I [(0,1)] R ?_;intro d a4 hm S s;refine .sr (.bi R (.ns (.seq ?_)));refine .cc hm R (fun hm=>?_) fun hm=> .exit (.seqX (.seqX ((V _ (s _ (oj hm))).sub [] R)));refine .skip (.seqN (.seq (.block (.sr (.mv R (.an R (.sr (.mv R (.op (O.nc .Q Z R R) R (.fq yfM R (.lq nag32 R (.ln sl32 R (.mv R (.ns (.block (bS hm fun F J hm=>?_))))))))))))))));refine .cutU (z:= .exit 2) (fun x=> .inl x=F) (fun (x:Unit)=>⟨[(25,.i d),(24,.i e.2.2.2.1.length),(5,.o (lQ 155 (lx155 e) 0)),(2,.q 0 0)],[(0,.bx 44 [lI 0,lN,lN])],1⟩) ?_ fun X=>?_
   · rintro x rfl;dsimp only at hm;exact .blkE (.blkN (.seqN (.reg (.bi R (.mv R (.nil ((S _ (oj hm)).sub [] R)))))))
   refine .cutU (z:= .ret) (fun l=> .inr (l)=F) (fun (l:List Int×List Int)=>⟨[(4,.i 0),(3,.b false),(2,.q 0 0)],[(0,.bx 44 [lI 2,lH 1,lF qI l.2]),(1,rwI l.1)],2⟩) ?_ fun Y=>?_
   · rintro l rfl;dsimp only at hm;exact .blkR (.blkR (.seqR (.seqR ((W _ (s _ (oj hm))).sub [] R))))
   refine .iter (fun (g:Int)=>⟨[(33,.i g),(32,.i e.2.2.2.2.1.length),(31,.f qI e.2.2.2.2.1),(6,.i d),(25,.i d),(24,.i e.2.2.2.1.length),(5,.o (lQ 155 (lx155 e) 0)),(2,.q 0 0)],[(0,.bx 44 [lI 0,lN,lN])],1⟩) J [] R ?_;intro g a5 hm T t;refine .sr (.bi R (.ns (.seq ?_)));refine .cc hm R (fun hm=>?_) fun hm=> .exit (.seqX (.seqX ((X _ (t _ (oj hm))).sub [] R)));refine .skip (.seqN (.seq (.block (.sr (bS hm fun D N hm=> .ix sl32 N R (.le nag3 lv3 R (.an R (.sr (.mv R (.op (O.nc .Q Z R R) R (.fq yjy R (.lq nag32 R (.ln sl32 R (.mv R (.ns (.block (bS hm fun G K hm=>?_)))))))))))))))));refine .cutU (z:= .exit 4) (fun y=> .inl y=G) (fun (y:Unit)=>⟨[(33,.i g),(32,.i e.2.2.2.2.1.length),(31,.f qI e.2.2.2.2.1),(6,.i d),(25,.i d),(24,.i e.2.2.2.1.length),(5,.o (lQ 155 (lx155 e) 0)),(2,.q 0 0)],[(0,.bx 44 [lI 0,lN,lN])],1⟩) ?_ fun a0=>?_
   · rintro y rfl;dsimp only at hm;exact .blkE (.blkN (.seqN (.reg (.bi R (.mv R (.nil ((T _ (oj hm)).sub [] R)))))))
   refine .cutU (z:= .ret) (fun m=> .inr (m)=G) (fun (m:List Int×List Int)=>⟨[(4,.i 0),(3,.b false),(2,.q 0 0)],[(0,.bx 44 [lI 2,lH 1,lF qI m.2]),(1,rwI m.1)],2⟩) ?_ fun a1=>?_
   · rintro m rfl;dsimp only at hm;exact .blkR (.blkR (.seqR (.seqR ((Y _ (t _ (oj hm))).sub [] R))))
   refine .iter (fun (v:Int)=>⟨[(42,.i v),(41,.i e.2.2.2.2.2.length),(40,.f qI e.2.2.2.2.2),(8,.i D),(33,.i g),(32,.i e.2.2.2.2.1.length),(31,.f qI e.2.2.2.2.1),(6,.i d),(25,.i d),(24,.i e.2.2.2.1.length),(5,.o (lQ 155 (lx155 e) 0)),(2,.q 0 0)],[(0,.bx 44 [lI 0,lN,lN])],1⟩) K [] R ?_;intro v a6 hm U u;refine .sr (.bi R (.ns (.seq ?_)));refine .cc hm R (fun hm=>?_) fun hm=> .exit (.seqX (.seqX ((a0 _ (u _ (oj hm))).sub [] R)));refine .skip (.seqN (.seq (.block (.sr (bS hm fun H P hm=> .ix sl32 P R (.le nag3 lv3 R (.an R (.sr (.mv R (.mv R (.mv R (.mv R (bS hm fun a7 L hm=> .c0 (yaX L) cf90 R (.ns ?_))))))))))))));exact .cc hm R (fun hm=> .sr (.mv R (.op (O.nc .Q Z R R) R (.fq yaO R (.lg (lx141 e.2.2.1) ag141 R .Q R (.mv R (bS hm fun a3 M hm=> .op (O.ca (r':= .h 1) [1] [(0,rwI a3)] (some 2) (y8N M) cf81 R R Z R R R R ⟨⟨_,R,I4⟩,trivial⟩ I3 R) R (.mv R (.mv R (.bf (r:=qI) ([D,H]:List Int) bs32 R (.c .k (.c .k .n)) R (.bu [lI 2,lH 1,lF qI ([D,H]:List Int)] pl44 R (.st ag44.sz R (.sa R (.an R (.ret (.blkR (.seqR (.seqR ((a1 _ (u _ (oj hm))).sub [] R))))))))))))))))))) fun hm=> .skip (.blkN (.seqN (.reg (.bi R (.mv R (.nil ((U _ (oj hm)).sub [] R)))))))
def y4f(p0:List Int)(p1:Int→Option Bool):Option Bool:=
 (y6W p0 p1).bind fun a=>
 some (decide (a≥0))
theorem y9v{p0:List Int}{p1:Int→Option Bool}{r:Bool}(hm:y4f p0 p1=some r):
  F0 106 [.f qI p0,.o (lW Tryz.prog (fun (x:Int)=> [.i x]) (fun (r:Bool)=> .b r) p1)] [] (.b r) []:=by
 refine Fw.mk2 Tryz.func106 Tryz.ntmps106 R (fun C=>?_) R;refine .sr (.an R (.sr (.mv R (.mv R (bS hm fun c a hm=> .c0 (ya9 a) cf136 R (.bi R (.an R (.ret ?_))))))));cases hm;exact .rr [] Tryz.results106 (.tmp R .nil) R I3 trivial
def y1Z(p0:List Int)(p1:List Int)(a:Int):Option (Int⊕(Unit⊕Unit)):=
 if decide (a<(p0.length:Int)) then
  (idx p0 a).bind fun b=>
  (idx p1 a).bind fun c=>
  if(b != c) then
   some (.inr (.inr (())))
  else
   some (.inl (W (a+1)))
 else
  some (.inr (.inl ()))
def y3a(p0:List Int)(p1:List Int):Option Bool:=
 if((p0.length:Int) != (p1.length:Int)) then
  some false
 else
  (iter (y1Z p0 p1) 0).bind fun a=>
  match a with
  | .inl b=>
   some true
  | .inr (c)=>
   some false
theorem y7w{p0:List Int}{p1:List Int}{r:Bool}(hm:y3a p0 p1=some r):
    F0 59 [.f qI p0,.f qI p1] [] (.b r) []:=by
  refine Fw.mk2 Tryz.func59 Tryz.ntmps59 R (fun C=>?_) R;refine .sr (.an R (.seq (.sr (.mv R (.ln sl32 R (.mv R (.ln sl32 R (.bi R (.ns ?_)))))))));refine .cc hm R (fun hm=>?_) fun hm=>?_
  ·refine .sr (.an R (.ret (.seqR ?_)));cases hm;exact .rr [] Tryz.results59 (.tmp R .nil) R I3 trivial
  ·refine .skip (.seqN (.seq (.sr (.an R (.block (bS hm fun l j hm=>?_))))));refine .cutU (z:= .exit 0) (fun g=> .inl g=l) (fun (g:Unit)=>⟨[],[],0⟩) ?_ fun K7=>?_
   · rintro g rfl;dsimp only at hm;refine .blkE (.seqN (.sr (.an R (.ret ?_))));cases hm;exact .rr [] Tryz.results59 (.tmp R .nil) R I3 trivial
   refine .cutU (z:= .ret) (fun h=> .inr (h)=l) (fun (h:Unit)=>⟨[(4,.b false)],[],0⟩) ?_ fun K9=>?_
   · rintro h rfl;dsimp only at hm;refine .blkR (.seqR ?_);cases hm;exact .rr [] Tryz.results59 (.tmp R .nil) R I3 trivial
   refine .iter (fun (a:Int)=>⟨[(5,.i a),(0,.f qI p0),(1,.f qI p1)],[],0⟩) j [] R ?_;intro a o hm k c;refine .seq (.sr (.mv R (.mv R (.ln sl32 R (.bi R (.ns ?_))))));refine .cc hm R (fun hm=>?_) fun hm=> .exit (.seqX (.seqX ((K7 _ (c _ (oj hm))).sub [] R)));refine .skip (.seqN (.seq (.block (.seq ?_))));refine .sub (τ:=⟨[(5,.i a),(0,.f qI p0),(1,.f qI p1)],[],0⟩) ?_ [] R;refine bS hm fun m d hm=>bS hm fun n e hm=>?_;refine .drw [(0,[]),(0,[]),(0,[oT,oT]),(0,tT 3),(0,[]),(0,[]),(0,[oF,oF,oF,oF,oT,oT]),(0,fA 4 (tT 3)),(0,tT 8)] [_,_,_,_,_,_,_,_,_] ⟨[(25,.b (m != n)),(5,.i a),(0,.f qI p0),(1,.f qI p1)],[],0⟩ ⟨O.mv Z R R,O.mv Z R R,O.ix sl32 Z R R d R,O.ld nag3 Z R (.E lv3) R R,O.mv Z R R,O.mv Z R R,O.ix sl32 Z R R e R,O.ld nag3 Z R (.E lv3) R R,O.bi Z R R R R,trivial⟩ (by kernel_rfl) R ?_;exact .seqN (.cc hm R (fun hm=> .sr (.an R (.ret (.blkR (.seqR (.seqR ((K9 _ (c _ (oj hm))).sub [] R))))))) fun hm=> .skip (.blkN (.seqN (.reg (.mv R (.bi R (.sa R (.nil ((k _ (oj hm)).sub [] R)))))))))
def y4s :Option PbT:=
 some ((([0,2]:List Int),2,([0,1]:List Int),([(0,0,1),(0,2,0),(1,2,1)]:List (Int×Int×Int))),(([0,2]:List Int),2,([0,1]:List Int),([(0,0,1),(0,2,0)]:List (Int×Int×Int))),([0]:List Int))
theorem y5m{r:PbT}(hm:y4s=some r):
  F0 118 [] [] (.g (lx37 r)) []:=by
 refine Fw.mk2 Tryz.func118 Tryz.ntmps118 R (fun C=>?_) R;refine .sr (.al 0 zz37 R (.nr (.bf (r:=qI) ([0,2]:List Int) bs32 R (.c .k (.c .k .n)) R (.bf (r:=qI) ([0,1]:List Int) bs32 R (.c .k (.c .k .n)) R (.bu [lI 0,lI 0,lI 1] pl124 R (.bu [lI 0,lI 2,lI 0] pl124 R (.bu [lI 1,lI 2,lI 1] pl124 R (.op (O.bsF (r:=qT) (zs:=([(0,0,1),(0,2,0),(1,2,1)]:List (Int×Int×Int))) bs33 R R Z R R R (.c (.p .k (.p .k .k)) (.c (.p .k (.p .k .k)) (.c (.p .k (.p .k .k)) .n))) R R R) R (.bu [lF qI ([0,2]:List Int),lI 2,lF qI ([0,1]:List Int),lF qT ([(0,0,1),(0,2,0),(1,2,1)]:List (Int×Int×Int))] pl35 R (.bf (r:=qI) ([0,2]:List Int) bs32 R (.c .k (.c .k .n)) R (.bf (r:=qI) ([0,1]:List Int) bs32 R (.c .k (.c .k .n)) R (.bu [lI 0,lI 0,lI 1] pl124 R (.bu [lI 0,lI 2,lI 0] pl124 R (.op (O.bsF (r:=qT) (zs:=([(0,0,1),(0,2,0)]:List (Int×Int×Int))) bs33 R R Z R R R (.c (.p .k (.p .k .k)) (.c (.p .k (.p .k .k)) .n)) R R R) R (.bu [lF qI ([0,2]:List Int),lI 2,lF qI ([0,1]:List Int),lF qT ([(0,0,1),(0,2,0)]:List (Int×Int×Int))] pl35 R (.bf (r:=qI) ([0]:List Int) bs32 R (.c .k .n) R (.bu [lF qI ([0,2]:List Int),lI 2,lF qI ([0,1]:List Int),lF qT ([(0,0,1),(0,2,0),(1,2,1)]:List (Int×Int×Int)),lF qI ([0,2]:List Int),lI 2,lF qI ([0,1]:List Int),lF qT ([(0,0,1),(0,2,0)]:List (Int×Int×Int)),lF qI ([0]:List Int)] pl37 R (.st ag37.sz R (.ns (.ret ?_))))))))))))))))))));cases hm;exact .rr [] Tryz.results118 (.cell R R ag37 R .nil) R I3 trivial
def y8B(p0:PbT):Option Int:=
 (y5j p0).bind fun a=>
 some a.2
theorem ydQ{p0:PbT}{r:Int}(hm:y8B p0=some r):
  F0 119 [.a (lx37 p0)] [] (.i r) []:=by
 refine Fw.mk2 Tryz.func119 Tryz.ntmps119 R (fun C=>?_) R;refine .sr (.bo 0 R (.an R (.sr (.lg (lx37 p0) ag37 R (.B R) R (bS hm fun c b hm=> .c0 (y9C b) cf85 R (.mv R (.ex R (.ex R (.sa R (.an R (.sr (.mv R (.an R (.ret ?_))))))))))))));cases hm;exact .rr [] Tryz.results119 (.tmp R .nil) R I3 trivial
def yI(p0:(List (Int×Int))×Int×Int)(p1:Int):Option Int:=
 some (W ((W (p0.2.1+p0.2.2))+p1))
theorem y2O{p0:(List (Int×Int))×Int×Int}{r:Int}(hm:yI p0 p1=some r):
  F0 182 [.o (lQ 269 [lF rE302 p0.1,lI p0.2.1,lI p0.2.2] 0),.i p1] [] (.i r) []:=by
 refine Fw.mk2 Tryz.func182 Tryz.ntmps182 R (fun C=>?_) R;refine .sr (.an R (.seq ?_));refine .sub (τ:=⟨[(0,.o (lQ 269 [lF rE302 p0.1,lI p0.2.1,lI p0.2.2] 0)),(1,.i p1)],[],0⟩) ?_ [] R;refine .drw [(0,[]),(0,[oT]),(0,[oT,oT]),(0,tT 3),(0,[]),(0,[oF,oF,oF,oF,oT]),(0,[oF,oF,oF,oF,oT,oT]),(0,fA 4 (tT 3)),(0,tT 8),(0,[]),(0,tT 10),(0,tT 11)] [_,_,_,_,_,_,_,_,_,_,_,_] ⟨[(4,.i (W ((W (p0.2.1+p0.2.2))+p1)))],[],0⟩ ⟨O.mv Z R R,O.nc .Q Z R R,O.faQ ydK Z R R,O.ld nag3 Z R .Q R R,O.mv Z R R,O.nc .Q Z R R,O.faQ yfT Z R R,O.ld nag3 Z R .Q R R,O.bi Z R R R R,O.mv Z R R,O.bi Z R R R R,O.as Z R R,trivial⟩ (by kernel_rfl) R ?_;refine .seqN (.ret ?_);cases hm;exact .rr [] Tryz.results182 (.tmp R .nil) R I3 trivial
def y2a(p0:(List (Int×Int))×Int×Int)(p1:Int):Option Int:=
 some (W (p0.2.1+p1))
theorem y6Y{p0:(List (Int×Int))×Int×Int}{r:Int}(hm:y2a p0 p1=some r):
  F0 183 [.o (lQ 269 [lF rE302 p0.1,lI p0.2.1,lI p0.2.2] 0),.i p1] [] (.i r) []:=by
 refine Fw.mk2 Tryz.func183 Tryz.ntmps183 R (fun C=>?_) R;refine .sr (.an R (.sr (.mv R (.op (O.nc .Q Z R R) R (.fq ydK R (.lq nag3 R (.mv R (.bi R (.an R (.ret ?_))))))))));cases hm;exact .rr [] Tryz.results183 (.tmp R .nil) R I3 trivial
def y2b(p1:List (Int×Int))(a:(List (Int×Int))×Int):Option (((List (Int×Int))×Int)⊕(List (Int×Int))):=
 if decide (a.2<(p1.length:Int)) then
  (idx p1 a.2).bind fun b=>
  (app a.1 ([b]:List (Int×Int))).bind fun c=>
  some (.inl (c,W (a.2+1)))
 else
  some (.inr a.1)
def yt(p0:(List (Int×Int))×Int×Int)(p1:List (Int×Int)):Option ((List (Int×Int))×Int×Int):=
 (iter (y2b p1) (p0.1,0)).bind fun a=>
 some (a,p0.2)
theorem yN{p0:(List (Int×Int))×Int×Int}{p1:List (Int×Int)}{r:((List (Int×Int))×Int×Int)}(hm:yt p0 p1=some r):
  Fw Tryz.prog 217 ⟨2,[0,1]⟩ [.o (lP 0 0),.f rE241 p1] [.bx 269 [lH 1,lI p0.2.1,lI p0.2.2],ROW rE302 302 p0.1] (.tp []) [.bx 269 [lH 2,lI r.2.1,lI r.2.2],.u,ROW rE302 302 r.1]:=by
 refine Fw.mk2 Tryz.func217 Tryz.ntmps217 R (fun C=>?_) R;refine .mvb 1 0 0 R R R R (.sr (.mv R (.ln sl322 R (.mv R (.ns (.block (bS hm fun g h hm=>?_)))))));refine .cut1 (z:= .exit 0) g (fun (g:(List (Int×Int)))=>⟨[],[(0,.bx 269 [lH 2,lI p0.2.1,lI p0.2.2]),(2,ROW rE302 302 g)],3⟩) ?_ fun K9=>?_
 ·skip
  refine .blkE (.ou 1 R ?_);cases hm;exact WX.rt [0,1,2] (.inr R) Tryz.results217 .nil R I3 ⟨⟨_,R,I4⟩,⟨_,R,fun _ _ _ _ _=>trivial⟩,⟨_,R,I4⟩,trivial⟩
 refine .iter (fun (b:(List (Int×Int))×Int)=>⟨[(8,.i b.2),(7,.i p1.length),(6,.f rE241 p1),(0,.q 0 0)],[(0,.bx 269 [lH 2,lI p0.2.1,lI p0.2.2]),(2,ROW rE302 302 b.1)],3⟩) h [] R ?_;intro b t hm m j;refine .sr (.bi R (.ns (.seq ?_)));refine .cc hm R (fun hm=>?_) fun hm=> .exit (.seqX (.seqX ((K9 _ (j _ (oj hm))).sub [] R)));refine .skip (.seqN (.seq (.block (.sr (bS hm fun a d hm=> .ix sl322 d R (.lg [lI a.1,lI a.2] ag241 R (.E lv241) R (.al 3 zz241 R (.st ag241.sz R (.ns ?_)))))))));refine .sub (τ:=⟨[(5,.q 3 0),(8,.i b.2),(7,.i p1.length),(6,.f rE241 p1),(0,.q 0 0)],[(0,.bx 269 [lH 2,lI p0.2.1,lI p0.2.2]),(2,ROW rE302 302 b.1),(3,.bx 241 [lI a.1,lI a.2])],4⟩) ?_ [] R;refine bS hm fun s e hm=>?_;refine .drd 5 [(4,[],[2]),(4,[],[]),(4,[oF,oT],[]),(4,[oF,oT,oT],[]),(4,[oF,oT,oT,oT],[]),(4,[],[]),(4,[oF,oF,oF,oF,oF,oT],[]),(4,[],[]),(4,[oF,oF,oF,oF,oF,oF,oF,oT],[]),(4,[oF,oF,oF,oF,oF,oT,oT,oT,oT],[]),(4,[oF,oF,oF,oF,oF,oT,oT,oT,oT,oT],[]),(4,[oF,oT,oT,oT,oT,oT,oT,oT,oT,oT,oT],[]),(5,[oT,oT,oT,oT,oT,oT,oT,oT,oT,oT,oT,oT],[]),(5,[oT,oT,oT,oT,oT,oT,oT,oT,oT,oT,oT,oT,oT],[]),(5,[oT,oT,oT,oT,oT,oT,oT,oT,oT,oT,oT,oT,oT,oT],[])] [_,_,_,_,_,_,_,_,_,_,_,_,_,_,_] ⟨[(8,.i b.2),(7,.i p1.length),(6,.f rE241 p1),(0,.q 0 0)],[(0,.bx 269 [lH 4,lI p0.2.1,lI p0.2.2]),(4,ROW rE302 302 s)],5⟩ ⟨O.mv Z R R,O.mv Z R R,O.nc .B Z R R,O.faP y9V Z R R,O.ld y7t Z R (.B R) R R,O.ia ia241 Z R R R R,O.ld nag3 Z R (.B R) R R,O.ia ia241 Z R R R R,O.ld nag3 Z R (.B R) R R,O.bu (l:=[lI a.1,lI a.2]) pl302 R Z R R R,O.bsF (r:=rE302) (zs:=([a]:List (Int×Int))) bs189 R R Z R R R (.c (.p .k .k) .n) R R R,O.ap 4 Tryz.underlying189 el302 R R Z R R (.fr R) e R,O.nc .B Z R R,O.faP y9V Z R R,O.st y7t.sz Z R R R R R,trivial⟩ (by kernel_rfl) R ?_;exact .blkN (.seqN (.reg (.bi R (.mv R (.nil ((m _ (oj hm)).sub [(2,4)] R))))))
def y1E(p2:Int)(p4:List (Int×Int×Int))(a:(List (Int×Int))×Int×Int×Int):Option (((List (Int×Int))×Int×Int×Int)⊕((List (Int×Int))×Int×Int)):=
 if decide (a.2.2.2<(p4.length:Int)) then
  (idx p4 a.2.2.2).bind fun d=>
  (yI (a.1,a.2.1,a.2.2.1) d.1).bind fun c=>
  (yI (a.1,a.2.1,a.2.2.1) d.2.2).bind fun e=>
  (yt (a.1,a.2.1,a.2.2.1) ([(1,c),(4,p2),(10,c),(9,e),(9,p2)]:List (Int×Int))).bind fun b=>
  some (.inl (b.1,b.2.1,b.2.2,W (a.2.2.2+1)))
 else
  some (.inr (a.1,a.2.1,a.2.2.1))
def y3H(p0:(List (Int×Int))×Int×Int)(p1:Int)(p2:Int)(p3:Int)(p4:List (Int×Int×Int)):Option ((List (Int×Int))×Int×Int):=
 (yt p0 ([(2,p1),(12,0)]:List (Int×Int))).bind fun b=>
 (yt b ([(1,p1),(10,p2)]:List (Int×Int))).bind fun c=>
 (iter (y1E p2 p4) (c.1,c.2.1,c.2.2,0)).bind fun d=>
 (yt d ([(2,p2),(9,p3)]:List (Int×Int))).bind fun a=>
 (idx a.1 (W ((b.1.length:Int)-1))).bind fun e=>
 (upd a.1 (W ((b.1.length:Int)-1)) (e.1,(a.1.length:Int))).bind fun f=>
 some (f,a.2)
theorem y8T{p0:(List (Int×Int))×Int×Int}{p3:Int}{p4:List (Int×Int×Int)}{r:((List (Int×Int))×Int×Int)}(hm:y3H p0 p1 p2 p3 p4=some r):
  Fw Tryz.prog 181 ⟨2,[0,1]⟩ [.o (lP 0 0),.i p1,.i p2,.i p3,.f qT p4] [.bx 269 [lH 1,lI p0.2.1,lI p0.2.2],ROW rE302 302 p0.1] (.tp []) [.bx 269 [lH 2,lI r.2.1,lI r.2.2],.u,ROW rE302 302 r.1]:=by
 refine Fw.mk2 Tryz.func181 Tryz.ntmps181 R (fun C=>?_) R;refine .mvb 1 0 0 R R R R (.sr (.mv R (.mv R (.bu [lI 2,lI p1] pl241 R (.bu [lI 12,lI 0] pl241 R (.bf (r:=rE241) ([(2,p1),(12,0)]:List (Int×Int)) bs322 R (.c (.p .k .k) (.c (.p .k .k) .n)) R (bS hm fun g K hm=> .op (O.ca (r':= .tp []) [0,2,3] [(1,.u),(2,ROW rE302 302 g.1),(0,.bx 269 [lH 3,lI g.2.1,lI g.2.2])] (some 4) (yN K) cf217 R R Z R R R R ⟨⟨_,R,fun _ _ _ _ _=>trivial⟩,⟨_,R,I4⟩,⟨_,R,I4⟩,trivial⟩ I3 R) R (.nr (.mv R (.op (O.nc .B Z R R) R (.fa y9V R (.lb y7t R (.lh sl189 R (.bi R (.an R (.sr (.mv R (.mv R (.bu [lI 1,lI p1] pl241 R (.mv R (.bu [lI 10,lI p2] pl241 R (.bf (r:=rE241) ([(1,p1),(10,p2)]:List (Int×Int)) bs322 R (.c (.p .k .k) (.c (.p .k .k) .n)) R (bS hm fun I L hm=> .op (O.ca (r':= .tp []) [0,3,4] [(1,.u),(2,ROW rE302 302 I.1),(0,.bx 269 [lH 4,lI I.2.1,lI I.2.2])] (some 5) (yN L) cf217 R R Z R R R R ⟨⟨_,R,fun _ _ _ _ _=>trivial⟩,⟨_,R,I4⟩,⟨_,R,I4⟩,trivial⟩ I3 R) R (.ns (.seq (.sr (.mv R (.ln sl33 R ?_))))))))))))))))))))))))))));refine .mv R (.ns (.block (bS hm fun e t hm=>?_)));refine .cut1 (z:= .exit 0) e (fun (e:(List (Int×Int))×Int×Int)=>⟨[(10,.i (W ((g.1.length:Int)-1))),(0,.q 0 0),(2,.i p2),(3,.i p3)],[(0,.bx 269 [lH 2,lI e.2.1,lI e.2.2]),(2,ROW rE302 302 e.1)],3⟩) ?_ fun J=>?_
 ·skip
  refine .blkE (.seqN (.sr (.mv R (.mv R (.bu [lI 2,lI p2] pl241 R (.mv R (.bu [lI 9,lI p3] pl241 R (.bf (r:=rE241) ([(2,p2),(9,p3)]:List (Int×Int)) bs322 R (.c (.p .k .k) (.c (.p .k .k) .n)) R (bS hm fun b v hm=> .op (O.ca (r':= .tp []) [0,2,3] [(1,.u),(2,ROW rE302 302 b.1),(0,.bx 269 [lH 3,lI b.2.1,lI b.2.2])] (some 4) (yN v) cf217 R R Z R R R R ⟨⟨_,R,fun _ _ _ _ _=>trivial⟩,⟨_,R,I4⟩,⟨_,R,I4⟩,trivial⟩ I3 R) R (.ns ?_))))))))));refine .sub (τ:=⟨[(10,.i (W ((g.1.length:Int)-1))),(0,.q 0 0)],[(0,.bx 269 [lH 3,lI b.2.1,lI b.2.2]),(3,ROW rE302 302 b.1)],4⟩) ?_ [] R;refine bS hm fun M l hm=>bS hm fun N D hm=>?_;refine .drg 4 [(4,[]),(4,[oT]),(4,[oT,oT]),(4,tT 3),(4,[]),(4,[]),(4,[oF,oF,oF,oF,oF,oT]),(4,[oF,oF,oF,oF,oF,oT,oT]),(4,fA 5 (tT 3)),(4,fA 5 (tT 4)),(4,tT 10),(4,tT 11),(4,tT 12)] [_,_,_,_,_,_,_,_,_,_,_,_,_] ⟨[],[(0,.bx 269 [lH 3,lI b.2.1,lI b.2.2]),(3,ROW rE302 302 N)],4⟩ ⟨O.mv Z R R,O.nc .B Z R R,O.faP y9V Z R R,O.ld y7t Z R (.B R) R R,O.mv Z R R,O.mv Z R R,O.nc .B Z R R,O.faP y9V Z R R,O.ld y7t Z R (.B R) R R,O.lenH sl189 Z R R R,O.ir sl189 Z R R R l R,O.faR y7z Z R R,O.su (z:=(M.1,(b.1.length:Int))) nag3.sz Z R R l D R R R lv302 R (.p .k .k),trivial⟩ (by kernel_rfl) R ?_;refine .ou 1 R ?_;cases hm;exact WX.rt [0,1,3] (.inr R) Tryz.results181 .nil R I3 ⟨⟨_,R,I4⟩,⟨_,R,fun _ _ _ _ _=>trivial⟩,⟨_,R,I4⟩,trivial⟩
 refine .iter (fun (a:(List (Int×Int))×Int×Int×Int)=>⟨[(36,.i a.2.2.2),(35,.i p4.length),(34,.f qT p4),(10,.i (W ((g.1.length:Int)-1))),(0,.q 0 0),(2,.i p2),(3,.i p3)],[(0,.bx 269 [lH 2,lI a.2.1,lI a.2.2.1]),(2,ROW rE302 302 a.1)],3⟩) t [(2,4)] R ?_;intro a P hm H G;refine .sr (.bi R (.ns (.seq ?_)));refine .cc hm R (fun hm=>?_) fun hm=> .exit (.seqX (.seqX ((J _ (G _ (oj hm))).sub [] R)));refine .skip (.seqN (.seq (.block (.sr (bS hm fun d F hm=> .ix sl33 F R (.lg [lI d.1,lI d.2.1,lI d.2.2] ag124 R (.E lv124) R (.al 3 zz124 R (.st ag124.sz R (.ns (.seq ?_))))))))));refine .sub (τ:=⟨[(12,.q 3 0),(36,.i a.2.2.2),(35,.i p4.length),(34,.f qT p4),(10,.i (W ((g.1.length:Int)-1))),(0,.q 0 0),(2,.i p2),(3,.i p3)],[(0,.bx 269 [lH 2,lI a.2.1,lI a.2.2.1]),(2,ROW rE302 302 a.1),(3,.bx 124 [lI d.1,lI d.2.1,lI d.2.2])],4⟩) ?_ [] R;refine bS hm fun j w hm=>bS hm fun m x hm=>?_;refine .drw [(4,[]),(4,[]),(4,[oF,oT]),(4,tT 3),(4,[]),(4,[]),(4,[oF,oF,oF,oF,oF,oT]),(4,tT 7),(4,tT 8),(4,tT 9)] [_,_,_,_,_,_,_,_,_,_] ⟨[(14,.i m),(13,.i j),(36,.i a.2.2.2),(35,.i p4.length),(34,.f qT p4),(10,.i (W ((g.1.length:Int)-1))),(0,.q 0 0),(2,.i p2),(3,.i p3)],[(0,.bx 269 [lH 2,lI a.2.1,lI a.2.2.1]),(2,ROW rE302 302 a.1)],4⟩ ⟨O.mv Z R R,O.faP y1A Z R R,O.ld nag3 Z R (.B R) R R,O.caZ (y2O w) cf182 R R Z R ⟨⟨R,(.q R ⟨.hr R,.rf,.rf,trivial⟩),trivial⟩,⟨R,LnL.rf⟩,trivial⟩ (fun _ _ _ _ _ h=>h) R,O.mv Z R R,O.faP y2J Z R R,O.ld nag3 Z R (.B R) R R,O.caZ (y2O x) cf182 R R Z R ⟨⟨R,(.q R ⟨.hr R,.rf,.rf,trivial⟩),trivial⟩,⟨R,LnL.rf⟩,trivial⟩ (fun _ _ _ _ _ h=>h) R,O.as Z R R,O.as Z R R,trivial⟩ (by kernel_rfl) R ?_;exact .seqN (.reg (.mv R (.mv R (.bu [lI 1,lI j] pl241 R (.mv R (.bu [lI 4,lI p2] pl241 R (.mv R (.bu [lI 10,lI j] pl241 R (.mv R (.bu [lI 9,lI m] pl241 R (.mv R (.bu [lI 9,lI p2] pl241 R (.op (O.bsF (r:=rE241) (zs:=([(1,j),(4,p2),(10,j),(9,m),(9,p2)]:List (Int×Int))) bs322 R R Z R R R (.c (.p .k .k) (.c (.p .k .k) (.c (.p .k .k) (.c (.p .k .k) (.c (.p .k .k) .n))))) R R R) R (bS hm fun s y hm=> .op (O.ca (r':= .tp []) [0,2,4] [(1,.u),(2,ROW rE302 302 s.1),(0,.bx 269 [lH 4,lI s.2.1,lI s.2.2])] (some 5) (yN y) cf217 R R Z R R R R ⟨⟨_,R,fun _ _ _ _ _=>trivial⟩,⟨_,R,I4⟩,⟨_,R,I4⟩,trivial⟩ I3 R) R (.nil (.blkN (.seqN (.reg (.bi R (.mv R (.nil ((H _ (oj hm)).sub [(2,4)] R))))))))))))))))))))))
def y1q(p2:List Int)(a:(List (Int×Int))×Int×Int×Int):Option (((List (Int×Int))×Int×Int×Int)⊕((List (Int×Int))×Int×Int)):=
 if decide (a.2.2.2<(p2.length:Int)) then
  (idx p2 a.2.2.2).bind fun d=>
  (idx ([1,5]:List Int) (if 1<a.2.2.2 then 1 else a.2.2.2)).bind fun e=>
  (yI (a.1,a.2.1,a.2.2.1) d).bind fun c=>
  (yt (a.1,a.2.1,a.2.2.1) ([(e,c)]:List (Int×Int))).bind fun b=>
  some (.inl (b.1,b.2.1,b.2.2,W (a.2.2.2+1)))
 else
  some (.inr (a.1,a.2.1,a.2.2.1))
def y3f(p0:(List (Int×Int))×Int×Int)(p1:Int)(p2:List Int):Option ((List (Int×Int))×Int×Int):=
 if((p2.length:Int)==0) then
  (yt p0 ([(1,p1),(4,p1),(7,p1)]:List (Int×Int))).bind fun c=>
  some c
 else
  (iter (y1q p2) (p0.1,p0.2.1,p0.2.2,0)).bind fun a=>
  (yt a ([(7,p1)]:List (Int×Int))).bind fun b=>
  some b
theorem y8C{p0:(List (Int×Int))×Int×Int}{p2:List Int}{r:((List (Int×Int))×Int×Int)}(hm:y3f p0 p1 p2=some r):
    Fw Tryz.prog 184 ⟨2,[0,1]⟩ [.o (lP 0 0),.i p1,.f qI p2] [.bx 269 [lH 1,lI p0.2.1,lI p0.2.2],ROW rE302 302 p0.1] (.tp []) [.bx 269 [lH 2,lI r.2.1,lI r.2.2],.u,ROW rE302 302 r.1]:=by
  refine Fw.mk2 Tryz.func184 Tryz.ntmps184 R (fun C=>?_) R;refine .mvb 1 0 0 R R R R (.seq (.sr (.mv R (.ln sl32 R (.bi R (.ns ?_))))));refine .cc hm R (fun hm=>?_) fun hm=>?_
  ·refine .sr (.mv R (.mv R (.bu [lI 1,lI p1] pl241 R (.mv R (.bu [lI 4,lI p1] pl241 R (.mv R (.bu [lI 7,lI p1] pl241 R (.op (O.bsF (r:=rE241) (zs:=([(1,p1),(4,p1),(7,p1)]:List (Int×Int))) bs322 R R Z R R R (.c (.p .k .k) (.c (.p .k .k) (.c (.p .k .k) .n))) R R R) R (bS hm fun D F hm=> .op (O.ca (r':= .tp []) [0,2,3] [(1,.u),(2,ROW rE302 302 D.1),(0,.bx 269 [lH 3,lI D.2.1,lI D.2.2])] (some 4) (yN F) cf217 R R Z R R R R ⟨⟨_,R,fun _ _ _ _ _=>trivial⟩,⟨_,R,I4⟩,⟨_,R,I4⟩,trivial⟩ I3 R) R (.ns (.ret (.seqR (.ou 1 R ?_)))))))))))));cases hm;exact .rr [0,1,3] Tryz.results184 .nil R I3 ⟨⟨_,R,I4⟩,⟨_,R,fun _ _ _ _ _=>trivial⟩,⟨_,R,I4⟩,trivial⟩
  ·refine .skip (.seqN (.seq (.sr (.mv R (.ln sl32 R (.mv R (.ns (.block (bS hm fun d m hm=>?_)))))))));refine .cut1 (z:= .exit 0) d (fun (d:(List (Int×Int))×Int×Int)=>⟨[(0,.q 0 0),(1,.i p1)],[(0,.bx 269 [lH 2,lI d.2.1,lI d.2.2]),(2,ROW rE302 302 d.1)],3⟩) ?_ fun E=>?_
   · skip
     refine .blkE (.seqN (.reg (.mv R (.mv R (.bu [lI 7,lI p1] pl241 R (.bf (r:=rE241) ([(7,p1)]:List (Int×Int)) bs322 R (.c (.p .k .k) .n) R (bS hm fun e s hm=> .op (O.ca (r':= .tp []) [0,2,3] [(1,.u),(2,ROW rE302 302 e.1),(0,.bx 269 [lH 3,lI e.2.1,lI e.2.2])] (some 4) (yN s) cf217 R R Z R R R R ⟨⟨_,R,fun _ _ _ _ _=>trivial⟩,⟨_,R,I4⟩,⟨_,R,I4⟩,trivial⟩ I3 R) R (.nil (.ou 1 R ?_)))))))));cases hm;exact WX.rt [0,1,3] (.inr R) Tryz.results184 .nil R I3 ⟨⟨_,R,I4⟩,⟨_,R,fun _ _ _ _ _=>trivial⟩,⟨_,R,I4⟩,trivial⟩
   refine .iter (fun (a:(List (Int×Int))×Int×Int×Int)=>⟨[(22,.i a.2.2.2),(21,.i p2.length),(20,.f qI p2),(0,.q 0 0),(1,.i p1)],[(0,.bx 269 [lH 2,lI a.2.1,lI a.2.2.1]),(2,ROW rE302 302 a.1)],3⟩) m [] R ?_;intro a H hm B y;refine .sr (.bi R (.ns (.seq ?_)));refine .cc hm R (fun hm=>?_) fun hm=> .exit (.seqX (.seqX ((E _ (y _ (oj hm))).sub [] R)));refine .skip (.seqN (.seq (.block (.sr (.mv R (bS hm fun G w hm=> .ix sl32 w R (.le nag3 lv3 R (.sa R (.an R ?_)))))))));refine .sub (τ:=⟨[(7,.i G),(6,.i a.2.2.2),(22,.i a.2.2.2),(21,.i p2.length),(20,.f qI p2),(0,.q 0 0),(1,.i p1)],[(0,.bx 269 [lH 2,lI a.2.1,lI a.2.2.1]),(2,ROW rE302 302 a.1)],3⟩) ?_ [] R;refine bS hm fun j x hm=>bS hm fun g t hm=>bS hm fun b v hm=>?_;refine .drg 4 [(3,[]),(3,[]),(3,[]),(3,[oF,oF,oT]),(3,fA 1 (tT 3)),(3,[]),(3,[]),(3,[oF,oF,oF,oF,oF,oT,oT]),(3,fA 1 (tT 7)),(3,fA 1 (tT 8)),(3,tT 10)] [_,_,_,_,_,_,_,_,_,_,_] ⟨[(22,.i a.2.2.2),(21,.i p2.length),(20,.f qI p2),(0,.q 0 0),(1,.i p1)],[(0,.bx 269 [lH 3,lI b.2.1,lI b.2.2]),(3,ROW rE302 302 b.1)],4⟩ ⟨O.mv Z R R,O.bu (l:=[lI 1,lI 5]) pl241 R Z R R R,O.mv Z R R,O.min Z R R R,O.ixA (xs:=([1,5]:List Int)) nag3 Tryz.underlying241 Z R R R x R,O.mv Z R R,O.mv Z R R,O.caZ (y2O t) cf182 R R Z R ⟨⟨R,(.q R ⟨.hr R,.rf,.rf,trivial⟩),trivial⟩,⟨R,LnL.rf⟩,trivial⟩ (fun _ _ _ _ _ h=>h) R,O.bu (l:=[lI j,lI g]) pl241 R Z R R R,O.bsF (r:=rE241) (zs:=([(j,g)]:List (Int×Int))) bs322 R R Z R R R (.c (.p .k .k) .n) R R R,O.ca (r':= .tp []) [0,2,3] [(1,.u),(2,ROW rE302 302 b.1),(0,.bx 269 [lH 3,lI b.2.1,lI b.2.2])] (some 4) (yN v) cf217 R R Z R R R R ⟨⟨_,R,fun _ _ _ _ _=>trivial⟩,⟨_,R,I4⟩,⟨_,R,I4⟩,trivial⟩ I3 R,trivial⟩ (by kernel_rfl) R ?_;exact .blkN (.seqN (.reg (.bi R (.mv R (.nil ((B _ (oj hm)).sub [(2,3)] R))))))
def y3y(p1:List Int)(b:(List (Int×List Int))×(List (Int×List (Int×Int×Int))))(a:Int×(List (Int×Int))×Int×Int):Option ((Int×(List (Int×Int))×Int×Int)⊕((List (Int×Int))×Int×Int)):=
 if decide (a.1<(p1.length:Int)) then
  (idx p1 a.1).bind fun e=>
  (y2a a.2 a.1).bind fun c=>
  (y3f a.2 c ((kget b.1 e).getD [])).bind fun d=>
  some (.inl (W (a.1+1),d))
 else
  some (.inr a.2)
def y3z(p0:AutT)(p1:List Int)(b:(List (Int×List Int))×(List (Int×List (Int×Int×Int))))(a:Int×(List (Int×Int))×Int×Int):Option ((Int×(List (Int×Int))×Int×Int)⊕((List (Int×Int))×Int×Int)):=
 if decide (a.1<(p0.1.length:Int)) then
  (idx p0.1 a.1).bind fun f=>
  (yI a.2 p0.2.1).bind fun c=>
  (y2a a.2 (p1.length:Int)).bind fun d=>
  (y3H a.2 a.1 c d ((kget b.2 f).getD [])).bind fun e=>
  some (.inl (W (a.1+1),e))
 else
  some (.inr a.2)
def y3A(p0:AutT)(a:Int×(List (Int×List Int))×(List (Int×List (Int×Int×Int)))):Option ((Int×(List (Int×List Int))×(List (Int×List (Int×Int×Int))))⊕((List (Int×List Int))×(List (Int×List (Int×Int×Int))))):=
 if decide (a.1<(p0.2.2.2.length:Int)) then
  (idx p0.2.2.2 a.1).bind fun b=>
  (app ((kget a.2.2 b.2.1).getD []) ([b]:List (Int×Int×Int))).bind fun c=>
  (app ((kget a.2.1 b.2.1).getD []) ([b.1]:List Int)).bind fun d=>
  some (.inl (W (a.1+1),(kput a.2.1 b.2.1 d),(kput a.2.2 b.2.1 c)))
 else
  some (.inr a.2)
def yM(p0:AutT)(p1:List Int):Option (CodT×Int):=
 (y1p p0).bind fun f=>
 if(f != 0) then
  some (((0,0,0,([]:List Bool),([]:List (Int×Int))),([]:List Int),([]:List Int),0),f)
 else
  (y1l p1 32).bind fun g=>
  if(g != 0) then
   some (((0,0,0,([]:List Bool),([]:List (Int×Int))),([]:List Int),([]:List Int),0),g)
  else
   (yA p1 p0.1).bind fun j=>
   if(!j) then
    some (((0,0,0,([]:List Bool),([]:List (Int×Int))),([]:List Int),([]:List Int),0),9)
   else
    if(p0.2.1==0) then
     some (((0,0,0,([]:List Bool),([]:List (Int×Int))),([]:List Int),([]:List Int),0),21)
    else
     if((decide (p0.2.1>64))||(decide ((p0.2.2.2.length:Int)>256))) then
      some (((0,0,0,([]:List Bool),([]:List (Int×Int))),([]:List Int),([]:List Int),0),3)
     else
      (iter (y3A p0) (0,([]:List (Int×List Int)),([]:List (Int×List (Int×Int×Int))))).bind fun b=>
      (iter (y3z p0 p1 b) (0,([]:List (Int×Int)),(p0.1.length:Int),(W ((p1.length:Int)+1)))).bind fun e=>
      (iter (y3y p1 b) (0,e)).bind fun a=>
      (mkL (W (p0.2.1+1)) false).bind fun c=>
      (idx c 0).bind fun k=>
      (upd c 0 true).bind fun d=>
      (yT p0.1).bind fun h=>
      (yT p1).bind fun i=>
      some (((a.2.1,a.2.2,(d.length:Int),d,a.1),h,i,p0.2.1),0)
theorem yaY{p0:AutT}{p1:List Int}{r:CodT×Int}(hm:yM p0 p1=some r):
    F0 120 [.a (lx35 p0),.f qI p1] [] (.tp [.a [lI r.1.1.1,lI r.1.1.2.1,lI r.1.1.2.2.1,lH 0,lH 1,lH 2,lH 3,lI r.1.2.2.2],.i r.2]) [ROW rB 4 r.1.1.2.2.2.1,ROW rE302 302 r.1.1.2.2.2.2,rwI r.1.2.1,rwI r.1.2.2.1]:=by
  refine Fw.mk2 Tryz.func120 Tryz.ntmps120 R (fun C=>?_) R;refine .sr (.bo 0 R (.al 1 zz193 R (.an R (.seq (.sr (.lg (lx35 p0) ag35 R (.B R) R (bS hm fun r1 b4 hm=> .c0 (y4R b4) cf101 R (.an R (.sr (.mv R (.bi R (.ns ?_))))))))))));refine .cc hm R (fun hm=>?_) fun hm=>?_
  ·refine .sr (.bu [lI 0,lI 0,lI 0,lN,lN,lN,lN,lI 0] pl193 R (.mv R (.st ag193.sz R (.an R (.ret (.seqR (.nlb rB 4 1 3 R R (.nlb rE302 302 1 4 R R (.nlb qI 3 1 5 R R (.nlb qI 3 1 6 R R ?_))))))))));cases hm;exact .rr [2,3,4,5] Tryz.results120 (.cell R R ag193 R (.tmp R .nil)) R I3 ⟨⟨_,R,I4⟩,⟨_,R,I4⟩,⟨_,R,I4⟩,⟨_,R,I4⟩,trivial⟩
  ·refine .skip (.seqN (.seq (.sr (.mv R (bS hm fun r2 b5 hm=> .c0 (y2K b5) cf25 R (.an R (.sr (.mv R (.bi R (.ns ?_))))))))));refine .cc hm R (fun hm=>?_) fun hm=>?_
   ·refine .sr (.bu [lI 0,lI 0,lI 0,lN,lN,lN,lN,lI 0] pl193 R (.mv R (.st ag193.sz R (.an R (.ret (.seqR (.nlb rB 4 1 3 R R (.nlb rE302 302 1 4 R R (.nlb qI 3 1 5 R R (.nlb qI 3 1 6 R R ?_))))))))));cases hm;exact .rr [2,3,4,5] Tryz.results120 (.cell R R ag193 R (.tmp R .nil)) R I3 ⟨⟨_,R,I4⟩,⟨_,R,I4⟩,⟨_,R,I4⟩,⟨_,R,I4⟩,trivial⟩
   ·refine .skip (.seqN (.seq (.block (.sr (.mv R (.fa yz R (.lb nag32 R (bS hm fun r3 b6 hm=> .c0 (y6y b6) cf26 R (.no R (.an R ?_))))))))));refine .cc hm R (fun hm=>?_) fun hm=>?_
    ·refine .sr (.bu [lI 0,lI 0,lI 0,lN,lN,lN,lN,lI 0] pl193 R (.st ag193.sz R (.an R (.ret (.blkR (.seqR (.nlb rB 4 1 3 R R (.nlb rE302 302 1 4 R R (.nlb qI 3 1 5 R R (.nlb qI 3 1 6 R R ?_))))))))));cases hm;exact .rr [2,3,4,5] Tryz.results120 (.cell R R ag193 R (.tmp R .nil)) R I3 ⟨⟨_,R,I4⟩,⟨_,R,I4⟩,⟨_,R,I4⟩,⟨_,R,I4⟩,trivial⟩
    ·refine .sr (.fa y1W R (.lb nag3 R (.bi R (.an R ?_))));refine .cc hm R (fun hm=>?_) fun hm=>?_
     ·refine .sr (.bu [lI 0,lI 0,lI 0,lN,lN,lN,lN,lI 0] pl193 R (.st ag193.sz R (.an R (.ret (.blkR (.seqR (.nlb rB 4 1 3 R R (.nlb rE302 302 1 4 R R (.nlb qI 3 1 5 R R (.nlb qI 3 1 6 R R ?_))))))))));cases hm;exact .rr [2,3,4,5] Tryz.results120 (.cell R R ag193 R (.tmp R .nil)) R I3 ⟨⟨_,R,I4⟩,⟨_,R,I4⟩,⟨_,R,I4⟩,⟨_,R,I4⟩,trivial⟩
     ·refine .sr (.fa y1W R (.lb nag3 R (.bi R (.mv R ?_))));refine .cut 5 (fun (v4:Bool)=>((decide (p0.2.1>64))||(decide ((p0.2.2.2.length:Int)>256)))=v4) (fun v4=>⟨[(51,.b v4),(4,.q 1 0),(2,.q 0 0),(1,.f qI p1)],[(1,.bx 193 [lI 0,lI 0,lI 0,lN,lN,lN,lN,lI 0]),(0,.bx 35 (lx35 p0))],2⟩) ?_ ?_
      · rintro _ rfl;refine .an R ?_;refine .cc hm R (fun hm=>?_) fun hm=>?_
        ·refine .sr (.bu [lI 0,lI 0,lI 0,lN,lN,lN,lN,lI 0] pl193 R (.st ag193.sz R (.an R (.ret (.blkR (.seqR (.nlb rB 4 1 3 R R (.nlb rE302 302 1 4 R R (.nlb qI 3 1 5 R R (.nlb qI 3 1 6 R R ?_))))))))));cases hm;exact .rr [2,3,4,5] Tryz.results120 (.cell R R ag193 R (.tmp R .nil)) R I3 ⟨⟨_,R,I4⟩,⟨_,R,I4⟩,⟨_,R,I4⟩,⟨_,R,I4⟩,trivial⟩
        ·refine .skip (.blkN (.seqN (.sr (.fa yz R (.lb nag32 R (.ln sl32 R (.mv R (.ln sl32 R (.bi R (.bu [lN,lI p0.1.length,lI (W ((p1.length:Int)+1))] pl269 R (.bo 2 R (.an R (.sr (.op (O.mkC y4Q 124 3 R Z R) R (.op (O.mkM flr3 3 4 R Z R) R (.sa R (.an R (.seq (.sr (.fa yB R (.lb nag33 R (.ln sl33 R (.mv R (.ns (.block (bS hm fun t K hm=>?_))))))))))))))))))))))))));refine .cut1 (z:= .exit 1) t (fun (t:(List (Int×List Int))×(List (Int×List (Int×Int×Int))))=>⟨[(10,.h 0),(9,.h 1),(8,.q 2 0),(4,.q 3 0),(2,.q 4 0),(1,.f qI p1)],[(0,MTB flr3 3 none t.1),(1,MTC y4Q 124 none t.2),(2,.bx 269 [lN,lI p0.1.length,lI (W ((p1.length:Int)+1))]),(3,.bx 193 [lI 0,lI 0,lI 0,lN,lN,lN,lN,lI 0]),(4,.bx 35 (lx35 p0))],5⟩) ?_ fun b1=>?_
         · skip
           refine .blkE (.seqN (.seq (.sr (.fa yz R (.lb nag32 R (.ln sl32 R (.mv R (.ns (.block (bS hm fun y L hm=>?_))))))))));refine .cut1 (z:= .exit 3) y (fun (y:(List (Int×Int))×Int×Int)=>⟨[(10,.h 0),(8,.q 1 0),(4,.q 3 0),(2,.q 4 0),(1,.f qI p1)],[(0,MTB flr3 3 none t.1),(1,.bx 269 [lH 2,lI y.2.1,lI y.2.2]),(2,ROW rE302 302 y.1),(3,.bx 193 [lI 0,lI 0,lI 0,lN,lN,lN,lN,lI 0]),(4,.bx 35 (lx35 p0))],5⟩) ?_ fun b2=>?_
           · skip
             refine .blkE (.seqN (.seq (.sr (.mv R (.ln sl32 R (.mv R (.ns (.block (bS hm fun j M hm=>?_)))))))));refine .cut1 (z:= .exit 5) j (fun (j:(List (Int×Int))×Int×Int)=>⟨[(8,.q 0 0),(4,.q 2 0),(2,.q 3 0),(1,.f qI p1)],[(0,.bx 269 [lH 1,lI j.2.1,lI j.2.2]),(1,ROW rE302 302 j.1),(2,.bx 193 [lI 0,lI 0,lI 0,lN,lN,lN,lN,lI 0]),(3,.bx 35 (lx35 p0))],4⟩) ?_ fun b3=>?_
             · skip
               refine .blkE (.seqN (.sr (.fa y1W R (.lb nag3 R (.bi R (bS hm fun c6 X hm=> .op (O.mk (z:=false) 4 Tryz.underlying144 zr4 R R Z R R X R) R (.an R (.sr (.mv R (bS hm fun c7 F hm=> .op (O.ir sl144 Z R R R F R) R (bS hm fun D Y hm=> .op (O.su (z:=true) nag4.sz Z R R F Y R R R lv4 R .b) R (.ns (.seq ?_)))))))))))));refine .sub (τ:=⟨[(17,.h 4),(8,.q 0 0),(4,.q 2 0),(2,.q 3 0),(1,.f qI p1)],[(4,ROW rB 4 D),(0,.bx 269 [lH 1,lI j.2.1,lI j.2.2]),(1,ROW rE302 302 j.1),(2,.bx 193 [lI 0,lI 0,lI 0,lN,lN,lN,lN,lI 0]),(3,.bx 35 (lx35 p0))],5⟩) ?_ [] R;refine bS hm fun G N hm=>bS hm fun H P hm=>?_;refine .drg 7 [(5,[]),(5,[oT]),(5,[oT,oT]),(5,tT 3),(5,[]),(5,[oF,oF,oF,oF,oT]),(5,[oF,oF,oF,oF,oT,oT]),(5,fA 4 (tT 3)),(5,[]),(5,[oF,oF,oF,oF,oF,oF,oF,oF,oT]),(5,[]),(5,[]),(5,[oF,oF,oF,oF,oF,oF,oF,oF,oF,oF,oF,oT]),(5,[oF,oF,oF,oF,oF,oF,oF,oF,oF,oF,oF,oT,oT]),(5,fA 11 (tT 3)),(5,tT 15),(5,[]),(5,[oF,oF,oF,oF,oF,oF,oF,oF,oF,oF,oF,oF,oF,oF,oF,oF,oT]),(5,[oF,oF,oF,oF,oF,oF,oF,oF,oF,oF,oF,oF,oF,oF,oF,oF,oT,oT]),(5,[]),(6,fA 16 (tT 4)),(5,[]),(5,[oF,oF,oF,oF,oF,oF,oF,oF,oF,oF,oF,oF,oF,oF,oF,oF,oF,oF,oF,oF,oF,oT]),(7,tT 23),(7,tT 24),(7,tT 25)] [_,_,_,_,_,_,_,_,_,_,_,_,_,_,_,_,_,_,_,_,_,_,_,_,_,_] ⟨[(5,.i 0),(4,.q 2 0)],[(2,.bx 193 [lI j.2.1,lI j.2.2,lI D.length,lH 4,lH 1,lH 5,lH 6,lI p0.2.1]),(4,ROW rB 4 D),(1,ROW rE302 302 j.1),(5,rwI G),(6,rwI H)],7⟩ ⟨O.mv Z R R,O.nc .B Z R R,O.faP ydK Z R R,O.ld nag3 Z R (.B R) R R,O.mv Z R R,O.nc .B Z R R,O.faP yfT Z R R,O.ld nag3 Z R (.B R) R R,O.mv Z R R,O.lenH sl144 Z R R R,O.mv Z R R,O.mv Z R R,O.nc .B Z R R,O.faP y9V Z R R,O.ld y7t Z R (.B R) R R,O.bu (l:=[lI j.2.1,lI j.2.2,lI D.length,lH 4,lH 1]) pl191 R Z R R R,O.faP yz Z R R,O.ld nag32 Z R (.B R) R R,O.ca (r':= .h 5) [5] [(0,rwI G)] (some 6) (y4k N) cf103 R R Z R R R R ⟨⟨_,R,I4⟩,trivial⟩ I3 R,O.mv Z R R,O.ca (r':= .h 6) [6] [(0,rwI H)] (some 7) (y4k P) cf103 R R Z R R R R ⟨⟨_,R,I4⟩,trivial⟩ I3 R,O.faP y1W Z R R,O.ld nag3 Z R (.B R) R R,O.bu (l:=[lI j.2.1,lI j.2.2,lI D.length,lH 4,lH 1,lH 5,lH 6,lI p0.2.1]) pl193 R Z R R R,O.st ag193.sz Z R R R R R,O.as Z R R,trivial⟩ (by kernel_rfl) R ?_;refine .seqN (.ret ?_);cases hm;exact .rr [4,1,5,6] Tryz.results120 (.cell R R ag193 R (.tmp R .nil)) R I3 ⟨⟨_,R,I4⟩,⟨_,R,I4⟩,⟨_,R,I4⟩,⟨_,R,I4⟩,trivial⟩
             refine .fz 0 [10] [] R R fMt R R (.iter (fun (s:Int×(List (Int×Int))×Int×Int)=>⟨[(119,.i s.1),(118,.i p1.length),(117,.f qI p1),(10,.o (lM kvI (rL qI) t.1)),(8,.q 0 0),(4,.q 2 0),(2,.q 3 0),(1,.f qI p1)],[(0,.bx 269 [lH 1,lI s.2.2.1,lI s.2.2.2]),(1,ROW rE302 302 s.2.1),(2,.bx 193 [lI 0,lI 0,lI 0,lN,lN,lN,lN,lI 0]),(3,.bx 35 (lx35 p0))],4⟩) M [(0,1),(1,2),(2,3),(3,4)] R ?_);intro s c2 hm b0 a7;refine .sr (.bi R (.ns (.seq ?_)));refine .cc hm R (fun hm=>?_) fun hm=> .exit (.seqX (.seqX ((b3 _ (a7 _ (oj hm))).sub [] R)));refine .skip (.seqN (.seq (.block (.sr (.mv R (bS hm fun I a0 hm=> .ix sl32 a0 R (.le nag3 lv3 R (.sa R (.an R ?_)))))))));refine .sub (τ:=⟨[(16,.i I),(15,.i s.1),(119,.i s.1),(118,.i p1.length),(117,.f qI p1),(10,.o (lM kvI (rL qI) t.1)),(8,.q 0 0),(4,.q 2 0),(2,.q 3 0),(1,.f qI p1)],[(0,.bx 269 [lH 1,lI s.2.2.1,lI s.2.2.2]),(1,ROW rE302 302 s.2.1),(2,.bx 193 [lI 0,lI 0,lI 0,lN,lN,lN,lN,lI 0]),(3,.bx 35 (lx35 p0))],4⟩) ?_ [] R;refine bS hm fun c3 Q hm=>bS hm fun w S hm=>?_;refine .drg 5 [(4,[]),(4,[]),(4,[]),(4,[oF,oT,oT]),(4,[]),(4,[]),(4,[oF,oF,oF,oF,oT,oT]),(4,tT 7)] [_,_,_,_,_,_,_,_] ⟨[(119,.i s.1),(118,.i p1.length),(117,.f qI p1),(10,.o (lM kvI (rL qI) t.1)),(8,.q 0 0),(4,.q 2 0),(2,.q 3 0),(1,.f qI p1)],[(0,.bx 269 [lH 4,lI w.2.1,lI w.2.2]),(4,ROW rE302 302 w.1),(2,.bx 193 [lI 0,lI 0,lI 0,lN,lN,lN,lN,lI 0]),(3,.bx 35 (lx35 p0))],5⟩ ⟨O.mv Z R R,O.mv Z R R,O.mv Z R R,O.caZ (y6Y Q) cf183 R R Z R ⟨⟨R,(.q R ⟨.hr R,.rf,.rf,trivial⟩),trivial⟩,⟨R,LnL.rf⟩,trivial⟩ (fun _ _ _ _ _ h=>h) R,O.mv Z R R,O.mv Z R R,O.mlS (k:=I) yhd Z R (.o R) R,O.ca (r':= .tp []) [0,1,4] [(1,.u),(2,ROW rE302 302 w.1),(0,.bx 269 [lH 4,lI w.2.1,lI w.2.2])] (some 5) (y8C S) cf184 R R Z R R R R ⟨⟨_,R,fun _ _ _ _ _=>trivial⟩,⟨_,R,I4⟩,⟨_,R,I4⟩,trivial⟩ I3 R,trivial⟩ (by kernel_rfl) R ?_;exact .blkN (.seqN (.reg (.bi R (.mv R (.nil ((b0 _ (oj hm)).sub [(1,4)] R))))))
           refine .fz 1 [9] [] R R fMc R R (.nlb rE302 302 2 0 R R (.iter (fun (m:Int×(List (Int×Int))×Int×Int)=>⟨[(97,.i m.1),(96,.i p0.1.length),(95,.f qI p0.1),(10,.h 0),(9,.o (lM kvI (rL qT) t.2)),(8,.q 1 0),(4,.q 3 0),(2,.q 4 0),(1,.f qI p1)],[(0,MTB flr3 3 none t.1),(1,.bx 269 [lH 2,lI m.2.2.1,lI m.2.2.2]),(2,ROW rE302 302 m.2.1),(3,.bx 193 [lI 0,lI 0,lI 0,lN,lN,lN,lN,lI 0]),(4,.bx 35 (lx35 p0))],5⟩) L [(1,2),(2,5)] R ?_));intro m c1 hm a9 a6;refine .sr (.bi R (.ns (.seq ?_)));refine .cc hm R (fun hm=>?_) fun hm=> .exit (.seqX (.seqX ((b2 _ (a6 _ (oj hm))).sub [] R)));refine .skip (.seqN (.seq (.block (.sr (.mv R (bS hm fun J a1 hm=> .ix sl32 a1 R (.le nag3 lv3 R (.sa R (.an R ?_)))))))));refine .sub (τ:=⟨[(14,.i J),(13,.i m.1),(97,.i m.1),(96,.i p0.1.length),(95,.f qI p0.1),(10,.h 0),(9,.o (lM kvI (rL qT) t.2)),(8,.q 1 0),(4,.q 3 0),(2,.q 4 0),(1,.f qI p1)],[(0,MTB flr3 3 none t.1),(1,.bx 269 [lH 2,lI m.2.2.1,lI m.2.2.2]),(2,ROW rE302 302 m.2.1),(3,.bx 193 [lI 0,lI 0,lI 0,lN,lN,lN,lN,lI 0]),(4,.bx 35 (lx35 p0))],5⟩) ?_ [] R;refine bS hm fun c4 T hm=>bS hm fun c5 U hm=>bS hm fun x V hm=>?_;refine .drg 6 [(5,[]),(5,[]),(5,[]),(5,[]),(5,[oF,oF,oF,oT]),(5,fA 2 (tT 3)),(5,[]),(5,[]),(5,[oF,oF,oF,oF,oF,oF,oF,oT]),(5,fA 2 (tT 7)),(5,[]),(5,[]),(5,[oF,oF,oF,oF,oF,oF,oF,oF,oF,oF,oT,oT]),(5,tT 13)] [_,_,_,_,_,_,_,_,_,_,_,_,_,_] ⟨[(97,.i m.1),(96,.i p0.1.length),(95,.f qI p0.1),(10,.h 0),(9,.o (lM kvI (rL qT) t.2)),(8,.q 1 0),(4,.q 3 0),(2,.q 4 0),(1,.f qI p1)],[(0,MTB flr3 3 none t.1),(1,.bx 269 [lH 5,lI x.2.1,lI x.2.2]),(5,ROW rE302 302 x.1),(3,.bx 193 [lI 0,lI 0,lI 0,lN,lN,lN,lN,lI 0]),(4,.bx 35 (lx35 p0))],6⟩ ⟨O.mv Z R R,O.mv Z R R,O.mv Z R R,O.faP y1W Z R R,O.ld nag3 Z R (.B R) R R,O.caZ (y2O T) cf182 R R Z R ⟨⟨R,(.q R ⟨.hr R,.rf,.rf,trivial⟩),trivial⟩,⟨R,LnL.rf⟩,trivial⟩ (fun _ _ _ _ _ h=>h) R,O.mv Z R R,O.mv Z R R,O.len sl32 Z R R,O.caZ (y6Y U) cf183 R R Z R ⟨⟨R,(.q R ⟨.hr R,.rf,.rf,trivial⟩),trivial⟩,⟨R,LnL.rf⟩,trivial⟩ (fun _ _ _ _ _ h=>h) R,O.mv Z R R,O.mv Z R R,O.mlS (k:=J) ykf Z R (.o R) R,O.ca (r':= .tp []) [1,2,5] [(1,.u),(2,ROW rE302 302 x.1),(0,.bx 269 [lH 5,lI x.2.1,lI x.2.2])] (some 6) (y8T V) cf181 R R Z R R R R ⟨⟨_,R,fun _ _ _ _ _=>trivial⟩,⟨_,R,I4⟩,⟨_,R,I4⟩,trivial⟩ I3 R,trivial⟩ (by kernel_rfl) R ?_;exact .blkN (.seqN (.reg (.bi R (.mv R (.nil ((a9 _ (oj hm)).sub [(2,5)] R))))))
         refine .iter (fun (v:Int×(List (Int×List Int))×(List (Int×List (Int×Int×Int))))=>⟨[(66,.i v.1),(65,.i p0.2.2.2.length),(64,.f qT p0.2.2.2),(10,.h 0),(9,.h 1),(8,.q 2 0),(4,.q 3 0),(2,.q 4 0),(1,.f qI p1)],[(0,MTB flr3 3 none v.2.1),(1,MTC y4Q 124 none v.2.2),(2,.bx 269 [lN,lI p0.1.length,lI (W ((p1.length:Int)+1))]),(3,.bx 193 [lI 0,lI 0,lI 0,lN,lN,lN,lN,lI 0]),(4,.bx 35 (lx35 p0))],5⟩) K [(0,4),(1,3),(3,1),(4,0)] R ?_;intro v b9 hm a8 a5;refine .sr (.bi R (.ns (.seq ?_)));refine .cc hm R (fun hm=>?_) fun hm=> .exit (.seqX (.seqX ((b1 _ (a5 _ (oj hm))).sub [] R)));refine .skip (.seqN (.seq (.block (.sr (bS hm fun g a2 hm=> .ix sl33 a2 R (.lg [lI g.1,lI g.2.1,lI g.2.2] ag124 R (.E lv124) R (.al 5 zz124 R (.st ag124.sz R (.ns ?_)))))))));refine .sub (τ:=⟨[(12,.q 5 0),(66,.i v.1),(65,.i p0.2.2.2.length),(64,.f qT p0.2.2.2),(10,.h 0),(9,.h 1),(8,.q 2 0),(4,.q 3 0),(2,.q 4 0),(1,.f qI p1)],[(5,.bx 124 [lI g.1,lI g.2.1,lI g.2.2]),(0,MTB flr3 3 none v.2.1),(1,MTC y4Q 124 none v.2.2),(2,.bx 269 [lN,lI p0.1.length,lI (W ((p1.length:Int)+1))]),(3,.bx 193 [lI 0,lI 0,lI 0,lN,lN,lN,lN,lI 0]),(4,.bx 35 (lx35 p0))],6⟩) ?_ [] R;refine bS hm fun b7 a3 hm=>bS hm fun b8 a4 hm=>?_;refine .drz 10 [(9,1),(9,6),(12,7),(16,0),(16,8),(20,9),(21,1)] [(6,[],[0,1],[]),(6,[],[0,1],[]),(6,[oF,oT],[0,1],[]),(6,[],[0,1],[]),(6,[],[0,1],[]),(6,[oF,oF,oF,oF,oT],[0,1],[]),(6,[],[0],[]),(6,[],[0],[]),(6,[oF,oF,oF,oF,oF,oF,oF,oT],[0],[]),(6,[oF,oF,oF,oF,oF,oF,oT,oT,oT],[0],[]),(6,[],[0,1],[]),(6,[oF,oF,oF,oF,oF,oF,oF,oF,oF,oF,oT],[0,1],[]),(7,[oF,oF,oF,oF,oF,oF,oT,oT,oT,oT,oT,oT],[0],[]),(6,[],[1],[]),(6,[],[1],[]),(6,[oF,oF,oF,oF,oF,oF,oF,oF,oF,oF,oF,oF,oF,oF,oT],[1],[]),(6,[oF,oF,oF,oF,oF,oF,oF,oF,oF,oF,oF,oF,oF,oT,oT,oT],[1],[]),(6,[],[0,1],[]),(6,[oF,oF,oF,oF,oF,oF,oF,oF,oF,oF,oF,oF,oF,oF,oF,oF,oF,oT],[0,1],[]),(6,[oF,oF,oF,oF,oF,oF,oF,oF,oF,oF,oF,oF,oF,oF,oF,oF,oF,oT,oT],[0,1],[]),(9,[oF,oF,oF,oF,oF,oF,oT,oT,oT,oT,oT,oT,oT,oT,oT,oT,oT,oT,oT,oT],[],[(9,6)]),(10,[oT,oT,oT,oF,oF,oF,oT,oT,oT,oT,oT,oT,oT,oT,oT,oT,oT,oT,oT,oT,oT],[],[(9,6),(16,8)]),(10,[oT,oT,oT,oF,oF,oF,oT,oT,oT,oT,oT,oT,oT,oT,oT,oT,oT,oT,oT,oT,oT,oT],[],[(9,1),(9,6),(16,8)]),(10,[oT,oT,oT,oF,oF,oF,oT,oT,oT,oT,oT,oT,oT,oT,oT,oT,oT,oT,oT,oT,oT,oT,oT],[],[(9,1),(9,6),(16,8)]),(10,[oT,oT,oT,oT,oT,oT,oT,oT,oT,oT,oT,oT,oT,oT,oT,oT,oT,oT,oT,oT,oT,oT,oT,oT],[],[(9,1),(9,6),(12,7),(16,8),(21,1)])] [_,_,_,_,_,_,_,_,_,_,_,_,_,_,_,_,_,_,_,_,_,_,_,_,_] ⟨[(66,.i v.1),(65,.i p0.2.2.2.length),(64,.f qT p0.2.2.2),(10,.h 0),(9,.h 1),(8,.q 2 0),(4,.q 3 0),(2,.q 4 0),(1,.f qI p1)],[(0,MTB flr3 3 none (kput v.2.1 g.2.1 b8)),(1,MTC y4Q 124 none (kput v.2.2 g.2.1 b7)),(2,.bx 269 [lN,lI p0.1.length,lI (W ((p1.length:Int)+1))]),(3,.bx 193 [lI 0,lI 0,lI 0,lN,lN,lN,lN,lI 0]),(4,.bx 35 (lx35 p0))],10⟩ ⟨O.mv Z R R,O.faP y2I Z R R,O.ld nag3 Z R (.B R) R R,O.mv Z R R,O.faP y2I Z R R,O.ld nag3 Z R (.B R) R R,O.mv Z R R,O.faP y2I Z R R,O.ld nag3 Z R (.B R) R R,O.luC (k:=g.2.1) 6 yhf R Z R R (.o R) R,O.lg (l':=[lI g.1,lI g.2.1,lI g.2.2]) ag124 Z R (.B R) R R R,O.bsF (r:=qT) (zs:=([g]:List (Int×Int×Int))) bs33 R R Z R R R (.c (.p .k (.p .k .k)) .n) R R R,O.ap 7 Tryz.underlying33 el124 R R Z R R (.fr R) a3 R,O.mv Z R R,O.faP y2I Z R R,O.ld nag3 Z R (.B R) R R,O.luM (k:=g.2.1) 8 ydh R Z R R (.o R) R,O.faP y1A Z R R,O.ld nag3 Z R (.B R) R R,O.bsF (r:=qI) (zs:=([g.1]:List Int)) bs32 R R Z R R R (.c .k .n) R R R,O.ap 9 Tryz.underlying32 el3 R R Z R R (.fr R) a4 R,O.enC yhf Z R R R R,O.ex Z R R R,O.esC Z R R R R R R,O.muM (k:=g.2.1) ydh Z R R (.o R) R R R (fun _ e=>by cases e;rfl),trivial⟩ (by kernel_rfl) R ?_
         exact .blkN (.seqN (.reg (.bi R (.mv R (.nil ((a8 _ (oj hm)).sub [] R))))))
      · intro J5;rcases yEt (decide (p0.2.1>64)) with hc|hc
        · refine .know (d:=46) R hc ?_;exact .sk R (.sk R (.sk R (.sk R (.pT R ((J5 true (orT hc).symm).sub [] R)))))
        · refine .know (d:=46) R hc ?_;exact .fag yB R (.lbg nag33 R (.op (O.len sl33 (Gu.mk R R) R R) R (.bg R (.pF R ((J5 (decide ((p0.2.2.2.length:Int)>256)) (orF hc).symm).sub [] R)))))
def y4t(a:Int×List Int)(b:List Int):Option ((Int×List Int)⊕(List Int)):=
 some (.inl (W (a.1+1),b))
def y6k(p0:PbT)(a:Int×List Int):Option ((Int×List Int)⊕(List Int)):=
 if decide (a.1<(p0.2.1.1.length:Int)) then
  (idx p0.2.1.1 a.1).bind fun b=>
  (yf p0.2.2 b).bind fun c=>
  if(!c) then
   (app a.2 ([b]:List Int)).bind fun d=>
   y4t a d
  else
   y4t a a.2
 else
  some (.inr a.2)
def y6a(p0:PbT):Option (CodT×Int):=
 (iter (y6k p0) (0,([]:List Int))).bind fun a=>
 (yM p0.2.1 a).bind fun b=>
 some b
theorem y8O{p0:PbT}{r:CodT×Int}(hm:y6a p0=some r):
  F0 131 [.a (lx37 p0)] [] (.tp [.a [lI r.1.1.1,lI r.1.1.2.1,lI r.1.1.2.2.1,lH 0,lH 1,lH 2,lH 3,lI r.1.2.2.2],.i r.2]) [ROW rB 4 r.1.1.2.2.2.1,ROW rE302 302 r.1.1.2.2.2.2,rwI r.1.2.1,rwI r.1.2.2.1]:=by
 refine Fw.mk2 Tryz.func131 Tryz.ntmps131 R (fun C=>?_) R;refine .sr (.bo 0 R (.al 1 zz193 R (.an R (.sr (.an R (.seq (.sr (.fa y5Z R (.fa yz R (.lb nag32 R (.ln sl32 R (.mv R (.ns (.block (bS hm fun j m hm=>?_)))))))))))))));refine .cut1 (z:= .exit 0) j (fun (j:List Int)=>⟨[(4,.h 0),(2,.q 1 0),(1,.q 2 0)],[(0,rwI j),(1,.bx 193 [lI 0,lI 0,lI 0,lN,lN,lN,lN,lI 0]),(2,.bx 37 (lx37 p0))],3⟩) ?_ fun w=>?_
 ·skip
  refine .blkE (.seqN (.sr (.fa y5Z R (.lg (lx35 p0.2.1) ag35 R (.B R) R (.mv R (bS hm fun b o hm=> .op (O.caY (r':= .tp [.a [lI b.1.1.1,lI b.1.1.2.1,lI b.1.1.2.2.1,lH 3,lH 4,lH 5,lH 6,lI b.1.2.2.2],.i b.2]) [3,4,5,6] [(0,ROW rB 4 b.1.1.2.2.2.1),(1,ROW rE302 302 b.1.1.2.2.2.2),(2,rwI b.1.2.1),(3,rwI b.1.2.2.1)] (some 7) (yaY o) cf120 R R Z R R ⟨⟨R,LnL.rf⟩,⟨R,.hr R,trivial⟩,trivial⟩ R ⟨.row flr4,.row ykg,.row flr3,.row flr3,trivial⟩ (fun _ _ _ _ h=>h) ⟨⟨_,R,I4⟩,⟨_,R,I4⟩,⟨_,R,I4⟩,⟨_,R,I4⟩,trivial⟩ I3 R) R (.ex R (.ex R (.st ag193.sz R (.an R (.ret ?_)))))))))));cases hm;exact .rr [3,4,5,6] Tryz.results131 (.cell R R ag193 R (.tmp R .nil)) R I3 ⟨⟨_,R,I4⟩,⟨_,R,I4⟩,⟨_,R,I4⟩,⟨_,R,I4⟩,trivial⟩
 refine .nlg qI 3 4 0 R R (.iter (fun (d:Int×List Int)=>⟨[(11,.i d.1),(10,.i p0.2.1.1.length),(9,.f qI p0.2.1.1),(4,.h 0),(2,.q 1 0),(1,.q 2 0)],[(0,rwI d.2),(1,.bx 193 [lI 0,lI 0,lI 0,lN,lN,lN,lN,lI 0]),(2,.bx 37 (lx37 p0))],3⟩) m [(0,2),(2,0)] R ?_);intro d l hm v u;refine .sr (.bi R (.ns (.seq ?_)));refine .cc hm R (fun hm=>?_) fun hm=> .exit (.seqX (.seqX ((w _ (u _ (oj hm))).sub [] R)));refine .skip (.seqN ?_);refine .join1 (fun (e:List Int)=>y4t d e=some l) (fun e=>⟨[(4,.h 0),(11,.i d.1),(10,.i p0.2.1.1.length),(9,.f qI p0.2.1.1),(2,.q 1 0),(1,.q 2 0)],[(0,rwI e),(1,.bx 193 [lI 0,lI 0,lI 0,lN,lN,lN,lN,lI 0]),(2,.bx 37 (lx37 p0))],3⟩) ?_ ?_
 ·intro e hm;exact .reg (.bi R (.mv R (.nil ((v _ (oj hm)).sub [] R))))
 ·intro g;refine .block (.sr (bS hm fun x s hm=> .ix sl32 s R (.le nag3 lv3 R (.an R (.sr (.fa y8y R (.lb nag32 R (.mv R (bS hm fun y p hm=> .c0 (yj p) cf104 R (.no R (.ns ?_)))))))))));exact .cc hm R (fun hm=> .reg (.mv R (.mv R (.bf (r:=qI) ([x]:List Int) bs32 R (.c .k .n) R (bS hm fun D t hm=> .op (O.ap 3 Tryz.underlying32 el3 R R Z R R (.fr R) t R) R (.sa R (.nil (.blkN ((g _ hm).sub [(0,3)] R))))))))) fun hm=> .skip (.blkN ((g _ hm).sub [] R))
def yD(p0:PbT):Option Int:=
 (y8B p0).bind fun a=>
 if(a != 0) then
  some a
 else
  if(p0.1.2.1==0) then
   some 12
  else
   (y6a p0).bind fun b=>
   some b.2
theorem y7m{p0:PbT}{r:Int}(hm:yD p0=some r):
    F0 62 [.a (lx37 p0)] [] (.i r) []:=by
  refine Fw.mk2 Tryz.func62 Tryz.ntmps62 R (fun C=>?_) R;refine .sr (.bo 0 R (.an R (.seq (.sr (.lg (lx37 p0) ag37 R (.B R) R (bS hm fun e c hm=> .c0 (ydQ c) cf119 R (.an R (.sr (.mv R (.bi R (.ns ?_)))))))))));refine .cc hm R (fun hm=>?_) fun hm=>?_
  ·refine .sr (.mv R (.an R (.ret (.seqR ?_))));cases hm;exact .rr [] Tryz.results62 (.tmp R .nil) R I3 trivial
  ·refine .skip (.seqN (.seq (.sr (.fa y3Q R (.fa y1W R (.lb nag3 R (.bi R (.ns ?_))))))));refine .cc hm R (fun hm=>?_) fun hm=>?_
   ·refine .sr (.an R (.ret (.seqR ?_)));cases hm;exact .rr [] Tryz.results62 (.tmp R .nil) R I3 trivial
   ·refine .skip (.seqN (.sr (.lg (lx37 p0) ag37 R (.B R) R (bS hm fun b d hm=> .op (O.ca (r':= .tp [.a [lI b.1.1.1,lI b.1.1.2.1,lI b.1.1.2.2.1,lH 1,lH 2,lH 3,lH 4,lI b.1.2.2.2],.i b.2]) [1,2,3,4] [(0,ROW rB 4 b.1.1.2.2.2.1),(1,ROW rE302 302 b.1.1.2.2.2.2),(2,rwI b.1.2.1),(3,rwI b.1.2.2.1)] (some 5) (y8O d) cf131 R R Z R R R R ⟨⟨_,R,I4⟩,⟨_,R,I4⟩,⟨_,R,I4⟩,⟨_,R,I4⟩,trivial⟩ I3 R) R (.mv R (.ex R (.ex R (.al 5 zz193 R (.st ag193.sz R (.an R (.sr (.mv R (.an R (.ret ?_))))))))))))));cases hm;exact .rr [] Tryz.results62 (.tmp R .nil) R I3 trivial
def y3q(p0:PbT)(p1:List Int)(a:Int):Option (Int⊕(Unit⊕Int)):=
 if decide (a<(p1.length:Int)) then
  (idx p1 a).bind fun b=>
  (yf p0.1.1 b).bind fun c=>
  if(!c) then
   some (.inr (.inr (9)))
  else
   (yf p0.2.2 b).bind fun d=>
   if(!d) then
    some (.inr (.inr (13)))
   else
    (slc p1 0 a).bind fun f=>
    (yf f b).bind fun e=>
    if e then
     some (.inr (.inr (8)))
    else
     some (.inl (W (a+1)))
 else
  some (.inr (.inl ()))
def y4u(p0:PbT)(p1:List Int):Option Int:=
 if decide ((p1.length:Int)>3) then
  some 3
 else
  (iter (y3q p0 p1) 0).bind fun b=>
  match b with
  | .inl c=>
   some 0
  | .inr (a)=>
   some a
theorem y9F{p0:PbT}{p1:List Int}{r:Int}(hm:y4u p0 p1=some r):
    F0 137 [.a (lx37 p0),.f qI p1] [] (.i r) []:=by
  refine Fw.mk2 Tryz.func137 Tryz.ntmps137 R (fun C=>?_) R;refine .sr (.bo 0 R (.an R (.seq (.sr (.mv R (.ln sl32 R (.bi R (.ns ?_))))))));refine .cc hm R (fun hm=>?_) fun hm=>?_
  ·refine .sr (.an R (.ret (.seqR ?_)));cases hm;exact .rr [] Tryz.results137 (.tmp R .nil) R I3 trivial
  ·refine .skip (.seqN (.seq (.sr (.mv R (.ln sl32 R (.mv R (.ns (.block (bS hm fun s o hm=>?_)))))))));refine .cutU (z:= .exit 0) (fun e=> .inl e=s) (fun (e:Unit)=>⟨[],[],0⟩) ?_ fun n=>?_
   · rintro e rfl;dsimp only at hm;refine .blkE (.seqN (.sr (.an R (.ret ?_))));cases hm;exact .rr [] Tryz.results137 (.tmp R .nil) R I3 trivial
   refine .cutU (z:= .ret) (fun c=> .inr (c)=s) (fun (c:Int)=>⟨[(4,.i c)],[],0⟩) ?_ fun d=>?_
   · rintro c rfl;dsimp only at hm;refine .blkR (.seqR ?_);cases hm;exact .rr [] Tryz.results137 (.tmp R .nil) R I3 trivial
   refine .iter (fun (g:Int)=>⟨[(12,.i g),(11,.i p1.length),(10,.f qI p1),(2,.q 0 0),(1,.f qI p1)],[(0,.bx 37 (lx37 p0))],1⟩) o [] R ?_;intro g t hm p b;refine .sr (.bi R (.ns (.seq ?_)));refine .cc hm R (fun hm=>?_) fun hm=> .exit (.seqX (.seqX ((n _ (b _ (oj hm))).sub [] R)));refine .skip (.seqN (.seq (.block (.sr (.mv R (bS hm fun x l hm=> .ix sl32 l R (.le nag3 lv3 R (.sa R (.an R (.block (.sr (.fa y3Q R (.fa yz R (.lb nag32 R (.mv R (bS hm fun u h hm=> .c0 (yj h) cf104 R (.no R (.an R ?_))))))))))))))))));refine .cc hm R (fun hm=> .sr (.an R (.ret (.blkR (.blkR (.seqR (.seqR ((d _ (b _ (oj hm))).sub [] R)))))))) fun hm=>?_;refine .sr (.fa y8y R (.lb nag32 R (.mv R (bS hm fun v j hm=> .c0 (yj j) cf104 R (.no R (.an R ?_))))));refine .cc hm R (fun hm=> .sr (.an R (.ret (.blkR (.blkR (.seqR (.seqR ((d _ (b _ (oj hm))).sub [] R)))))))) fun hm=>?_;refine .sr (.mv R (.mv R (bS hm fun y m hm=> .op (O.sh sl32 Z R R m R) R (.mv R (bS hm fun w k hm=> .c0 (yj k) cf104 R (.an R ?_))))));exact .cc hm R (fun hm=> .sr (.an R (.ret (.blkR (.blkR (.seqR (.seqR ((d _ (b _ (oj hm))).sub [] R)))))))) fun hm=> .skip (.blkN (.blkN (.seqN (.reg (.bi R (.mv R (.nil ((p _ (oj hm)).sub [] R))))))))
def y2c(a:Int):Option (Int⊕(Unit⊕Int)):=
 some (.inl (W (a+1)))
def y2d(p0:PbT)(b:CycT)(a:Int):Option (Int⊕(Unit⊕Int)):=
 if decide (a<(([b.1,b.2.1]:List (List Int)).length:Int)) then
  (idx ([b.1,b.2.1]:List (List Int)) a).bind fun d=>
  (y4u p0 d).bind fun c=>
  if(c != 0) then
   some (.inr (.inr (c)))
  else
   some (.inl (W (a+1)))
 else
  some (.inr (.inl ()))
def y3r(p0:PbT)(p1:List CycT)(a:Int):Option (Int⊕(Unit⊕Int)):=
 if decide (a<(p1.length:Int)) then
  (idx p1 a).bind fun b=>
  (iter (y2d p0 b) 0).bind fun c=>
  match c with
  | .inl g=>
   if(b.2.2==(-1)) then
    y2c a
   else
    (yf p0.1.1 b.2.2).bind fun d=>
    if(!d) then
     some (.inr (.inr (9)))
    else
     (yf p0.2.2 b.2.2).bind fun e=>
     if e then
      some (.inr (.inr (13)))
     else
      y2c a
  | .inr (f)=>
   some (.inr (.inr (f)))
 else
  some (.inr (.inl ()))
def y4v(p0:PbT)(p1:List CycT):Option Int:=
 (yD p0).bind fun b=>
 if(b != 0) then
  some b
 else
  if decide ((p1.length:Int)>256) then
   some 3
  else
   (iter (y3r p0 p1) 0).bind fun a=>
   match a with
   | .inl d=>
    some 0
   | .inr (c)=>
    some c
theorem y9G{p0:PbT}{p1:List CycT}{r:Int}(hm:y4v p0 p1=some r):
    F0 65 [.a (lx37 p0),.f rE114 p1] [] (.i r) []:=by
  refine Fw.mk2 Tryz.func65 Tryz.ntmps65 R (fun C=>?_) R;refine .sr (.bo 0 R (.an R (.seq (.sr (.lg (lx37 p0) ag37 R (.B R) R (bS hm fun V N hm=> .c0 (y7m N) cf62 R (.an R (.sr (.mv R (.bi R (.ns ?_)))))))))));refine .cc hm R (fun hm=>?_) fun hm=>?_
  ·refine .sr (.mv R (.an R (.ret (.seqR ?_))));cases hm;exact .rr [] Tryz.results65 (.tmp R .nil) R I3 trivial
  ·refine .skip (.seqN (.seq (.sr (.mv R (.ln sl94 R (.bi R (.ns ?_)))))));refine .cc hm R (fun hm=>?_) fun hm=>?_
   ·refine .sr (.an R (.ret (.seqR ?_)));cases hm;exact .rr [] Tryz.results65 (.tmp R .nil) R I3 trivial
   ·refine .skip (.seqN (.seq (.sr (.mv R (.ln sl94 R (.mv R (.ns (.block (bS hm fun u w hm=>?_)))))))));refine .cutU (z:= .exit 0) (fun p=> .inl p=u) (fun (p:Unit)=>⟨[],[],0⟩) ?_ fun K=>?_
    · rintro p rfl;dsimp only at hm;refine .blkE (.seqN (.sr (.an R (.ret ?_))));cases hm;exact .rr [] Tryz.results65 (.tmp R .nil) R I3 trivial
    refine .cutU (z:= .ret) (fun g=> .inr (g)=u) (fun (g:Int)=>⟨[(4,.i g)],[],0⟩) ?_ fun k=>?_
    · rintro g rfl;dsimp only at hm;refine .blkR (.seqR ?_);cases hm;exact .rr [] Tryz.results65 (.tmp R .nil) R I3 trivial
    refine .iter (fun (d:Int)=>⟨[(21,.i d),(20,.i p1.length),(19,.f rE114 p1),(2,.q 0 0)],[(0,.bx 37 (lx37 p0))],1⟩) w [] R ?_;intro d t hm I e;refine .sr (.bi R (.ns (.seq ?_)));refine .cc hm R (fun hm=>?_) fun hm=> .exit (.seqX (.seqX ((K _ (e _ (oj hm))).sub [] R)));refine .skip (.seqN ?_);refine .join0 (y2c d=some t) (⟨[(21,.i d),(20,.i p1.length),(19,.f rE114 p1),(2,.q 0 0)],[(0,.bx 37 (lx37 p0))],1⟩) ?_ ?_
    · intro hm;exact .reg (.bi R (.mv R (.nil ((I _ (oj hm)).sub [] R))))
    · intro j;refine .block (.sr (bS hm fun b G hm=> .ix sl94 G R (.lg [lF qI b.1,lF qI b.2.1,lI b.2.2] ag114 R (.E lv114) R (.al 1 zz114 R (.st ag114.sz R (.ns (.seq (.sr (.fa yfU R (.lb nag32 R (.fa yfV R (.lb nag32 R (.op (O.bsF (r:=(rL qI)) (zs:=([b.1,b.2.1]:List (List Int))) bs53 R R Z R R R (.c .l (.c .l .n)) R R R) R (.ln sl53 R (.mv R (.ns (.block (bS hm fun v x hm=>?_))))))))))))))))));refine .cutU (z:= .exit 2) (fun s=> .inl s=v) (fun (s:Unit)=>⟨[(7,.q 0 0),(21,.i d),(20,.i p1.length),(19,.f rE114 p1),(2,.q 1 0)],[(0,.bx 114 [lF qI b.1,lF qI b.2.1,lI b.2.2]),(1,.bx 37 (lx37 p0))],2⟩) ?_ fun L=>?_
      · rintro s rfl;dsimp only at hm;refine .blkE (.seqN (.block (.sr (.fa y8R R (.lb nag3 R (.bi R (.an R ?_)))))));refine .cc hm R (fun hm=> .skip (.blkN (.blkN ((j hm).sub [(0,1)] R)))) fun hm=>?_;refine .sr (.fa y3Q R (.fa yz R (.lb nag32 R (.fa y8R R (.lb nag3 R (bS hm fun Q y hm=> .c0 (yj y) cf104 R (.no R (.an R ?_))))))));refine .cc hm R (fun hm=> .sr (.an R (.ret (.blkR (.blkR (.seqR (.seqR ((k _ (e _ (oj hm))).sub [] R)))))))) fun hm=>?_;refine .sr (.fa y8y R (.lb nag32 R (.fa y8R R (.lb nag3 R (bS hm fun S D hm=> .c0 (yj D) cf104 R (.an R ?_))))));exact .cc hm R (fun hm=> .sr (.an R (.ret (.blkR (.blkR (.seqR (.seqR ((k _ (e _ (oj hm))).sub [] R)))))))) fun hm=> .skip (.blkN (.blkN ((j hm).sub [(0,1)] R)))
      refine .cutU (z:= .ret) (fun h=> .inr (h)=v) (fun (h:Int)=>⟨[(4,.i h)],[],0⟩) ?_ fun M=>?_
      · rintro h rfl;dsimp only at hm;exact .blkR (.seqR (.blkR (.seqR (.seqR ((k _ (e _ (oj hm))).sub [] R)))))
      refine .iter (fun (o:Int)=>⟨[(31,.i o),(30,.i (([b.1,b.2.1]:List (List Int)).length:Int)),(29,.f (rL qI) ([b.1,b.2.1]:List (List Int))),(7,.q 0 0),(21,.i d),(20,.i p1.length),(19,.f rE114 p1),(2,.q 1 0)],[(0,.bx 114 [lF qI b.1,lF qI b.2.1,lI b.2.2]),(1,.bx 37 (lx37 p0))],2⟩) x [(0,1),(1,0)] R ?_;intro o P hm J m;refine .sr (.bi R (.ns (.seq ?_)));refine .cc hm R (fun hm=>?_) fun hm=> .exit (.seqX (.seqX ((L _ (m _ (oj hm))).sub [] R)));refine .skip (.seqN (.seq (.block (.sr (bS hm fun U H hm=> .ix sl53 H R (.le nag32 lv32 R (.an R (.sr (.lg (lx37 p0) ag37 R (.B R) R (.mv R (bS hm fun T F hm=> .c0 (y9F F) cf137 R (.an R (.sr (.mv R (.bi R (.ns ?_))))))))))))))));exact .cc hm R (fun hm=> .sr (.mv R (.an R (.ret (.blkR (.seqR (.seqR ((M _ (m _ (oj hm))).sub [] R)))))))) fun hm=> .skip (.blkN (.seqN (.reg (.bi R (.mv R (.nil ((J _ (oj hm)).sub [] R)))))))
def y3I(p0:Int×Int×Int×List Bool×(List (Int×Int)))(a:Int):Option (Int⊕(Unit⊕Unit)):=
 if decide (a<3) then
  (idx ([p0.1,p0.2.1,p0.2.2.1]:List Int) a).bind fun b=>
  if((decide (b<0))||(decide (b>256))) then
   some (.inr (.inr (())))
  else
   some (.inl (W (a+1)))
 else
  some (.inr (.inl ()))
def y4M(p0:Int×Int×Int×List Bool×(List (Int×Int))):Option Int:=
 (iter (y3I p0) 0).bind fun a=>
 match a with
 | .inl b=>
  if((p0.2.2.2.1.length:Int) != p0.2.2.1) then
   some 4
  else
   if decide ((p0.2.2.2.2.length:Int)>2048) then
    some 3
   else
    some 0
 | .inr (c)=>
  some 2
theorem y9N{p0:Int×Int×Int×List Bool×(List (Int×Int))}{r:Int}(hm:y4M p0=some r):
    F0 269 [.a (lx191 p0)] [] (.i r) []:=by
  refine Fw.mk2 Tryz.func269 Tryz.ntmps269 R (fun C=>?_) R;refine .sr (.bo 0 R (.an R (.seq (.sr (.fa y9W R (.lb nag3 R (.fa y9X R (.lb nag3 R (.fa yaQ R (.lb nag3 R (.bu [lI p0.1,lI p0.2.1,lI p0.2.2.1] pl367 R (.mv R (.ns (.block (bS hm fun s o hm=>?_)))))))))))))));refine .cutU (z:= .exit 0) (fun l=> .inl l=s) (fun (l:Unit)=>⟨[(1,.q 0 0)],[(0,.bx 191 (lx191 p0))],1⟩) ?_ fun K8=>?_
  · rintro l rfl;dsimp only at hm;refine .blkE (.seqN (.seq (.block (.sr (.fa yfW R (.lb y2q R (.ln sl144 R (.fa yaQ R (.lb nag3 R (.bi R (.an R ?_)))))))))));refine .cc hm R (fun hm=>?_) fun hm=>?_
    ·refine .sr (.an R (.ret (.blkR (.seqR ?_))));cases hm;exact .rr [] Tryz.results269 (.tmp R .nil) R I3 trivial
    ·refine .sr (.fa y9Y R (.lb y7t R (.ln sl189 R (.bi R (.an R ?_)))));refine .cc hm R (fun hm=>?_) fun hm=>?_
     ·refine .sr (.an R (.ret (.blkR (.seqR ?_))));cases hm;exact .rr [] Tryz.results269 (.tmp R .nil) R I3 trivial
     ·refine .skip (.blkN (.seqN (.sr (.an R (.ret ?_)))));cases hm;exact .rr [] Tryz.results269 (.tmp R .nil) R I3 trivial
  refine .cutU (z:= .ret) (fun m=> .inr (m)=s) (fun (m:Unit)=>⟨[(2,.i 2)],[],0⟩) ?_ fun n=>?_
  · rintro m rfl;dsimp only at hm;refine .blkR (.seqR ?_);cases hm;exact .rr [] Tryz.results269 (.tmp R .nil) R I3 trivial
  refine .iter (fun (e:Int)=>⟨[(12,.i e),(11,.g [lI p0.1,lI p0.2.1,lI p0.2.2.1]),(1,.q 0 0)],[(0,.bx 191 (lx191 p0))],1⟩) o [] R ?_;intro e t hm p j;refine .sr (.bi R (.ns (.seq ?_)));refine .cc hm R (fun hm=>?_) fun hm=> .exit (.seqX (.seqX ((K8 _ (j _ (oj hm))).sub [] R)));refine .skip (.seqN (.seq (.block (.sr (bS hm fun c k hm=> .op (O.ixA (xs:=([p0.1,p0.2.1,p0.2.2.1]:List Int)) nag3 Tryz.underlying367 Z R R R k R) R (.an R (.sr (.mv R (.bi R (.mv R ?_))))))))));refine .cut 3 (fun (f:Bool)=>((decide (c<0))||(decide (c>256)))=f) (fun f=>⟨[(20,.b f),(12,.i e),(11,.g [lI p0.1,lI p0.2.1,lI p0.2.2.1]),(1,.q 0 0)],[(0,.bx 191 (lx191 p0))],1⟩) ?_ ?_
  · rintro _ rfl;exact .ns (.cc hm R (fun hm=> .sr (.an R (.ret (.blkR (.seqR (.seqR ((n _ (j _ (oj hm))).sub [] R))))))) fun hm=> .skip (.blkN (.seqN (.reg (.bi R (.mv R (.nil ((p _ (oj hm)).sub [] R))))))))
  · intro h;rcases yEt (decide (c<0)) with hc|hc
    · refine .know (d:=17) R hc ?_;exact .sk R (.sk R (.pT R ((h true (orT hc).symm).sub [] R)))
    · refine .know (d:=17) R hc ?_;exact .mg R (.bg R (.pF R ((h (decide (c>256)) (orF hc).symm).sub [] R)))
def y5P(p0:Bool)(p1:Bool):Option Bool:=
 some p1
theorem y8U{p1:Bool}{r:Bool}(hm:y5P p0 p1=some r):
  F0 306 [.b p0,.b p1] [] (.b r) []:=by
 refine Fw.mk2 Tryz.func306 Tryz.ntmps306 R (fun C=>?_) R;refine .sr (.an R (.sr (.mv R (.an R (.ret ?_)))));cases hm;exact .rr [] Tryz.results306 (.tmp R .nil) R I3 trivial
def y5Q(p0:Bool)(p1:Bool):Option Bool:=
 some (!p1)
theorem y8V{p1:Bool}{r:Bool}(hm:y5Q p0 p1=some r):
  F0 307 [.b p0,.b p1] [] (.b r) []:=by
 refine Fw.mk2 Tryz.func307 Tryz.ntmps307 R (fun C=>?_) R;refine .sr (.an R (.sr (.mv R (.no R (.an R (.ret ?_))))));cases hm;exact .rr [] Tryz.results307 (.tmp R .nil) R I3 trivial
def y5R(p0:Bool)(p1:Bool):Option Bool:=
 some (p0&&p1)
theorem y8W{p1:Bool}{r:Bool}(hm:y5R p0 p1=some r):
  F0 308 [.b p0,.b p1] [] (.b r) []:=by
 refine Fw.mk2 Tryz.func308 Tryz.ntmps308 R (fun C=>?_) R;refine .sr (.an R (.sr (.mv R (.mv R ?_))));refine .cut 2 (fun (a:Bool)=>(p0&&p1)=a) (fun a=>⟨[(8,.b a)],[],0⟩) ?_ ?_
 ·rintro _ rfl;refine .an R (.ret ?_);cases hm;exact .rr [] Tryz.results308 (.tmp R .nil) R I3 trivial
 ·intro c;rcases yEt p0 with hc|hc
  ·refine .know (d:=6) R hc ?_;exact .mg R (.pT R ((c p1 (andT hc).symm).sub [] R))
  ·refine .know (d:=6) R hc ?_;exact .sk R (.pF R ((c false (andF hc).symm).sub [] R))
def y5S(p0:Bool)(p1:Bool):Option Bool:=
 some (p0&&(!p1))
theorem y8X{p1:Bool}{r:Bool}(hm:y5S p0 p1=some r):
  F0 309 [.b p0,.b p1] [] (.b r) []:=by
 refine Fw.mk2 Tryz.func309 Tryz.ntmps309 R (fun C=>?_) R;refine .sr (.an R (.sr (.mv R (.mv R ?_))));refine .cut 3 (fun (a:Bool)=>(p0&&(!p1))=a) (fun a=>⟨[(9,.b a)],[],0⟩) ?_ ?_
 ·rintro _ rfl;refine .an R (.ret ?_);cases hm;exact .rr [] Tryz.results309 (.tmp R .nil) R I3 trivial
 ·intro c;rcases yEt p0 with hc|hc
  ·refine .know (d:=6) R hc ?_;exact .mg R (.op (O.not (Gu.mk R R) R R) R (.pT R ((c (!p1) (andT hc).symm).sub [] R)))
  ·refine .know (d:=6) R hc ?_;exact .sk R (.sk R (.pF R ((c false (andF hc).symm).sub [] R)))
def y5T(p0:Bool)(p1:Bool):Option Bool:=
 some (p0||p1)
theorem y8Y{p1:Bool}{r:Bool}(hm:y5T p0 p1=some r):
  F0 310 [.b p0,.b p1] [] (.b r) []:=by
 refine Fw.mk2 Tryz.func310 Tryz.ntmps310 R (fun C=>?_) R;refine .sr (.an R (.sr (.mv R (.mv R ?_))));refine .cut 2 (fun (a:Bool)=>(p0||p1)=a) (fun a=>⟨[(8,.b a)],[],0⟩) ?_ ?_
 ·rintro _ rfl;refine .an R (.ret ?_);cases hm;exact .rr [] Tryz.results310 (.tmp R .nil) R I3 trivial
 ·intro c;rcases yEt p0 with hc|hc
  ·refine .know (d:=6) R hc ?_;exact .sk R (.pT R ((c true (orT hc).symm).sub [] R))
  ·refine .know (d:=6) R hc ?_;exact .mg R (.pF R ((c p1 (orF hc).symm).sub [] R))
def y5U(p0:Bool)(p1:Bool):Option Bool:=
 some (p0||(!p1))
theorem y8Z{p1:Bool}{r:Bool}(hm:y5U p0 p1=some r):
  F0 311 [.b p0,.b p1] [] (.b r) []:=by
 refine Fw.mk2 Tryz.func311 Tryz.ntmps311 R (fun C=>?_) R;refine .sr (.an R (.sr (.mv R (.mv R ?_))));refine .cut 3 (fun (a:Bool)=>(p0||(!p1))=a) (fun a=>⟨[(9,.b a)],[],0⟩) ?_ ?_
 ·rintro _ rfl;refine .an R (.ret ?_);cases hm;exact .rr [] Tryz.results311 (.tmp R .nil) R I3 trivial
 ·intro c;rcases yEt p0 with hc|hc
  ·refine .know (d:=6) R hc ?_;exact .sk R (.sk R (.pT R ((c true (orT hc).symm).sub [] R)))
  ·refine .know (d:=6) R hc ?_;exact .mg R (.op (O.not (Gu.mk R R) R R) R (.pF R ((c (!p1) (orF hc).symm).sub [] R)))
def y5V(p0:Bool)(p1:Bool):Option Bool:=
 some p0
theorem y9a{p1:Bool}{r:Bool}(hm:y5V p0 p1=some r):
  F0 312 [.b p0,.b p1] [] (.b r) []:=by
 refine Fw.mk2 Tryz.func312 Tryz.ntmps312 R (fun C=>?_) R;refine .sr (.an R (.sr (.mv R (.an R (.ret ?_)))));cases hm;exact .rr [] Tryz.results312 (.tmp R .nil) R I3 trivial
def y5W(p0:Bool)(p1:Bool):Option Bool:=
 some (!p0)
theorem y9b{p1:Bool}{r:Bool}(hm:y5W p0 p1=some r):
  F0 313 [.b p0,.b p1] [] (.b r) []:=by
 refine Fw.mk2 Tryz.func313 Tryz.ntmps313 R (fun C=>?_) R;refine .sr (.an R (.sr (.mv R (.no R (.an R (.ret ?_))))));cases hm;exact .rr [] Tryz.results313 (.tmp R .nil) R I3 trivial
def y5X(p0:Bool)(p1:Bool):Option Bool:=
 some (p1||p0)
theorem y9c{p1:Bool}{r:Bool}(hm:y5X p0 p1=some r):
  F0 314 [.b p0,.b p1] [] (.b r) []:=by
 refine Fw.mk2 Tryz.func314 Tryz.ntmps314 R (fun C=>?_) R;refine .sr (.an R (.sr (.mv R (.mv R ?_))));refine .cut 2 (fun (a:Bool)=>(p1||p0)=a) (fun a=>⟨[(8,.b a)],[],0⟩) ?_ ?_
 ·rintro _ rfl;refine .an R (.ret ?_);cases hm;exact .rr [] Tryz.results314 (.tmp R .nil) R I3 trivial
 ·intro c;rcases yEt p1 with hc|hc
  ·refine .know (d:=6) R hc ?_;exact .sk R (.pT R ((c true (orT hc).symm).sub [] R))
  ·refine .know (d:=6) R hc ?_;exact .mg R (.pF R ((c p0 (orF hc).symm).sub [] R))
def y5t(p0:Bool)(p1:Bool):Option Bool:=
 some (p1&&(!p0))
theorem y8I{p1:Bool}{r:Bool}(hm:y5t p0 p1=some r):
  F0 315 [.b p0,.b p1] [] (.b r) []:=by
 refine Fw.mk2 Tryz.func315 Tryz.ntmps315 R (fun C=>?_) R;refine .sr (.an R (.sr (.mv R (.mv R ?_))));refine .cut 3 (fun (a:Bool)=>(p1&&(!p0))=a) (fun a=>⟨[(9,.b a)],[],0⟩) ?_ ?_
 ·rintro _ rfl;refine .an R (.ret ?_);cases hm;exact .rr [] Tryz.results315 (.tmp R .nil) R I3 trivial
 ·intro c;rcases yEt p1 with hc|hc
  ·refine .know (d:=6) R hc ?_;exact .mg R (.op (O.not (Gu.mk R R) R R) R (.pT R ((c (!p0) (andT hc).symm).sub [] R)))
  ·refine .know (d:=6) R hc ?_;exact .sk R (.sk R (.pF R ((c false (andF hc).symm).sub [] R)))
def y5u(p0:Bool):Option Bool:=
 some true
theorem y8J{r:Bool}(hm:y5u p0=some r):
  F0 316 [.b p0] [] (.b r) []:=by
 refine Fw.mk2 Tryz.func316 Tryz.ntmps316 R (fun C=>?_) R;refine .sr (.an R (.sr (.an R (.ret ?_))));cases hm;exact .rr [] Tryz.results316 (.tmp R .nil) R I3 trivial
def y5v(p0:Bool):Option Bool:=
 some p0
theorem y8K{r:Bool}(hm:y5v p0=some r):
  F0 317 [.b p0] [] (.b r) []:=by
 refine Fw.mk2 Tryz.func317 Tryz.ntmps317 R (fun C=>?_) R;refine .sr (.an R (.sr (.mv R (.an R (.ret ?_)))));cases hm;exact .rr [] Tryz.results317 (.tmp R .nil) R I3 trivial
def y5w(p0:Bool):Option Bool:=
 some (!p0)
theorem y8L{r:Bool}(hm:y5w p0=some r):
  F0 318 [.b p0] [] (.b r) []:=by
 refine Fw.mk2 Tryz.func318 Tryz.ntmps318 R (fun C=>?_) R;refine .sr (.an R (.sr (.mv R (.no R (.an R (.ret ?_))))));cases hm;exact .rr [] Tryz.results318 (.tmp R .nil) R I3 trivial
def y1k :Option (List (Int×ByteArray×(Option (Bool→Bool→Option Bool))×(Option (Bool→Bool→Option Bool))×(Option (Bool→Option Bool)))):=
 some ([(1,(⟨#[76,68]⟩:ByteArray),(some y5P),none,none),(2,(⟨#[76,68,78]⟩:ByteArray),(some y5Q),none,none),(3,(⟨#[65,78,68]⟩:ByteArray),(some y5R),none,none),(4,(⟨#[65,78,68,78]⟩:ByteArray),(some y5S),none,none),(5,(⟨#[79,82]⟩:ByteArray),(some y5T),none,none),(6,(⟨#[79,82,78]⟩:ByteArray),(some y5U),none,none),(7,(⟨#[83,84]⟩:ByteArray),none,(some y5V),none),(8,(⟨#[83,84,78]⟩:ByteArray),none,(some y5W),none),(9,(⟨#[83]⟩:ByteArray),none,(some y5X),none),(10,(⟨#[82]⟩:ByteArray),none,(some y5t),none),(11,(⟨#[74,77,80]⟩:ByteArray),none,none,(some y5u)),(12,(⟨#[74,77,80,67]⟩:ByteArray),none,none,(some y5v)),(13,(⟨#[74,77,80,67,78]⟩:ByteArray),none,none,(some y5w))]:List (Int×ByteArray×(Option (Bool→Bool→Option Bool))×(Option (Bool→Bool→Option Bool))×(Option (Bool→Option Bool))))
theorem y7x{r:(List (Int×ByteArray×(Option (Bool→Bool→Option Bool))×(Option (Bool→Bool→Option Bool))×(Option (Bool→Option Bool))))}(hm:y1k=some r):
  F0 293 [] [] (.f rE372 r) []:=by
 refine Fw.mk2 Tryz.func293 Tryz.ntmps293 R (fun C=>?_) R;refine .sr (.an R (.sr (.bu [lI 1,lV (.string (⟨#[76,68]⟩:ByteArray)),lV (.func (.func 306) #[] #[]),lV .nilFunc,lV .nilFunc] pl372 R (.bu [lI 2,lV (.string (⟨#[76,68,78]⟩:ByteArray)),lV (.func (.func 307) #[] #[]),lV .nilFunc,lV .nilFunc] pl372 R (.bu [lI 3,lV (.string (⟨#[65,78,68]⟩:ByteArray)),lV (.func (.func 308) #[] #[]),lV .nilFunc,lV .nilFunc] pl372 R (.bu [lI 4,lV (.string (⟨#[65,78,68,78]⟩:ByteArray)),lV (.func (.func 309) #[] #[]),lV .nilFunc,lV .nilFunc] pl372 R (.bu [lI 5,lV (.string (⟨#[79,82]⟩:ByteArray)),lV (.func (.func 310) #[] #[]),lV .nilFunc,lV .nilFunc] pl372 R (.bu [lI 6,lV (.string (⟨#[79,82,78]⟩:ByteArray)),lV (.func (.func 311) #[] #[]),lV .nilFunc,lV .nilFunc] pl372 R (.bu [lI 7,lV (.string (⟨#[83,84]⟩:ByteArray)),lV .nilFunc,lV (.func (.func 312) #[] #[]),lV .nilFunc] pl372 R (.bu [lI 8,lV (.string (⟨#[83,84,78]⟩:ByteArray)),lV .nilFunc,lV (.func (.func 313) #[] #[]),lV .nilFunc] pl372 R (.bu [lI 9,lV (.string (⟨#[83]⟩:ByteArray)),lV .nilFunc,lV (.func (.func 314) #[] #[]),lV .nilFunc] pl372 R (.bu [lI 10,lV (.string (⟨#[82]⟩:ByteArray)),lV .nilFunc,lV (.func (.func 315) #[] #[]),lV .nilFunc] pl372 R (.bu [lI 11,lV (.string (⟨#[74,77,80]⟩:ByteArray)),lV .nilFunc,lV .nilFunc,lV (.func (.func 316) #[] #[])] pl372 R (.bu [lI 12,lV (.string (⟨#[74,77,80,67]⟩:ByteArray)),lV .nilFunc,lV .nilFunc,lV (.func (.func 317) #[] #[])] pl372 R (.bu [lI 13,lV (.string (⟨#[74,77,80,67,78]⟩:ByteArray)),lV .nilFunc,lV .nilFunc,lV (.func (.func 318) #[] #[])] pl372 R (.op (O.bsF (r:=rE372) (zs:=([(1,(⟨#[76,68]⟩:ByteArray),(some y5P),none,none),(2,(⟨#[76,68,78]⟩:ByteArray),(some y5Q),none,none),(3,(⟨#[65,78,68]⟩:ByteArray),(some y5R),none,none),(4,(⟨#[65,78,68,78]⟩:ByteArray),(some y5S),none,none),(5,(⟨#[79,82]⟩:ByteArray),(some y5T),none,none),(6,(⟨#[79,82,78]⟩:ByteArray),(some y5U),none,none),(7,(⟨#[83,84]⟩:ByteArray),none,(some y5V),none),(8,(⟨#[83,84,78]⟩:ByteArray),none,(some y5W),none),(9,(⟨#[83]⟩:ByteArray),none,(some y5X),none),(10,(⟨#[82]⟩:ByteArray),none,(some y5t),none),(11,(⟨#[74,77,80]⟩:ByteArray),none,none,(some y5u)),(12,(⟨#[74,77,80,67]⟩:ByteArray),none,none,(some y5v)),(13,(⟨#[74,77,80,67,78]⟩:ByteArray),none,none,(some y5w))]:List (Int×ByteArray×(Option (Bool→Bool→Option Bool))×(Option (Bool→Bool→Option Bool))×(Option (Bool→Option Bool))))) bs368 R R Z R R R (.c (.p .k (.p .s (.p (.c2 cf306 (fun _ _ r h=>y8U h) (fun _ _ _ _=>⟨_,_,⟨rfl,rfl⟩,⟨_,_,⟨rfl,rfl⟩,rfl,rfl⟩,rfl⟩) (fun _ _ _ _ h=>h.1)) (.p .z2 .z1)))) (.c (.p .k (.p .s (.p (.c2 cf307 (fun _ _ r h=>y8V h) (fun _ _ _ _=>⟨_,_,⟨rfl,rfl⟩,⟨_,_,⟨rfl,rfl⟩,rfl,rfl⟩,rfl⟩) (fun _ _ _ _ h=>h.1)) (.p .z2 .z1)))) (.c (.p .k (.p .s (.p (.c2 cf308 (fun _ _ r h=>y8W h) (fun _ _ _ _=>⟨_,_,⟨rfl,rfl⟩,⟨_,_,⟨rfl,rfl⟩,rfl,rfl⟩,rfl⟩) (fun _ _ _ _ h=>h.1)) (.p .z2 .z1)))) (.c (.p .k (.p .s (.p (.c2 cf309 (fun _ _ r h=>y8X h) (fun _ _ _ _=>⟨_,_,⟨rfl,rfl⟩,⟨_,_,⟨rfl,rfl⟩,rfl,rfl⟩,rfl⟩) (fun _ _ _ _ h=>h.1)) (.p .z2 .z1)))) (.c (.p .k (.p .s (.p (.c2 cf310 (fun _ _ r h=>y8Y h) (fun _ _ _ _=>⟨_,_,⟨rfl,rfl⟩,⟨_,_,⟨rfl,rfl⟩,rfl,rfl⟩,rfl⟩) (fun _ _ _ _ h=>h.1)) (.p .z2 .z1)))) (.c (.p .k (.p .s (.p (.c2 cf311 (fun _ _ r h=>y8Z h) (fun _ _ _ _=>⟨_,_,⟨rfl,rfl⟩,⟨_,_,⟨rfl,rfl⟩,rfl,rfl⟩,rfl⟩) (fun _ _ _ _ h=>h.1)) (.p .z2 .z1)))) (.c (.p .k (.p .s (.p .z2 (.p (.c2 cf312 (fun _ _ r h=>y9a h) (fun _ _ _ _=>⟨_,_,⟨rfl,rfl⟩,⟨_,_,⟨rfl,rfl⟩,rfl,rfl⟩,rfl⟩) (fun _ _ _ _ h=>h.1)) .z1)))) (.c (.p .k (.p .s (.p .z2 (.p (.c2 cf313 (fun _ _ r h=>y9b h) (fun _ _ _ _=>⟨_,_,⟨rfl,rfl⟩,⟨_,_,⟨rfl,rfl⟩,rfl,rfl⟩,rfl⟩) (fun _ _ _ _ h=>h.1)) .z1)))) (.c (.p .k (.p .s (.p .z2 (.p (.c2 cf314 (fun _ _ r h=>y9c h) (fun _ _ _ _=>⟨_,_,⟨rfl,rfl⟩,⟨_,_,⟨rfl,rfl⟩,rfl,rfl⟩,rfl⟩) (fun _ _ _ _ h=>h.1)) .z1)))) (.c (.p .k (.p .s (.p .z2 (.p (.c2 cf315 (fun _ _ r h=>y8I h) (fun _ _ _ _=>⟨_,_,⟨rfl,rfl⟩,⟨_,_,⟨rfl,rfl⟩,rfl,rfl⟩,rfl⟩) (fun _ _ _ _ h=>h.1)) .z1)))) (.c (.p .k (.p .s (.p .z2 (.p .z2 (.c1 cf316 (fun _ r h=>y8J h) (fun _ _ _=>⟨_,_,⟨rfl,rfl⟩,rfl,rfl⟩) (fun _ _ _ _ h=>h.1)))))) (.c (.p .k (.p .s (.p .z2 (.p .z2 (.c1 cf317 (fun _ r h=>y8K h) (fun _ _ _=>⟨_,_,⟨rfl,rfl⟩,rfl,rfl⟩) (fun _ _ _ _ h=>h.1)))))) (.c (.p .k (.p .s (.p .z2 (.p .z2 (.c1 cf318 (fun _ r h=>y8L h) (fun _ _ _=>⟨_,_,⟨rfl,rfl⟩,rfl,rfl⟩) (fun _ _ _ _ h=>h.1)))))) .n))))))))))))) R R R) R (.an R (.ret ?_))))))))))))))))))
 cases hm;exact .rr [] Tryz.results293 (.tmp R .nil) R I3 trivial
def y4T(p0:Int×Int×Int×List Bool×(List (Int×Int))):Option Int:=
 some (W ((W (p0.1+p0.2.1))+p0.2.2.1))
theorem yaZ{p0:Int×Int×Int×List Bool×(List (Int×Int))}{r:Int}(hm:y4T p0=some r):
  F0 294 [.a (lx191 p0)] [] (.i r) []:=by
 refine Fw.mk2 Tryz.func294 Tryz.ntmps294 R (fun C=>?_) R;refine .sr (.bo 0 R (.an R (.sr (.fa y9W R (.lb nag3 R (.fa y9X R (.lb nag3 R (.bi R (.fa yaQ R (.lb nag3 R (.bi R (.an R (.ret ?_)))))))))))));cases hm;exact .rr [] Tryz.results294 (.tmp R .nil) R I3 trivial
def yE(p0:Int×Int×Int×List Bool×(List (Int×Int)))(b:Int×Int)(c:Int×ByteArray×(Option (Bool→Bool→Option Bool))×(Option (Bool→Bool→Option Bool))×(Option (Bool→Option Bool)))(a:Bool):Option Int:=
 if a then
  some 2
 else
  if(c.2.2.2.1.isSome&&(decide (b.2<p0.1))) then
   some 19
  else
   some 0
def y2F(p0:Int×Int×Int×List Bool×(List (Int×Int)))(p1:Int):Option Int:=
 (idx p0.2.2.2.2 p1).bind fun a=>
 (y1k).bind fun d=>
 if((decide (a.1<1))||(decide (a.1>(d.length:Int)))) then
  some 11
 else
  (idx d (W (a.1-1))).bind fun b=>
  if b.2.2.2.2.isSome then
   if((decide (a.2≤p1))||(decide (a.2>(p0.2.2.2.2.length:Int)))) then
    some 2
   else
    some 0
  else
   if decide (a.2<0) then
    yE p0 a b true
   else
    (y4T p0).bind fun c=>
    yE p0 a b (decide (a.2≥c))
theorem y8l{p0:Int×Int×Int×List Bool×(List (Int×Int))}{r:Int}(hm:y2F p0 p1=some r):
    F0 270 [.a (lx191 p0),.i p1] [] (.i r) []:=by
  refine Fw.mk2 Tryz.func270 Tryz.ntmps270 R (fun C=>?_) R;refine .sr (.bo 0 R (.an R (.sr (.fa y9Y R (.lb y7t R (.mv R (bS hm fun c y hm=> .ix sl189 y R (.lg [lI c.1,lI c.2] ag302 R (.E lv302) R (.al 1 zz302 R (.st ag302.sz R (.nr (bS hm fun s x hm=> .c0 (y7x x) cf293 R (.an R (.seq (.sr (.fa ycg R (.lb nag3 R (.bi R (.mv R ?_)))))))))))))))))));refine .cut 6 (fun (t:Bool)=>((decide (c.1<1))||(decide (c.1>(s.length:Int))))=t) (fun t=>⟨[(23,.b t),(6,.f rE372 s),(5,.q 1 0),(2,.q 0 0),(1,.i p1)],[(1,.bx 302 [lI c.1,lI c.2]),(0,.bx 191 (lx191 p0))],2⟩) ?_ ?_
  · rintro _ rfl;refine .ns ?_;refine .cc hm R (fun hm=>?_) fun hm=>?_
    ·refine .sr (.an R (.ret (.seqR ?_)));cases hm;exact .rr [] Tryz.results270 (.tmp R .nil) R I3 trivial
    ·refine .skip (.seqN (.sr (.mv R (.fa ycg R (.lb nag3 R (.bi R (bS hm fun g z hm=> .ix sl368 z R (.lg [lI g.1,lV (.string g.2.1),lF2 Tryz.prog (fun (e:Bool) (c:Bool)=> [.bool e,.bool c]) (fun (r:Bool)=> .bool r) g.2.2.1,lF2 Tryz.prog (fun (e:Bool) (c:Bool)=> [.bool e,.bool c]) (fun (r:Bool)=> .bool r) g.2.2.2.1,lF1 Tryz.prog (fun (e:Bool)=> [.bool e]) (fun (r:Bool)=> .bool r) g.2.2.2.2] ag372 R (.E lv372) R (.al 2 zz372 R (.st ag372.sz R (.ns (.seq (.sr (.fa yfX R (.lb yhg R (.op (O.fne1 Tryz.underlying370 Z R R R) R (.ns ?_)))))))))))))))));refine .cc hm R (fun hm=>?_) fun hm=>?_
     ·refine .seq (.sr (.fa y7z R (.lb nag3 R (.mv R (.bi R (.mv R ?_))))));refine .cut 7 (fun (u:Bool)=>((decide (c.2≤p1))||(decide (c.2>(p0.2.2.2.2.length:Int))))=u) (fun u=>⟨[(44,.b u)],[],3⟩) ?_ ?_
      · rintro _ rfl;refine .ns ?_;refine .cc hm R (fun hm=>?_) fun hm=>?_
        ·refine .sr (.an R (.ret (.seqR (.seqR ?_))));cases hm;exact .rr [] Tryz.results270 (.tmp R .nil) R I3 trivial
        ·refine .skip (.seqN (.sr (.an R (.ret (.seqR ?_)))));cases hm;exact .rr [] Tryz.results270 (.tmp R .nil) R I3 trivial
      · intro w;rcases yEt (decide (c.2≤p1)) with hc|hc
        · refine .know (d:=37) R hc ?_;exact .sk R (.sk R (.sk R (.sk R (.sk R (.sk R (.pT R ((w true (orT hc).symm).sub [] R)))))))
        · refine .know (d:=37) R hc ?_;exact .fag y7z R (.lbg nag3 R (.fag y9Y R (.lbg y7t R (.op (O.len sl189 (Gu.mk R R) R R) R (.bg R (.pF R ((w (decide (c.2>(p0.2.2.2.2.length:Int))) (orF hc).symm).sub [] R)))))))
     ·refine .skip (.seqN (.seq ?_));refine .join1 (fun (m:Bool)=>yE p0 c g m=some r) (fun m=>⟨[(54,.b m),(7,.q 0 0),(5,.q 1 0),(2,.q 2 0)],[(0,.bx 372 [lI g.1,lV (.string g.2.1),lF2 Tryz.prog (fun (e:Bool) (c:Bool)=> [.bool e,.bool c]) (fun (r:Bool)=> .bool r) g.2.2.1,lF2 Tryz.prog (fun (e:Bool) (c:Bool)=> [.bool e,.bool c]) (fun (r:Bool)=> .bool r) g.2.2.2.1,lF1 Tryz.prog (fun (e:Bool)=> [.bool e]) (fun (r:Bool)=> .bool r) g.2.2.2.2]),(1,.bx 302 [lI c.1,lI c.2]),(2,.bx 191 (lx191 p0))],3⟩) ?_ ?_
      · intro m hm;refine .cc hm R (fun hm=>?_) fun hm=>?_
        ·refine .sr (.an R (.ret (.seqR ?_)));cases hm;exact .rr [] Tryz.results270 (.tmp R .nil) R I3 trivial
        ·refine .skip (.seqN (.seq (.sr (.fa ydL R (.lb ybV R (.op (O.fne2 Tryz.underlying135 Z R R R) R (.mv R ?_)))))));refine .cut 6 (fun (k:Bool)=>(g.2.2.2.1.isSome&&(decide (c.2<p0.1)))=k) (fun k=>⟨[(64,.b k)],[],3⟩) ?_ ?_
         · rintro _ rfl;refine .ns ?_;refine .cc hm R (fun hm=>?_) fun hm=>?_
           ·refine .sr (.an R (.ret (.seqR ?_)));cases hm;exact .rr [] Tryz.results270 (.tmp R .nil) R I3 trivial
           ·refine .skip (.seqN (.sr (.an R (.ret ?_))));cases hm;exact .rr [] Tryz.results270 (.tmp R .nil) R I3 trivial
         · intro n;rcases yEt g.2.2.2.1.isSome with hc|hc
           · refine .know (d:=58) R hc ?_;exact .fag y7z R (.lbg nag3 R (.fag y9W R (.lbg nag3 R (.bg R (.pT R ((n (decide (c.2<p0.1)) (andT hc).symm).sub [] R))))))
           · refine .know (d:=58) R hc ?_;exact .sk R (.sk R (.sk R (.sk R (.sk R (.pF R ((n false (andF hc).symm).sub [] R))))))
      · intro o;refine .sub (τ:=⟨[(7,.q 2 0),(5,.q 1 0),(2,.q 0 0)],[(2,.bx 372 [lI g.1,lV (.string g.2.1),lF2 Tryz.prog (fun (e:Bool) (c:Bool)=> [.bool e,.bool c]) (fun (r:Bool)=> .bool r) g.2.2.1,lF2 Tryz.prog (fun (e:Bool) (c:Bool)=> [.bool e,.bool c]) (fun (r:Bool)=> .bool r) g.2.2.2.1,lF1 Tryz.prog (fun (e:Bool)=> [.bool e]) (fun (r:Bool)=> .bool r) g.2.2.2.2]),(1,.bx 302 [lI c.1,lI c.2]),(0,.bx 191 (lx191 p0))],3⟩) ?_ [] R;refine .drP 3 [(3,[]),(3,[oT]),(3,[oT,oT])] [_,_,_] ⟨O.faP y7z Z R R,O.ld nag3 Z R (.B R) R R,O.bi Z R R R R,trivial⟩ fun j=>?_;rcases ifS hm with ⟨h,hm⟩|⟨h,hm⟩
        · skip
          exact .drF j [(3,tT 3),(3,tT 4),(3,tT 5),(3,tT 4),(3,tA 4 (fA 2 (tT 1))),(3,tT 8),(3,tT 9)] [_,_,_,_,_,_,_] ⟨[(54,.b true),(7,.q 2 0),(5,.q 1 0),(2,.q 0 0)],[(2,.bx 372 [lI g.1,lV (.string g.2.1),lF2 Tryz.prog (fun (e:Bool) (c:Bool)=> [.bool e,.bool c]) (fun (r:Bool)=> .bool r) g.2.2.1,lF2 Tryz.prog (fun (e:Bool) (c:Bool)=> [.bool e,.bool c]) (fun (r:Bool)=> .bool r) g.2.2.2.1,lF1 Tryz.prog (fun (e:Bool)=> [.bool e]) (fun (r:Bool)=> .bool r) g.2.2.2.2]),(1,.bx 302 [lI c.1,lI c.2]),(0,.bx 191 (lx191 p0))],3⟩ ⟨O.kn (O.mv Z R R) h,O.skip R R R R,O.skip R R R R,O.skip R R R R,O.skip R R R R,O.skip R R R R,O.pkT Z R R R R,trivial⟩ (by kernel_rfl) R ((o _ hm).sub [(0,2),(2,0)] R)
        · skip
          exact bS hm fun D p hm=> .drF j [(3,tT 3),(3,tT 4),(3,tT 5),(3,tT 4),(3,tA 4 (fA 2 (tT 1))),(3,tT 8),(3,tT 9)] [_,_,_,_,_,_,_] ⟨[(54,.b (decide (c.2≥D))),(7,.q 2 0),(5,.q 1 0),(2,.q 0 0)],[(2,.bx 372 [lI g.1,lV (.string g.2.1),lF2 Tryz.prog (fun (e:Bool) (c:Bool)=> [.bool e,.bool c]) (fun (r:Bool)=> .bool r) g.2.2.1,lF2 Tryz.prog (fun (e:Bool) (c:Bool)=> [.bool e,.bool c]) (fun (r:Bool)=> .bool r) g.2.2.2.1,lF1 Tryz.prog (fun (e:Bool)=> [.bool e]) (fun (r:Bool)=> .bool r) g.2.2.2.2]),(1,.bx 302 [lI c.1,lI c.2]),(0,.bx 191 (lx191 p0))],3⟩ ⟨O.kn (O.mv Z R R) h,O.faP y7z (Gu.mk R R) R R,O.ld nag3 (Gu.mk R R) R (.B R) R R,O.lg (l':=(lx191 p0)) ag191 (Gu.mk R R) R (.B R) R R R,O.ca0 (yaZ p) cf294 R R (Gu.mk R R) R R R,O.bi (Gu.mk R R) R R R R,O.pkF Z R R R R,trivial⟩ (by kernel_rfl) R ((o _ hm).sub [(0,2),(2,0)] R)
  · intro v;rcases yEt (decide (c.1<1)) with hc|hc
    · refine .know (d:=17) R hc ?_;exact .sk R (.sk R (.sk R (.sk R (.sk R (.pT R ((v true (orT hc).symm).sub [] R))))))
    · refine .know (d:=17) R hc ?_;exact .fag ycg R (.lbg nag3 R (.mg R (.op (O.len sl368 (Gu.mk R R) R R) R (.bg R (.pF R ((v (decide (c.1>(s.length:Int))) (orF hc).symm).sub [] R))))))
def y3B(p0:Int×Int×Int×List Bool×(List (Int×Int)))(a:Int):Option (Int⊕(Unit⊕Int)):=
 if decide (a<(p0.2.2.2.2.length:Int)) then
  (y2F p0 a).bind fun b=>
  if(b != 0) then
   some (.inr (.inr (b)))
  else
   some (.inl (W (a+1)))
 else
  some (.inr (.inl ()))
def y4U(p0:Int×Int×Int×List Bool×(List (Int×Int))):Option Int:=
 (y4M p0).bind fun a=>
 if(a != 0) then
  some a
 else
  (iter (y3B p0) 0).bind fun b=>
  match b with
  | .inl d=>
   some 0
  | .inr (c)=>
   some c
theorem y8r{p0:Int×Int×Int×List Bool×(List (Int×Int))}{r:Int}(hm:y4U p0=some r):
    F0 243 [.a (lx191 p0)] [] (.i r) []:=by
  refine Fw.mk2 Tryz.func243 Tryz.ntmps243 R (fun C=>?_) R;refine .sr (.bo 0 R (.an R (.seq (.sr (.lg (lx191 p0) ag191 R (.B R) R (bS hm fun o j hm=> .c0 (y9N j) cf269 R (.an R (.sr (.mv R (.bi R (.ns ?_)))))))))));refine .cc hm R (fun hm=>?_) fun hm=>?_
  ·refine .sr (.mv R (.an R (.ret (.seqR ?_))));cases hm;exact .rr [] Tryz.results243 (.tmp R .nil) R I3 trivial
  ·refine .skip (.seqN (.seq (.sr (.fa y9Y R (.lb y7t R (.ln sl189 R (.mv R (.ns (.block (bS hm fun l h hm=>?_))))))))));refine .cutU (z:= .exit 0) (fun f=> .inl f=l) (fun (f:Unit)=>⟨[],[],0⟩) ?_ fun K8=>?_
   · rintro f rfl;dsimp only at hm;refine .blkE (.seqN (.sr (.an R (.ret ?_))));cases hm;exact .rr [] Tryz.results243 (.tmp R .nil) R I3 trivial
   refine .cutU (z:= .ret) (fun b=> .inr (b)=l) (fun (b:Int)=>⟨[(2,.i b)],[],0⟩) ?_ fun g=>?_
   · rintro b rfl;dsimp only at hm;refine .blkR (.seqR ?_);cases hm;exact .rr [] Tryz.results243 (.tmp R .nil) R I3 trivial
   refine .iter (fun (d:Int)=>⟨[(14,.i d),(13,.i p0.2.2.2.2.length),(1,.q 0 0)],[(0,.bx 191 (lx191 p0))],1⟩) h [] R ?_;intro d m hm k c;refine .sr (.bi R (.ns (.seq ?_)));refine .cc hm R (fun hm=>?_) fun hm=> .exit (.seqX (.seqX ((K8 _ (c _ (oj hm))).sub [] R)));refine .skip (.seqN (.seq (.block (.sr (.mv R (.an R (.sr (.lg (lx191 p0) ag191 R (.B R) R (.mv R (bS hm fun n e hm=> .c0 (y8l e) cf270 R (.an R (.sr (.mv R (.bi R (.ns ?_)))))))))))))));exact .cc hm R (fun hm=> .sr (.mv R (.an R (.ret (.blkR (.seqR (.seqR ((g _ (c _ (oj hm))).sub [] R)))))))) fun hm=> .skip (.blkN (.seqN (.reg (.bi R (.mv R (.nil ((k _ (oj hm)).sub [] R)))))))
def y4V(p0:Int×Int×Int×List Bool×(List (Int×Int))):Option ((List Bool×List Bool)×Int):=
 (y4U p0).bind fun a=>
 if(a != 0) then
  some ((([]:List Bool),([]:List Bool)),a)
 else
  (mkL p0.2.1 false).bind fun b=>
  (app ([]:List Bool) p0.2.2.2.1).bind fun c=>
  some ((b,c),0)
theorem yb0{p0:Int×Int×Int×List Bool×(List (Int×Int))}{r:(List Bool×List Bool)×Int}(hm:y4V p0=some r):
    F0 220 [.a (lx191 p0)] [] (.tp [.a [lH 0,lH 1],.i r.2]) [ROW rB 4 r.1.1,ROW rB 4 r.1.2]:=by
  refine Fw.mk2 Tryz.func220 Tryz.ntmps220 R (fun C=>?_) R;refine .sr (.bo 0 R (.al 1 zz197 R (.an R (.seq (.sr (.lg (lx191 p0) ag191 R (.B R) R (bS hm fun g b hm=> .c0 (y8r b) cf243 R (.an R (.sr (.mv R (.bi R (.ns ?_))))))))))));refine .cc hm R (fun hm=>?_) fun hm=>?_
  ·refine .sr (.bu [lN,lN] pl197 R (.mv R (.st ag197.sz R (.an R (.ret (.seqR (.nlb rB 4 1 0 R R (.nlb rB 4 1 1 R R ?_))))))));cases hm;exact .rr [2,3] Tryz.results220 (.cell R R ag197 R (.tmp R .nil)) R I3 ⟨⟨_,R,I4⟩,⟨_,R,I4⟩,trivial⟩
  ·refine .skip (.seqN (.seq ?_));refine .sub (τ:=⟨[(2,.q 1 0),(1,.q 0 0)],[(1,.bx 197 [lN,lN]),(0,.bx 191 (lx191 p0))],2⟩) ?_ [] R;refine bS hm fun e c hm=>bS hm fun f d hm=>?_;refine .drz 5 [(3,3)] [(2,[],[],[]),(2,[oT],[],[]),(2,[oT,oT],[],[]),(2,[],[],[]),(2,[],[],[]),(2,[oF,oF,oF,oF,oT],[],[]),(4,[oF,oF,oF,oT,oT,oT],[],[]),(5,[oT,oT,oT,oT,oT,oT,oT],[],[(3,3)]),(5,[oT,oT,oT,oT,oT,oT,oT,oT],[],[(3,3)]),(5,[oT,oT,oT,oT,oT,oT,oT,oT,oT],[],[(3,3)])] [_,_,_,_,_,_,_,_,_,_] ⟨[(3,.i 0),(2,.q 1 0)],[(1,.bx 197 [lH 2,lH 4]),(2,ROW rB 4 e),(4,ROW rB 4 f)],5⟩ ⟨O.faP y9X Z R R,O.ld nag3 Z R (.B R) R R,O.mk (z:=false) 2 Tryz.underlying144 zr4 R R Z R R c R,O.b0O (r:=rB) 3 R bs144 R Z R,O.faP yfW Z R R,O.ld y2q Z R (.B R) R R,O.ap 4 Tryz.underlying144 el4 R R Z R R (.fr R) d R,O.bu (l:=[lH 2,lH 4]) pl197 R Z R R R,O.st ag197.sz Z R R R R R,O.as Z R R,trivial⟩ (by kernel_rfl) R ?_;refine .seqN (.ret ?_);cases hm;exact .rr [2,4] Tryz.results220 (.cell R R ag197 R (.tmp R .nil)) R I3 ⟨⟨_,R,I4⟩,⟨_,R,I4⟩,trivial⟩
def y6O(p0:PbT):Option ((Option BenT)×Int):=
 (y6a p0).bind fun a=>
 if(a.2 != 0) then
  some (none,a.2)
 else
  (y4V a.1.1).bind fun b=>
  if(b.2 != 0) then
   some (none,b.2)
  else
   some ((some (p0,a.1,0,b.1)),0)
theorem ybm{p0:PbT}{r:(Option BenT)×Int}(hm:y6O p0=some r):
    F0 191 [.a (lx37 p0)] [] (.tp [.o (lH 0),.i r.2]) [OBX rE199 199 r.1]:=by
  refine Fw.mk2 Tryz.func191 Tryz.ntmps191 R (fun C=>?_) R;refine .sr (.bo 0 R (.sa R (.an R (.sr (.lg (lx37 p0) ag37 R (.B R) R (bS hm fun b e hm=> .op (O.ca (r':= .tp [.a [lI b.1.1.1,lI b.1.1.2.1,lI b.1.1.2.2.1,lH 1,lH 2,lH 3,lH 4,lI b.1.2.2.2],.i b.2]) [1,2,3,4] [(0,ROW rB 4 b.1.1.2.2.2.1),(1,ROW rE302 302 b.1.1.2.2.2.2),(2,rwI b.1.2.1),(3,rwI b.1.2.2.1)] (some 5) (y8O e) cf131 R R Z R R R R ⟨⟨_,R,I4⟩,⟨_,R,I4⟩,⟨_,R,I4⟩,⟨_,R,I4⟩,trivial⟩ I3 R) R (.mv R (.ex R (.ex R (.al 5 zz193 R (.st ag193.sz R (.an R (.seq (.sr (.mv R (.bi R (.ns ?_)))))))))))))))));refine .cc hm R (fun hm=>?_) fun hm=>?_
  ·refine .sr (.mv R (.sa R (.an R (.ret (.seqR (.nlp rE199 199 2 R ?_))))));cases hm;exact .rr [6] Tryz.results191 (.tmp R (.tmp R .nil)) R I3 ⟨⟨_,R,I4⟩,trivial⟩
  ·refine .skip (.seqN (.sr (.fa ych R (.lg [lI b.1.1.1,lI b.1.1.2.1,lI b.1.1.2.2.1,lH 1,lH 2] ag191 R (.B R) R (bS hm fun d f hm=> .op (O.caY (r':= .tp [.a [lH 6,lH 7],.i d.2]) [6,7] [(0,ROW rB 4 d.1.1),(1,ROW rB 4 d.1.2)] (some 8) (yb0 f) cf220 R R Z R R ⟨⟨R,.rf,.rf,.rf,.hr R,.hr R,trivial⟩,trivial⟩ R ⟨.row flr4,.row flr4,trivial⟩ (fun _ _ _ _ h=>h) ⟨⟨_,R,I4⟩,⟨_,R,I4⟩,trivial⟩ I3 R) R (.mv R (.ex R (.ex R (.al 8 zz197 R (.st ag197.sz R (.an R (.seq (.sr (.mv R (.bi R (.ns ?_))))))))))))))));refine .cc hm R (fun hm=>?_) fun hm=>?_
   ·refine .sr (.mv R (.sa R (.an R (.ret (.seqR (.nlp rE199 199 2 R ?_))))));cases hm;exact .rr [9] Tryz.results191 (.tmp R (.tmp R .nil)) R I3 ⟨⟨_,R,I4⟩,trivial⟩
   ·refine .skip (.seqN (.sr (.lg (lx37 p0) ag37 R (.B R) R (.lg [lI b.1.1.1,lI b.1.1.2.1,lI b.1.1.2.2.1,lH 1,lH 2,lH 3,lH 4,lI b.1.2.2.2] ag193 R (.B R) R (.lg [lH 6,lH 7] ag197 R (.B R) R (.bu [lF qI p0.1.1,lI p0.1.2.1,lF qI p0.1.2.2.1,lF qT p0.1.2.2.2,lF qI p0.2.1.1,lI p0.2.1.2.1,lF qI p0.2.1.2.2.1,lF qT p0.2.1.2.2.2,lF qI p0.2.2,lI b.1.1.1,lI b.1.1.2.1,lI b.1.1.2.2.1,lH 1,lH 2,lH 3,lH 4,lI b.1.2.2.2,lI 0,lH 6,lH 7] pl199 R (.bo 9 R (.sa R (.an R (.ret (.fz 1 [] [5,9] R R fR R R (.fz 2 [] [5,9] R R fR R R (.fz 3 [] [5,9] R R fR R R (.fz 4 [] [5,9] R R fR R R (.fz 6 [] [8,9] R R fR R R (.fz 7 [] [8,9] R R fR R R (.obx (r:=rE199) 9 R (.p (.p (.p .l (.p .k (.p .l .l))) (.p (.p .l (.p .k (.p .l .l))) .l)) (.p (.p (.p .k (.p .k (.p .k (.p .l .l)))) (.p .l (.p .l .k))) (.p .k (.p .l .l)))) (.cnt 2 R (.c .ph .n) R ?_))))))))))))))))));cases hm;exact .rr [9] Tryz.results191 (.tmp R (.tmp R .nil)) R I3 ⟨⟨_,R,I4⟩,trivial⟩
def y1F(a:Bool):Option Bool:=
 some a
def y2r(a:Option BenT)(b:Int)(p0:Int×Int×Int):Option Bool:=
 a.bind fun c=>
 if(p0.1==c.2.2.1) then
  y1F (p0.2.1==b)
 else
  y1F false
theorem y9d{j:Option BenT}{f:Int}{p0:Int×Int×Int}{r:Bool}(hm:y2r j f p0=some r):
  F0 242 [.a [lI p0.1,lI p0.2.1,lI p0.2.2],.o (lQ 276 [lK rE199 199 j] 0),.o (lQ 3 [lI f] 0)] [] (.b r) []:=by
 refine Fw.mk2 Tryz.func242 Tryz.ntmps242 R (fun C=>?_) R;refine .sr (.bo 0 R (.an R ?_));refine .join1 (fun (e:Bool)=>y1F e=some r) (fun e=>⟨[(4,.b e)],[],0⟩) ?_ ?_
 ·intro e hm;refine .ret ?_;cases hm;exact .rr [] Tryz.results242 (.tmp R .nil) R I3 trivial
 ·intro g;refine bS hm fun k i hm=> .cnt 1 R (.c (.q (.c (.pd i lv199) .n)) .n) R ?_;refine .sub (τ:=⟨[(3,.q 0 0),(1,.o (lQ 276 [lQ 199 (lx199 k) 0] 0)),(2,.o (lQ 3 [lI f] 0))],[(0,.bx 124 [lI p0.1,lI p0.2.1,lI p0.2.2])],1⟩) ?_ [] R;refine .drP 7 [(1,[]),(1,[oT]),(1,[]),(1,[oF,oF,oT]),(1,[oF,oF,oT,oT]),(1,fA 2 (tT 3)),(1,tT 6)] [_,_,_,_,_,_,_] ⟨O.faP y1A Z R R,O.ld nag3 Z R (.B R) R R,O.ld y4j Z R .Q R R,O.nc .Q Z R R,O.faQ yci Z R R,O.ld nag3 Z R .Q R R,O.bi Z R R R R,trivial⟩ fun h=>?_;rcases ifS hm with ⟨d,hm⟩|⟨d,hm⟩
  ·skip
   exact .drF h [(1,tT 7),(1,tT 8),(1,tT 9),(1,tT 8),(1,tT 11),(1,tT 12),(1,tT 13)] [_,_,_,_,_,_,_] ⟨[(4,.b (p0.2.1==f))],[],1⟩ ⟨O.kn (O.mv Z R R) d,O.faP y2I (Gu.mk R R) R R,O.ld nag3 (Gu.mk R R) R (.B R) R R,O.ld nag3 (Gu.mk R R) R .Q R R,O.bi (Gu.mk R R) R R R R,O.pkT Z R R R R,O.as Z R R,trivial⟩ (by kernel_rfl) R ((g _ hm).sub [] R)
  ·skip
   exact .drF h [(1,tT 7),(1,tT 8),(1,tT 9),(1,tT 8),(1,tT 11),(1,tT 12),(1,tT 13)] [_,_,_,_,_,_,_] ⟨[(4,.b false)],[],1⟩ ⟨O.kn (O.mv Z R R) d,O.skip R R R R,O.skip R R R R,O.skip R R R R,O.skip R R R R,O.pkF Z R R R R,O.as Z R R,trivial⟩ (by kernel_rfl) R ((g _ hm).sub [] R)
def y1Q(p0:BenT)(p1:Int):Option Int:=
 (yv p0.1.1.2.2.2 (y2r (some p0) p1)).bind fun a=>
 if decide (a<0) then
  some (-1)
 else
  (some p0).bind fun b=>
  (idx b.1.1.2.2.2 a).bind fun c=>
  some c.2.2
theorem y5Y{p0:BenT}{r:Int}(hm:y1Q p0 p1=some r):
    F0 219 [.o (lQ 199 (lx199 p0) 0),.i p1] [] (.i r) []:=by
  refine Fw.mk2 Tryz.func219 Tryz.ntmps219 R (fun C=>?_) R;refine .sr (.bo 0 R (.bo 1 R (.an R (.sr (.lb y4j R (.op (O.nc .Q Z R R) R (.fq y7V R (.fq y3Q R (.fq yB R (.lq nag33 R (.fz 0 [2] [] R R fB R R (.fz 1 [3] [] R R fB R R (.cnt 2 R (.c (.q (.c (.pk (r:=rE199) (.p (.p (.p .l (.p .k (.p .l .l))) (.p (.p .l (.p .k (.p .l .l))) .l)) (.p (.p (.p .k (.p .k (.p .k (.p .l .l)))) (.p .l (.p .l .k))) (.p .k (.p .l .l))))) .n)) .n) R (.op (O.mf (args:=(fun (x:(Int×Int×Int))=> [.a [lI x.1,lI x.2.1,lI x.2.2]])) (res:=(fun (r:Bool)=> .b r)) (m:=(y2r (some p0) p1)) cf242 (fun x r h=>y9d h) (fun _=>R) R Z R R) R (bS hm fun g d hm=> .c0 (y2C d) cf140 R (.an R (.seq (.sr (.mv R (.bi R (.ns ?_)))))))))))))))))))));refine .cc hm R (fun hm=>?_) fun hm=>?_
  ·refine .sr (.an R (.ret (.seqR ?_)));cases hm;exact .rr [] Tryz.results219 (.tmp R .nil) R I3 trivial
  ·refine .skip (.seqN (.sr (.lq y4j R (bS hm fun j e hm=> .cnt 16 R (.c (.pd e lv199) .n) R (.op (O.nc .Q Z R R) R (.fq y7V R (.fq y3Q R (.fq yB R (.lq nag33 R (.mv R (bS hm fun s f hm=> .ix sl33 f R (.fe y2J R (.le nag3 lv124 R (.an R (.ret ?_)))))))))))))));cases hm;exact .rr [] Tryz.results219 (.tmp R .nil) R I3 trivial
def y2G(p0:BenT)(b:Int)(a:Int):Option (Bool×BenT):=
 some (decide (b≥0),p0.1,p0.2.1,a,p0.2.2.2)
def y2v(p0:BenT)(p1:Int):Option (Bool×BenT):=
 (y1Q p0 p1).bind fun a=>
 if decide (a≥0) then
  y2G p0 a a
 else
  y2G p0 a p0.2.2.1
theorem y6u{p0:BenT}{r:Bool×BenT}(hm:y2v p0 p1=some r):
  Fw Tryz.prog 186 ⟨1,[0]⟩ [.o (lP 0 0),.i p1] [.bx 199 (lx199 p0)] (.b r.1) [.bx 199 (lx199 r.2)]:=by
 refine Fw.mk2 Tryz.func186 Tryz.ntmps186 R (fun C=>?_) R;refine .sr (.an R (.sr (.mv R (.mv R (bS hm fun e d hm=> .op (O.caZ (y5Y d) cf219 R R Z R ⟨⟨R,(.q R LnL.rf),trivial⟩,⟨R,LnL.rf⟩,trivial⟩ (fun _ _ _ _ _ h=>h) R) R (.an R ?_))))));refine .join1 (fun (a:Int)=>y2G p0 e a=some r) (fun a=>⟨[(5,.i e)],[(0,.bx 199 [lF qI p0.1.1.1,lI p0.1.1.2.1,lF qI p0.1.1.2.2.1,lF qT p0.1.1.2.2.2,lF qI p0.1.2.1.1,lI p0.1.2.1.2.1,lF qI p0.1.2.1.2.2.1,lF qT p0.1.2.1.2.2.2,lF qI p0.1.2.2,lI p0.2.1.1.1,lI p0.2.1.1.2.1,lI p0.2.1.1.2.2.1,lF rB p0.2.1.1.2.2.2.1,lF rE302 p0.2.1.1.2.2.2.2,lF qI p0.2.1.2.1,lF qI p0.2.1.2.2.1,lI p0.2.1.2.2.2,lI a,lF rB p0.2.2.2.1,lF rB p0.2.2.2.2])],1⟩) ?_ ?_
 ·intro a hm;refine .sr (.mv R (.bi R (.an R (.ret ?_))));cases hm;exact .rr [0] Tryz.results186 (.tmp R .nil) R I3 ⟨⟨_,R,I4⟩,trivial⟩
 ·intro c;refine .sr (.mv R (.bi R (.ns ?_)));exact .cc hm R (fun hm=> .reg (.mv R (.mv R (.op (O.nc .B Z R R) R (.fa yci R (.st nag3.sz R (.nil ((c _ hm).sub [] R)))))))) fun hm=> .skip ((c _ hm).sub [] R)
def y7n(p0:List Int)(p1:List Int):Option Int:=
 (y1l p0 32).bind fun a=>
 if(a != 0) then
  some a
 else
  (yA p0 p1).bind fun b=>
  if(!b) then
   some 9
  else
   some 0
theorem ybY{p0:List Int}{p1:List Int}{r:Int}(hm:y7n p0 p1=some r):
    F0 295 [.f qI p0,.f qI p1] [] (.i r) []:=by
  refine Fw.mk2 Tryz.func295 Tryz.ntmps295 R (fun C=>?_) R;refine .sr (.an R (.seq (.sr (.mv R (bS hm fun c a hm=> .c0 (y2K a) cf25 R (.an R (.sr (.mv R (.bi R (.ns ?_))))))))));refine .cc hm R (fun hm=>?_) fun hm=>?_
  ·refine .sr (.mv R (.an R (.ret (.seqR ?_))));cases hm;exact .rr [] Tryz.results295 (.tmp R .nil) R I3 trivial
  ·refine .skip (.seqN (.seq (.sr (.mv R (.mv R (bS hm fun d b hm=> .c0 (y6y b) cf26 R (.no R (.ns ?_))))))));refine .cc hm R (fun hm=>?_) fun hm=>?_
   ·refine .sr (.an R (.ret (.seqR ?_)));cases hm;exact .rr [] Tryz.results295 (.tmp R .nil) R I3 trivial
   ·refine .skip (.seqN (.sr (.an R (.ret ?_))));cases hm;exact .rr [] Tryz.results295 (.tmp R .nil) R I3 trivial
def y4w(p0:CodT)(p1:List Int)(a:Int×List Bool):Option ((Int×List Bool)⊕(List Bool)):=
 if decide (a.1<(p0.2.1.length:Int)) then
  (idx p0.2.1 a.1).bind fun c=>
  (y1m p1 c).bind fun b=>
  (idx a.2 a.1).bind fun e=>
  (upd a.2 a.1 b).bind fun d=>
  some (.inl (W (a.1+1),d))
 else
  some (.inr a.2)
def y7b(p0:CodT)(p1:List Int):Option (List Bool×Int):=
 (y7n p1 p0.2.1).bind fun b=>
 if(b != 0) then
  some (([]:List Bool),b)
 else
  (mkL (p0.2.1.length:Int) false).bind fun c=>
  (iter (y4w p0 p1) (0,c)).bind fun a=>
  some (a,0)
theorem ybJ{p0:CodT}{p1:List Int}{r:List Bool×Int}(hm:y7b p0 p1=some r):
    F0 271 [.a (lx193 p0),.f qI p1] [] (.tp [.h 0,.i r.2]) [ROW rB 4 r.1]:=by
  refine Fw.mk2 Tryz.func271 Tryz.ntmps271 R (fun C=>?_) R;refine .sr (.bo 0 R (.sa R (.an R (.seq (.sr (.mv R (.fa ydM R (.lb nag32 R (bS hm fun x p hm=> .c0 (ybY p) cf295 R (.an R (.sr (.mv R (.bi R (.ns ?_))))))))))))));refine .cc hm R (fun hm=>?_) fun hm=>?_
  ·refine .sr (.mv R (.sa R (.an R (.ret (.seqR (.nlg rB 4 4 0 R R ?_))))));cases hm;exact .rr [1] Tryz.results271 (.tmp R (.tmp R .nil)) R I3 ⟨⟨_,R,I4⟩,trivial⟩
  ·refine .skip (.seqN (.sr (.fa ydM R (.lb nag32 R (.ln sl32 R (bS hm fun y q hm=> .op (O.mk (z:=false) 1 Tryz.underlying144 zr4 R R Z R R q R) R (.an R (.seq (.sr (.fa ydM R (.lb nag32 R (.ln sl32 R (.mv R (.ns (.block (bS hm fun e g hm=>?_))))))))))))))));refine .cut1 (z:= .exit 0) e (fun (e:List Bool)=>⟨[(7,.h 0)],[(0,ROW rB 4 e)],1⟩) ?_ fun o=>?_
   · skip
     refine .blkE (.seqN (.sr (.mv R (.sa R (.an R (.ret ?_))))));cases hm;exact .rr [0] Tryz.results271 (.tmp R (.tmp R .nil)) R I3 ⟨⟨_,R,I4⟩,trivial⟩
   refine .iter (fun (c:Int×List Bool)=>⟨[(24,.i c.1),(23,.i p0.2.1.length),(22,.f qI p0.2.1),(7,.h 0),(1,.f qI p1)],[(0,ROW rB 4 c.2)],1⟩) g [(0,1)] R ?_;intro c t hm n m;refine .sr (.bi R (.ns (.seq ?_)));exact .cc hm R (fun hm=> .skip (.seqN (.seq (.block (.sr (.mv R (bS hm fun u k hm=> .ix sl32 k R (.le nag3 lv3 R (.sa R (.an R (.reg (.mv R (.mv R (.mv R (.mv R (bS hm fun s j hm=> .c0 (y3S j) cf94 R (bS hm fun v d hm=> .op (O.ir sl144 Z R R R d R) R (bS hm fun w l hm=> .op (O.su (z:=s) nag4.sz Z R R d l R R R lv4 R .b) R (.nil (.blkN (.seqN (.reg (.bi R (.mv R (.nil ((n _ (oj hm)).sub [] R)))))))))))))))))))))))))) fun hm=> .exit (.seqX (.seqX ((o _ (m _ (oj hm))).sub [] R)))
def y5x(p0:List Bool)(p1:Int):Option (List Bool):=if p0= []∧0≤p1∧p1≤100000 then some [] else none
theorem Row.as_at{w:World}{B k':Nat}{tag tag':Nat→Nat}{k:Nat}{t:TypeId}{sz:Nat}{v:Value}{n:Nat}{cs:List Value}(h:Row w B tag k t sz v n cs)(ht:∀b,B≤b→b<w.heap.size→tag' b=k'):Row w 0 tag' k' t sz v n cs:=
 ⟨h.1,h.2.imp id fun⟨b,off,cap,cur,h1,h2,h3⟩=>⟨b,off,cap,cur,h1,⟨h2.heap,ht b h2.base h2.lt,yZl _⟩,h3⟩⟩
theorem Tryz.ginfo_bool :(Tryz.prog.info? 4).map (fun i=>(i.zero,i.size,i.bytes))=some (some (.bool false),1,1):=by kernel_rfl
theorem yik(n:Nat)(w:World)(hn:n≤100000):
  Calls Tryz.prog 321 #[.slice none 0 0,.int .i64 n] w (Ret w fun u w'=>Row w' w.heap.size (fun _=>1) 1 4 1 u 0 []):=by
 obtain⟨i0,hi,hz0,hz1,hz2⟩:=info_parts Tryz.ginfo_bool
 go_enter Tryz.func321,Tryz.ntmps321
 by_cases h0:n=0
 ·subst h0
  go_wp2
  go_ret
  exact⟨_,rfl,Row.nil _ _ _ _ _ _,Below.refl _ _⟩
 ·have h1:(0:Int)<(n:Int):=by omega
  have hge:=grownCap_ge w n 0 4;have hcm:=grownCap_le_maxLen w n 0 4 (by unfold maxLen;omega);have hr:=fun ty=>Lib.run_append_nil_zeros (P:=Tryz.prog) w 144 3 ty 4 i0 (.bool false) .i64 .i64 Tryz.underlying144 Tryz.underlying3 hi hz0 n (by omega) (by rw [hz1];decide) (by omega) (by rw [hz2];omega);have hsz:(Builtin.zeroCells (Value.bool false).cells n++Builtin.zeroCells (Value.bool false).cells (grownCap w n 0 4-n)).size=grownCap w n 0 4:=by
   rw [Array.size_append,size_zeroCells,size_zeroCells];simp [Value.cells];omega
  generalize Builtin.zeroCells (Value.bool false).cells n++Builtin.zeroCells (Value.bool false).cells (grownCap w n 0 4-n)=cs at *;generalize grownCap w n 0 4=cap at *
  go_wp2_with (at_builtin;refine Lib.wpList_append_run _ rfl _ _ 144 3 rfl _ _ rfl rfl _ _ (hr _) ?_)
  go_ret
  refine⟨_,rfl,⟨by simp,.inr ⟨w.heap.size,0,cap,cs,rfl,⟨heap_alloc_new _ _,rfl,Nat.le_refl _⟩,yZl _,hcm,by omega,by simp⟩⟩,(by (repeat (first | with_reducible exact Below.refl _ _|with_reducible exact Below.refl _ _|(with_reducible refine yfx ?_ Below.refl _ _ (by first | omega|(simp;done)|(simp;omega)|(simp at *;omega)))|(with_reducible refine Below.alloc ?_ (by first | omega|(simp;done)|(simp;omega)|(simp at *;omega)) _)|(with_reducible refine Below.drew ?_)|(with_reducible refine Below.setCell ?_ (by first | omega|(simp;done)|(simp;omega)|(simp at *;omega)) _))))⟩
theorem ybn{s:Sig}{p0:List Bool}{u0:Nat}{r:List Bool}(hm:y5x p0 p1=some r):
  Calls Tryz.prog 321 #[.slice none 0 0,.int .i64 p1] s.w (RetS No s fun v s'=>∃(a1:Option Addr) (c1:Nat),v= .slice a1 r.length c1∧RowT rB s' u0 4 a1 c1 r):=by
 unfold y5x at hm;split at hm
 ·rename_i hc;cases hm;obtain⟨_,h1,h2⟩:=hc;obtain⟨n,rfl⟩:∃n:Nat,p1=n:=⟨p1.toNat,by omega⟩;have hn:n≤100000:=by omega
  have hg:Calls Tryz.prog 321 #[.slice none 0 0,.int .i64 n] s.w (Ret s.w fun u w'=>Row w' s.w.heap.size (fun _=>1) 1 4 1 u 0 []):=yik n s.w hn;refine hg.mono fun en w' hh=>?_;obtain⟨u,rfl,hrow,hbel⟩:=hh;obtain⟨a1,c1,rfl⟩:=hrow.val;refine⟨_,⟨w',fun b=>if b<s.w.heap.size then s.tag b else u0⟩,rfl,rfl,Below.mv hbel (fun b hb=>if_pos hb),a1,c1,rfl,[],hrow.as_at fun b h3 h4=>if_neg (by omega),rfl⟩
 ·cases hm
def y6b(p0:List Int)(p1:Int):Option (List Int):=if p0= []∧0≤p1∧p1≤100000 then some [] else none
theorem Tryz.ginfo_int :(Tryz.prog.info? 3).map (fun i=>(i.zero,i.size,i.bytes))=some (some (.int .i64 0),1,8):=by kernel_rfl
theorem yhh(n:Nat)(w:World)(hn:n≤100000):
  Calls Tryz.prog 218 #[.slice none 0 0,.int .i64 n] w (Ret w fun u w'=>Row w' w.heap.size (fun _=>1) 1 3 1 u 0 []):=by
 obtain⟨i0,hi,hz0,hz1,hz2⟩:=info_parts Tryz.ginfo_int
 go_enter Tryz.func218,Tryz.ntmps218
 by_cases h0:n=0
 ·subst h0
  go_wp2
  go_ret
  exact⟨_,rfl,Row.nil _ _ _ _ _ _,Below.refl _ _⟩
 ·have h1:(0:Int)<(n:Int):=by omega
  have hge:=grownCap_ge w n 0 3;have hcm:=grownCap_le_maxLen w n 0 3 (by unfold maxLen;omega);have hr:=fun ty=>Lib.run_append_nil_zeros (P:=Tryz.prog) w 32 3 ty 3 i0 (.int .i64 0) .i64 .i64 Tryz.underlying32 Tryz.underlying3 hi hz0 n (by omega) (by rw [hz1];decide) (by omega) (by rw [hz2];omega);have hsz:(Builtin.zeroCells (Value.int .i64 0).cells n++Builtin.zeroCells (Value.int .i64 0).cells (grownCap w n 0 3-n)).size=grownCap w n 0 3:=by
   rw [Array.size_append,size_zeroCells,size_zeroCells];simp [Value.cells];omega
  generalize Builtin.zeroCells (Value.int .i64 0).cells n++Builtin.zeroCells (Value.int .i64 0).cells (grownCap w n 0 3-n)=cs at *;generalize grownCap w n 0 3=cap at *
  go_wp2_with (at_builtin;refine Lib.wpList_append_run _ rfl _ _ 32 3 rfl _ _ rfl rfl _ _ (hr _) ?_)
  go_ret
  refine⟨_,rfl,⟨by simp,.inr ⟨w.heap.size,0,cap,cs,rfl,⟨heap_alloc_new _ _,rfl,Nat.le_refl _⟩,yZl _,hcm,by omega,by simp⟩⟩,(by (repeat (first | with_reducible exact Below.refl _ _|with_reducible exact Below.refl _ _|(with_reducible refine yfx ?_ Below.refl _ _ (by first | omega|(simp;done)|(simp;omega)|(simp at *;omega)))|(with_reducible refine Below.alloc ?_ (by first | omega|(simp;done)|(simp;omega)|(simp at *;omega)) _)|(with_reducible refine Below.drew ?_)|(with_reducible refine Below.setCell ?_ (by first | omega|(simp;done)|(simp;omega)|(simp at *;omega)) _))))⟩
theorem ybK{s:Sig}{p0:List Int}{u0:Nat}{r:List Int}(hm:y6b p0 p1=some r):
  Calls Tryz.prog 218 #[.slice none 0 0,.int .i64 p1] s.w (RetS No s fun v s'=>∃(a1:Option Addr) (c1:Nat),v= .slice a1 r.length c1∧RowT (rK .i64) s' u0 3 a1 c1 r):=by
 unfold y6b at hm;split at hm
 ·rename_i hc;cases hm;obtain⟨_,h1,h2⟩:=hc;obtain⟨n,rfl⟩:∃n:Nat,p1=n:=⟨p1.toNat,by omega⟩;have hn:n≤100000:=by omega
  have hg:Calls Tryz.prog 218 #[.slice none 0 0,.int .i64 n] s.w (Ret s.w fun u w'=>Row w' s.w.heap.size (fun _=>1) 1 3 1 u 0 []):=yhh n s.w hn;refine hg.mono fun en w' hh=>?_;obtain⟨u,rfl,hrow,hbel⟩:=hh;obtain⟨a1,c1,rfl⟩:=hrow.val;refine⟨_,⟨w',fun b=>if b<s.w.heap.size then s.tag b else u0⟩,rfl,rfl,Below.mv hbel (fun b hb=>if_pos hb),a1,c1,rfl,[],hrow.as_at fun b h3 h4=>if_neg (by omega),rfl⟩
 ·cases hm
theorem ybo{p0:List Bool}{r:List Bool}(hm:y5x p0 p1=some r):Fw Tryz.prog 321 ⟨0,[]⟩ [.o (lV (.slice none 0 0)),.i p1] [] (.h 0) [ROW rB 4 r]:=
 ⟨fun ts β s vs ht _ _ _ ⟨v,us,h,⟨v2,us2,h2,hu,e3⟩,e2⟩ _=>by
  have hu:us2= []:=hu;have h:v= .slice none 0 0:=h.1;have h2:v2= .int .i64 p1:=h2.1;subst hu e3 e2 h h2;obtain⟨t,rfl⟩:∃t,ts= [t]:=by
   match ts,ht with
   | [t],_=>exact⟨t,rfl⟩
  exact Calls.mono (ybn (u0:=t) hm) fun en w' ⟨v,s',e1,e2,m,a,c,hv,hr⟩=>⟨v,s',e1,e2,m.no,fun _=>v,fun i hi=>(by cases hi),⟨rfl,by rw [hv];rfl⟩,fun i o ho=>by
   match i,ho with
   | 0,ho=>cases ho;exact⟨a,c,hv,hr⟩⟩⟩
theorem ybL{p0:List Int}{r:List Int}(hm:y6b p0 p1=some r):Fw Tryz.prog 218 ⟨0,[]⟩ [.o (lV (.slice none 0 0)),.i p1] [] (.h 0) [ROW qI 3 r]:=
 ⟨fun ts β s vs ht _ _ _ ⟨v,us,h,⟨v2,us2,h2,hu,e3⟩,e2⟩ _=>by
  have hu:us2= []:=hu;have h:v= .slice none 0 0:=h.1;have h2:v2= .int .i64 p1:=h2.1;subst hu e3 e2 h h2;obtain⟨t,rfl⟩:∃t,ts= [t]:=by
   match ts,ht with
   | [t],_=>exact⟨t,rfl⟩
  exact Calls.mono (ybK (u0:=t) hm) fun en w' ⟨v,s',e1,e2,m,a,c,hv,hr⟩=>⟨v,s',e1,e2,m.no,fun _=>v,fun i hi=>(by cases hi),⟨rfl,by rw [hv];rfl⟩,fun i o ho=>by
   match i,ho with
   | 0,ho=>cases ho;exact⟨a,c,hv,hr⟩⟩⟩
theorem ybM{p0:List Int}{r:List Int}(hm:y2w p0=some r):Fw Tryz.prog 206 ⟨1,[0]⟩ [.h 0] [ROW qI 3 p0] (.tp []) [ROW qI 3 r]:=
 ⟨fun ts β s vs ht _ _ hp ⟨v,us,h,hu,e2⟩ ho=>by
  have hu:us= []:=hu;subst hu;subst e2;obtain⟨t,rfl⟩:∃t,ts= [t]:=by
   match ts,ht with
   | [t],_=>exact⟨t,rfl⟩
  obtain⟨a,c,e,h2⟩:=ho 0 _ rfl;have hv:v= .slice a p0.length c:=h.1.trans e;subst hv;have hl:r.length=p0.length:=by
   unfold y2w at hm;split at hm
   ·rw [←Option.some.inj hm];exact(y6T _).length_eq
   ·cases hm
  exact Calls.mono (y8M (hp t (.head _)) h2 hm) fun en w' ⟨v,s',e1,e2,m,hv,hr⟩=>⟨v,s',e1,e2,m.weak fun t' ht'=>⟨0,.head _,by rw [show t'=t from ht'];rfl⟩,β,fun _ _=>rfl,⟨[],rfl,hv⟩,fun i o ho=>by
   match i,ho with
   | 0,ho=>cases ho;exact⟨a,c,by rw [e,hl],hr⟩⟩⟩
def y2m(p0:List (List Bool))(a:Int×List Bool):Option ((Int×List Bool)⊕(List Bool)):=
 if decide (a.1<(p0.length:Int)) then
  (idx p0 a.1).bind fun b=>
  (app a.2 b).bind fun c=>
  some (.inl (W (a.1+1),c))
 else
  some (.inr a.2)
def y6J(b:Int×Int)(a:Int):Option ((Int×Int)⊕Int):=
 some (.inl (W (b.1+1),a))
def y2n(p0:List (List Bool))(a:Int×Int):Option ((Int×Int)⊕Int):=
 if decide (a.1<(p0.length:Int)) then
  (idx p0 a.1).bind fun b=>
  if decide ((W (a.2+(b.length:Int)))<0) then
   none
  else
   y6J a (W (a.2+(b.length:Int)))
 else
  some (.inr a.2)
def y6l(p0:List (List Bool)):Option (List Bool):=
 (iter (y2n p0) (0,0)).bind fun c=>
 (y5x ([]:List Bool) c).bind fun b=>
 (iter (y2m p0) (0,b)).bind fun a=>
 some a
theorem yau{p0:List (List Bool)}{r:List Bool}(hm:y6l p0=some r):
  F0 319 [.f (rL rB) p0] [] (.h 0) [ROW rB 4 r]:=by
 refine Fw.mk2 Tryz.func319 Tryz.ntmps319 R (fun C=>?_) R;refine .sr (.an R (.sr (.an R (.seq (.sr (.mv R (.ln sl387 R (.mv R (.ns (.block (bS hm fun p u hm=>?_)))))))))));refine .cut1 (z:= .exit 0) p (fun (p:Int)=>⟨[(3,.i p),(0,.f (rL rB) p0)],[],0⟩) ?_ fun s=>?_
 ·skip
  refine .blkE (.seqN (.sr (.mv R (bS hm fun x j hm=> .op (O.ca (r':= .h 0) [0] [(0,ROW rB 4 x)] (some 1) (ybo j) cf321 R R Z R R R R ⟨⟨_,R,I4⟩,trivial⟩ I3 R) R (.an R (.seq (.sr (.mv R (.ln sl387 R (.mv R (.ns (.block (bS hm fun d g hm=>?_)))))))))))));refine .cut1 (z:= .exit 2) d (fun (d:List Bool)=>⟨[(6,.h 0)],[(0,ROW rB 4 d)],1⟩) ?_ fun t=>?_
  ·skip
   refine .blkE (.seqN (.sr (.mv R (.an R (.ret ?_)))));cases hm;exact .rr [0] Tryz.results319 (.tmp R .nil) R I3 ⟨⟨_,R,I4⟩,trivial⟩
  refine .iter (fun (b:Int×List Bool)=>⟨[(27,.i b.1),(26,.i p0.length),(25,.f (rL rB) p0),(6,.h 0)],[(0,ROW rB 4 b.2)],1⟩) g [] R ?_;intro b y hm o n;refine .sr (.bi R (.ns (.seq ?_)));exact .cc hm R (fun hm=> .skip (.seqN (.seq (.block (.sr (bS hm fun B k hm=> .ix sl387 k R (.le y2q lv144 R (.an R (.reg (.mv R (.mv R (bS hm fun D l hm=> .op (O.ap 1 Tryz.underlying144 el4 R R Z R R (.fr R) l R) R (.sa R (.nil (.blkN (.seqN (.reg (.bi R (.mv R (.nil ((o _ (oj hm)).sub [(0,1)] R))))))))))))))))))))) fun hm=> .exit (.seqX (.seqX ((t _ (n _ (oj hm))).sub [] R)))
 refine .iter (fun (a:Int×Int)=>⟨[(11,.i a.1),(10,.i p0.length),(9,.f (rL rB) p0),(3,.i a.2),(0,.f (rL rB) p0)],[],0⟩) u [] R ?_;intro a q hm w v;refine .sr (.bi R (.ns (.seq ?_)));refine .cc hm R (fun hm=>?_) fun hm=> .exit (.seqX (.seqX ((s _ (v _ (oj hm))).sub [] R)));refine .skip (.seqN ?_);refine .join1 (fun (c:Int)=>y6J a c=some q) (fun c=>⟨[(3,.i c),(11,.i a.1),(10,.i p0.length),(9,.f (rL rB) p0),(0,.f (rL rB) p0)],[],0⟩) ?_ ?_
 ·intro c hm;exact .reg (.bi R (.mv R (.nil ((w _ (oj hm)).sub [] R))))
 ·intro e;refine .block (.sr (bS hm fun E m hm=> .ix sl387 m R (.le y2q lv144 R (.an R (.sr (.mv R (.mv R (.ln sl144 R (.bi R (.an R (.sr (.mv R (.bi R (.ns ?_))))))))))))));refine .cc hm R (fun hm=>?_) fun hm=> .skip (.blkN ((e _ hm).sub [] R));refine .reg ?_;cases hm
def y6B(p0:Int×Int×Int×List Bool×(List (Int×Int)))(p1:List Bool×List Bool)(p2:List Bool):Option (List Bool×Int):=
 (y4U p0).bind fun a=>
 if(a != 0) then
  some (([]:List Bool),a)
 else
  if((((p2.length:Int) != p0.1)||((p1.1.length:Int) != p0.2.1))||((p1.2.length:Int) != p0.2.2.1)) then
   some (([]:List Bool),4)
  else
   (y6l ([p2,p1.1,p1.2]:List (List Bool))).bind fun b=>
   some (b,0)
theorem yb1{p0:Int×Int×Int×List Bool×(List (Int×Int))}{p1:List Bool×List Bool}{p2:List Bool}{r:List Bool×Int}(hm:y6B p0 p1 p2=some r):
    F0 296 [.a (lx191 p0),.a [lF rB p1.1,lF rB p1.2],.f rB p2] [] (.tp [.h 0,.i r.2]) [ROW rB 4 r.1]:=by
  refine Fw.mk2 Tryz.func296 Tryz.ntmps296 R (fun C=>?_) R;refine .sr (.bo 0 R (.bo 1 R (.sa R (.an R (.seq (.sr (.lg (lx191 p0) ag191 R (.B R) R (bS hm fun s m hm=> .c0 (y8r m) cf243 R (.an R (.sr (.mv R (.bi R (.ns ?_)))))))))))));refine .cc hm R (fun hm=>?_) fun hm=>?_
  ·refine .sr (.mv R (.sa R (.an R (.ret (.seqR (.nlg rB 4 6 0 R R ?_))))));cases hm;exact .rr [2] Tryz.results296 (.tmp R (.tmp R .nil)) R I3 ⟨⟨_,R,I4⟩,trivial⟩
  ·refine .skip (.seqN (.seq (.sr (.mv R (.ln sl144 R (.fa y9W R (.lb nag3 R (.bi R (.mv R ?_)))))))));refine .cut 7 (fun (e:Bool)=>(((p2.length:Int) != p0.1)||((p1.1.length:Int) != p0.2.1))=e) (fun e=>⟨[(26,.b e),(4,.q 1 0),(3,.q 0 0),(2,.f rB p2)],[(1,.bx 197 [lF rB p1.1,lF rB p1.2]),(0,.bx 191 (lx191 p0))],2⟩) ?_ ?_
   · rintro _ rfl;refine .mv R ?_;refine .cut 7 (fun (g:Bool)=>((((p2.length:Int) != p0.1)||((p1.1.length:Int) != p0.2.1))||((p1.2.length:Int) != p0.2.2.1))=g) (fun g=>⟨[(34,.b g),(4,.q 1 0),(2,.f rB p2)],[(1,.bx 197 [lF rB p1.1,lF rB p1.2])],2⟩) ?_ ?_
     · rintro _ rfl;refine .ns ?_;refine .cc hm R (fun hm=>?_) fun hm=>?_
       ·refine .sr (.sa R (.an R (.ret (.seqR (.nlg rB 4 6 0 R R ?_)))));cases hm;exact .rr [2] Tryz.results296 (.tmp R (.tmp R .nil)) R I3 ⟨⟨_,R,I4⟩,trivial⟩
       ·refine .skip (.seqN (.sr (.mv R (.fa yaR R (.lb y2q R (.fa ycj R (.lb y2q R (.op (O.bsF (r:=(rL rB)) (zs:=([p2,p1.1,p1.2]:List (List Bool))) bs387 R R Z R R R (.c .l (.c .l (.c .l .n))) R R R) R (bS hm fun p o hm=> .op (O.ca (r':= .h 2) [2] [(0,ROW rB 4 p)] (some 3) (yau o) cf319 R R Z R R R R ⟨⟨_,R,I4⟩,trivial⟩ I3 R) R (.sa R (.an R (.ret ?_))))))))))));cases hm;exact .rr [2] Tryz.results296 (.tmp R (.tmp R .nil)) R I3 ⟨⟨_,R,I4⟩,trivial⟩
     · intro k;rcases yEt (((p2.length:Int) != p0.1)||((p1.1.length:Int) != p0.2.1)) with hc|hc
       · refine .know (d:=27) R hc ?_;exact .sk R (.sk R (.sk R (.sk R (.sk R (.sk R (.pT R ((k true (orT hc).symm).sub [] R)))))))
       · refine .know (d:=27) R hc ?_;exact .fag ycj R (.lbg y2q R (.op (O.len sl144 (Gu.mk R R) R R) R (.fag yaQ R (.lbg nag3 R (.bg R (.pF R ((k ((p1.2.length:Int) != p0.2.2.1) (orF hc).symm).sub [] R)))))))
   · intro j;rcases yEt ((p2.length:Int) != p0.1) with hc|hc
     · refine .know (d:=19) R hc ?_;exact .sk R (.sk R (.sk R (.sk R (.sk R (.sk R (.pT R ((j true (orT hc).symm).sub [] R)))))))
     · refine .know (d:=19) R hc ?_;exact .fag yaR R (.lbg y2q R (.op (O.len sl144 (Gu.mk R R) R R) R (.fag y9X R (.lbg nag3 R (.bg R (.pF R ((j ((p1.1.length:Int) != p0.2.1) (orF hc).symm).sub [] R)))))))
def y1R(p0:Int×Int×Int×List Bool×(List (Int×Int)))(n:(List (Int×ByteArray×(Option (Bool→Bool→Option Bool))×(Option (Bool→Bool→Option Bool))×(Option (Bool→Option Bool)))))(a:List Bool×Int×Bool×List Int):Option ((List Bool×Int×Bool×List Int)⊕(List Bool×List Int)):=
 if decide (a.2.1<(p0.2.2.2.2.length:Int)) then
  (app a.2.2.2 ([a.2.1]:List Int)).bind fun d=>
  (idx p0.2.2.2.2 a.2.1).bind fun b=>
  (idx n (W (b.1-1))).bind fun c=>
  if c.2.2.1.isSome then
   (idx a.1 b.2).bind fun k=>
   c.2.2.1.bind fun e=>
   (e a.2.2.1 k).bind fun h=>
   some (.inl (a.1,W (a.2.1+1),h,d))
  else
   if c.2.2.2.1.isSome then
    (idx a.1 b.2).bind fun l=>
    c.2.2.2.1.bind fun f=>
    (f a.2.2.1 l).bind fun i=>
    (idx a.1 b.2).bind fun o=>
    (upd a.1 b.2 i).bind fun m=>
    some (.inl (m,W (a.2.1+1),a.2.2.1,d))
   else
    c.2.2.2.2.bind fun g=>
    (g a.2.2.1).bind fun j=>
    if j then
     some (.inl (a.1,b.2,a.2.2.1,d))
    else
     some (.inl (a.1,W (a.2.1+1),a.2.2.1,d))
 else
  some (.inr (a.1,a.2.2.2))
def y6P(p0:Int×Int×Int×List Bool×(List (Int×Int)))(p1:List Bool):Option (List Int×List Bool):=
 (y1k).bind fun b=>
 (iter (y1R p0 b) (p1,0,false,([]:List Int))).bind fun a=>
 some (a.2,a.1)
theorem ybp{p0:Int×Int×Int×List Bool×(List (Int×Int))}{p1:List Bool}{r:List Int×List Bool}(hm:y6P p0 p1=some r):
    Fw Tryz.prog 297 ⟨1,[0]⟩ [.a (lx191 p0),.h 0] [ROW rB 4 p1] (.h 1) [ROW rB 4 r.2,rwI r.1]:=by
  refine Fw.mk2 Tryz.func297 Tryz.ntmps297 R (fun C=>?_) R;refine .sr (.bo 1 R (.an R (.sr (bS hm fun v M hm=> .c0 (y7x M) cf293 R (.an R (.sr (.an R (.sr (.an R (.seq (.sr (.an R (.block (bS hm fun o w hm=>?_))))))))))))));refine .cut1 (z:= .exit 0) o (fun (o:List Bool×List Int)=>⟨[(6,.h 1)],[(0,ROW rB 4 o.1),(1,rwI o.2)],2⟩) ?_ fun L=>?_
  · skip
    refine .blkE (.seqN (.sr (.mv R (.an R (.ret ?_)))));cases hm;exact .rr [0,1] Tryz.results297 (.tmp R .nil) R I3 ⟨⟨_,R,I4⟩,⟨_,R,I4⟩,trivial⟩
  refine .nlg qI 3 6 0 R R (.iter (fun (d:List Bool×Int×Bool×List Int)=>⟨[(8,.i d.2.1),(7,.b d.2.2.1),(6,.h 1),(5,.f rE372 v),(2,.q 2 0),(1,.h 0)],[(0,ROW rB 4 d.1),(1,rwI d.2.2.2),(2,.bx 191 (lx191 p0))],3⟩) w [(1,2),(2,1)] R ?_);intro d U hm m K;refine .seq (.sr (.mv R (.fa y9Y R (.lb y7t R (.ln sl189 R (.bi R (.ns ?_)))))));refine .cc hm R (fun hm=>?_) fun hm=> .exit (.seqX (.seqX ((L _ (K _ (oj hm))).sub [] R)));refine .skip (.seqN (.block (.sr (.mv R (.mv R (.bf (r:=qI) ([d.2.1]:List Int) bs32 R (.c .k .n) R (bS hm fun p G hm=> .op (O.ap 3 Tryz.underlying32 el3 R R Z R R (.fr R) G R) R (.an R (.sr (.fa y9Y R (.lb y7t R (.mv R (bS hm fun l H hm=> .ix sl189 H R (.lg [lI l.1,lI l.2] ag302 R (.E lv302) R (.al 4 zz302 R (.st ag302.sz R (.nr (.mv R (.fa ycg R (.lb nag3 R (.bi R (bS hm fun e I hm=> .ix sl368 I R (.lg [lI e.1,lV (.string e.2.1),lF2 Tryz.prog (fun (g:Bool) (j:Bool)=> [.bool g,.bool j]) (fun (r:Bool)=> .bool r) e.2.2.1,lF2 Tryz.prog (fun (g:Bool) (j:Bool)=> [.bool g,.bool j]) (fun (r:Bool)=> .bool r) e.2.2.2.1,lF1 Tryz.prog (fun (g:Bool)=> [.bool g]) (fun (r:Bool)=> .bool r) e.2.2.2.2] ag372 R (.E lv372) R (.al 5 zz372 R (.st ag372.sz R (.nr ?_))))))))))))))))))))))))));refine .mv R (.bi R (.an R (.block (.sr (.fa yfY R (.lb ybV R (.op (O.fne2 Tryz.underlying135 Z R R R) R (.an R ?_))))))));refine .cc hm R (fun hm=>?_) fun hm=>?_
  ·refine .sub (τ:=⟨[(8,.i (W (d.2.1+1))),(10,.q 5 0),(9,.q 4 0),(6,.h 3),(7,.b d.2.2.1),(5,.f rE372 v),(2,.q 2 0),(1,.h 0)],[(0,ROW rB 4 d.1),(5,.bx 372 [lI e.1,lV (.string e.2.1),lF2 Tryz.prog (fun (g:Bool) (j:Bool)=> [.bool g,.bool j]) (fun (r:Bool)=> .bool r) e.2.2.1,lF2 Tryz.prog (fun (g:Bool) (j:Bool)=> [.bool g,.bool j]) (fun (r:Bool)=> .bool r) e.2.2.2.1,lF1 Tryz.prog (fun (g:Bool)=> [.bool g]) (fun (r:Bool)=> .bool r) e.2.2.2.2]),(4,.bx 302 [lI l.1,lI l.2]),(3,rwI p),(2,.bx 191 (lx191 p0))],6⟩) ?_ [] R;refine bS hm fun Q s hm=>bS hm fun V ef31 hm=>bS hm fun N x hm=>?_;refine .drg 6 [(6,[]),(6,[oT]),(6,[]),(6,[]),(6,[]),(6,[oF,oF,oF,oF,oT]),(6,fA 3 (tT 3)),(6,fA 3 (tT 4)),(6,tT 8),(6,tT 9)] [_,_,_,_,_,_,_,_,_,_] ⟨[(7,.b N),(8,.i (W (d.2.1+1))),(6,.h 3),(5,.f rE372 v),(2,.q 2 0),(1,.h 0)],[(0,ROW rB 4 d.1),(3,rwI p),(2,.bx 191 (lx191 p0))],6⟩ ⟨O.faP yfY Z R R,O.ld ybV Z R (.B R) R R,O.mv Z R R,O.mv Z R R,O.faP y7z Z R R,O.ld nag3 Z R (.B R) R R,O.ir sl144 Z R R R s R,O.ld nag4 Z R (.R R s lv4) R R,O.fh2 (y:=d.2.2.1) (z:=Q) R R R Z R ef31 x R R,O.as Z R R,trivial⟩ (by kernel_rfl) R ?_;exact .blkN (.blkN ((m _ (oj hm)).sub [(1,3)] R))
  ·refine .sr (.fa ydL R (.lb ybV R (.op (O.fne2 Tryz.underlying135 Z R R R) R (.an R ?_))));refine .cc hm R (fun hm=>?_) fun hm=>?_
   ·refine .sub (τ:=⟨[(8,.i (W (d.2.1+1))),(10,.q 5 0),(9,.q 4 0),(6,.h 3),(7,.b d.2.2.1),(5,.f rE372 v),(2,.q 2 0),(1,.h 0)],[(0,ROW rB 4 d.1),(5,.bx 372 [lI e.1,lV (.string e.2.1),lF2 Tryz.prog (fun (g:Bool) (j:Bool)=> [.bool g,.bool j]) (fun (r:Bool)=> .bool r) e.2.2.1,lF2 Tryz.prog (fun (g:Bool) (j:Bool)=> [.bool g,.bool j]) (fun (r:Bool)=> .bool r) e.2.2.2.1,lF1 Tryz.prog (fun (g:Bool)=> [.bool g]) (fun (r:Bool)=> .bool r) e.2.2.2.2]),(4,.bx 302 [lI l.1,lI l.2]),(3,rwI p),(2,.bx 191 (lx191 p0))],6⟩) ?_ [] R;refine bS hm fun S t hm=>bS hm fun X ef34 hm=>bS hm fun P D hm=>bS hm fun a1 u hm=>bS hm fun T J hm=>?_;refine .drg 6 [(6,[]),(6,[]),(6,[oF,oT]),(6,[]),(6,[oF,oF,oF,oT]),(6,[]),(6,[]),(6,[]),(6,[oF,oF,oF,oF,oF,oF,oF,oT]),(6,fA 6 (tT 3)),(6,fA 6 (tT 4)),(6,fA 3 (tT 8)),(6,tT 12),(6,tT 13)] [_,_,_,_,_,_,_,_,_,_,_,_,_,_] ⟨[(8,.i (W (d.2.1+1))),(6,.h 3),(7,.b d.2.2.1),(5,.f rE372 v),(2,.q 2 0),(1,.h 0)],[(0,ROW rB 4 T),(3,rwI p),(2,.bx 191 (lx191 p0))],6⟩ ⟨O.mv Z R R,O.faP y7z Z R R,O.ld nag3 Z R (.B R) R R,O.faP ydL Z R R,O.ld ybV Z R (.B R) R R,O.mv Z R R,O.mv Z R R,O.faP y7z Z R R,O.ld nag3 Z R (.B R) R R,O.ir sl144 Z R R R t R,O.ld nag4 Z R (.R R t lv4) R R,O.fh2 (y:=d.2.2.1) (z:=S) R R R Z R ef34 D R R,O.ir sl144 Z R R R u R,O.su (z:=P) nag4.sz Z R R u J R R R lv4 R .b,trivial⟩ (by kernel_rfl) R ?_;exact .blkN (.blkN ((m _ (oj hm)).sub [(1,3)] R))
   ·refine .sr (.fa yfX R (.lb yhg R (.mv R (bS hm fun Y ef38 hm=>bS hm fun a0 F hm=> .op (O.fh1 (y:=d.2.2.1) R R R Z R ef38 F R R) R (.an R ?_)))));exact .cc hm R (fun hm=> .reg (.fa y7z R (.lb nag3 R (.sa R (.nil (.blkN (.blkN ((m _ (oj hm)).sub [(1,3)] R)))))))) fun hm=> .skip (.blkN (.blkN ((m _ (oj hm)).sub [(1,3)] R)))
def y6C(p0:Int×Int×Int×List Bool×(List (Int×Int)))(p1:List Bool):Option (List Bool×List Bool):=
 (slc3 p1 p0.1 (W (p0.1+p0.2.1)) (W (p0.1+p0.2.1))).bind fun a=>
 (slc3 p1 (W (p0.1+p0.2.1)) (p1.length:Int) (p1.length:Int)).bind fun b=>
 some (a,b)
theorem yb2{p0:Int×Int×Int×List Bool×(List (Int×Int))}{p1:List Bool}{r:(List Bool×List Bool)}(hm:y6C p0 p1=some r):
  F0 298 [.a (lx191 p0),.f rB p1] [] (.g [lF rB r.1,lF rB r.2]) []:=by
 refine Fw.mk2 Tryz.func298 Tryz.ntmps298 R (fun C=>?_) R;refine .sr (.bo 0 R (.al 1 zz197 R (.nr (.fa y9W R (.lb nag3 R (.fa y9X R (.lb nag3 R (.bi R (.an R (.seq ?_))))))))));refine .sub (τ:=⟨[(5,.i (W (p0.1+p0.2.1))),(4,.q 1 0),(2,.q 0 0),(1,.f rB p1)],[(1,.bx 197 [lN,lN]),(0,.bx 191 (lx191 p0))],2⟩) ?_ [] R;refine bS hm fun d b hm=>bS hm fun e c hm=>?_;refine .drg 2 [(2,[]),(2,[]),(2,[oF,oT]),(2,[]),(2,[]),(2,tT 5),(2,[]),(2,[]),(2,[]),(2,[oF,oF,oF,oF,oF,oF,oF,oF,oT]),(2,[]),(2,[oF,oF,oF,oF,oF,oF,oF,oF,oF,oF,oT]),(2,fA 6 (tT 6)),(2,tT 13),(2,tT 14)] [_,_,_,_,_,_,_,_,_,_,_,_,_,_,_] ⟨[(4,.q 1 0)],[(1,.bx 197 [lF rB d,lF rB e])],2⟩ ⟨O.mv Z R R,O.faP y9W Z R R,O.ld nag3 Z R (.B R) R R,O.mv Z R R,O.mv Z R R,O.s3 sl144 Z R R R R b R,O.mv Z R R,O.mv Z R R,O.mv Z R R,O.len sl144 Z R R,O.mv Z R R,O.len sl144 Z R R,O.s3 sl144 Z R R R R c R,O.bu (l:=[lF rB d,lF rB e]) pl197 R Z R R R,O.st ag197.sz Z R R R R R,trivial⟩ (by kernel_rfl) R ?_;refine .seqN (.ret ?_);cases hm;exact .rr [] Tryz.results298 (.cell R R ag197 R .nil) R I3 trivial
def y5y(p0:Int×Int×Int×List Bool×(List (Int×Int)))(p1:List Bool×List Bool)(p2:List Bool):Option ((List Bool×List Bool)×Int):=
 (y6B p0 p1 p2).bind fun a=>
 if(a.2 != 0) then
  some ((([]:List Bool),([]:List Bool)),a.2)
 else
  (y6P p0 a.1).bind fun b=>
  (y6C p0 b.2).bind fun c=>
  some (c,0)
theorem ybq{p0:Int×Int×Int×List Bool×(List (Int×Int))}{p1:List Bool×List Bool}{p2:List Bool}{r:(List Bool×List Bool)×Int}(hm:y5y p0 p1 p2=some r):
    F0 272 [.a (lx191 p0),.a [lF rB p1.1,lF rB p1.2],.f rB p2] [] (.tp [.a [lF rB r.1.1,lF rB r.1.2],.i r.2]) []:=by
  refine Fw.mk2 Tryz.func272 Tryz.ntmps272 R (fun C=>?_) R;refine .sr (.bo 0 R (.bo 1 R (.al 2 zz197 R (.an R (.sr (.lg (lx191 p0) ag191 R (.B R) R (.lg [lF rB p1.1,lF rB p1.2] ag197 R (.B R) R (.mv R (bS hm fun g b hm=> .op (O.ca (r':= .tp [.h 3,.i g.2]) [3] [(0,ROW rB 4 g.1)] (some 4) (yb1 b) cf296 R R Z R R R R ⟨⟨_,R,I4⟩,trivial⟩ I3 R) R (.mv R (.ex R (.ex R (.sa R (.an R (.seq (.sr (.mv R (.bi R (.ns ?_)))))))))))))))))));refine .cc hm R (fun hm=>?_) fun hm=>?_
  ·refine .sr (.bu [lN,lN] pl197 R (.mv R (.st ag197.sz R (.an R (.ret (.seqR (.cno 2 R (.c (.nf (r:=rB)) (.c (.nf (r:=rB)) .n)) R ?_)))))));cases hm;exact .rr [] Tryz.results272 (.cell R R ag197 R (.tmp R .nil)) R I3 trivial
  ·refine .skip (.seqN (.sr (.lg (lx191 p0) ag191 R (.B R) R (.mv R (bS hm fun j d hm=> .op (O.ca (r':= .h 4) [3,4] [(0,ROW rB 4 j.2),(1,rwI j.1)] (some 5) (ybp d) cf297 R R Z R R R R ⟨⟨_,R,I4⟩,⟨_,R,I4⟩,trivial⟩ I3 R) R (.nr (.lg (lx191 p0) ag191 R (.B R) R (.mv R (.fz 3 [25] [] R R fR R R (bS hm fun k e hm=> .c0 (yb2 e) cf298 R (.st ag197.sz R (.an R (.ret ?_)))))))))))));cases hm;exact .rr [] Tryz.results272 (.cell R R ag197 R (.tmp R .nil)) R I3 trivial
def y6Q(p0:CodT)(p1:List Bool×List Bool)(p2:List Int):Option ((List Bool×List Bool)×Int):=
 (y7b p0 p2).bind fun a=>
 if(a.2 != 0) then
  some ((([]:List Bool),([]:List Bool)),a.2)
 else
  (y5y p0.1 p1 a.1).bind fun b=>
  some b
theorem ycu{p0:CodT}{p1:List Bool×List Bool}{p2:List Int}{r:(List Bool×List Bool)×Int}(hm:y6Q p0 p1 p2=some r):
    F0 244 [.a (lx193 p0),.a [lF rB p1.1,lF rB p1.2],.f qI p2] [] (.tp [.a [lF rB r.1.1,lF rB r.1.2],.i r.2]) []:=by
  refine Fw.mk2 Tryz.func244 Tryz.ntmps244 R (fun C=>?_) R;refine .sr (.bo 0 R (.bo 1 R (.al 2 zz197 R (.an R (.sr (.lg (lx193 p0) ag193 R (.B R) R (.mv R (bS hm fun e b hm=> .op (O.ca (r':= .tp [.h 3,.i e.2]) [3] [(0,ROW rB 4 e.1)] (some 4) (ybJ b) cf271 R R Z R R R R ⟨⟨_,R,I4⟩,trivial⟩ I3 R) R (.mv R (.ex R (.ex R (.sa R (.an R (.seq (.sr (.mv R (.bi R (.ns ?_))))))))))))))))));refine .cc hm R (fun hm=>?_) fun hm=>?_
  ·refine .sr (.bu [lN,lN] pl197 R (.mv R (.st ag197.sz R (.an R (.ret (.seqR (.cno 2 R (.c (.nf (r:=rB)) (.c (.nf (r:=rB)) .n)) R ?_)))))));cases hm;exact .rr [] Tryz.results244 (.cell R R ag197 R (.tmp R .nil)) R I3 trivial
  ·refine .skip (.seqN (.sr (.fa ych R (.lg (lx191 p0.1) ag191 R (.B R) R (.lg [lF rB p1.1,lF rB p1.2] ag197 R (.B R) R (.mv R (.fz 3 [23] [] R R fR R R (bS hm fun g d hm=> .c0 (ybq d) cf272 R (.ex R (.ex R (.st ag197.sz R (.an R (.ret ?_)))))))))))));cases hm;exact .rr [] Tryz.results244 (.cell R R ag197 R (.tmp R .nil)) R I3 trivial
def y3g(p0:BenT)(c:(List Bool×List Bool)×Int)(a:List Bool)(b:List Bool):Option (Int×BenT):=
 some (c.2,p0.1,p0.2.1,p0.2.2.1,a,b)
def y1S(a:Int×List Int)(b:List Int):Option ((Int×List Int)⊕(List Int)):=
 some (.inl (W (a.1+1),b))
def y1T(p0:BenT)(p1:List Int)(a:Int×List Int):Option ((Int×List Int)⊕(List Int)):=
 if decide (a.1<(p1.length:Int)) then
  (idx p1 a.1).bind fun b=>
  (yf p0.1.2.1.1 b).bind fun c=>
  if c then
   (app a.2 ([b]:List Int)).bind fun d=>
   y1S a d
  else
   y1S a a.2
 else
  some (.inr a.2)
def yS(p0:BenT)(p1:List Int):Option (Int×BenT):=
 (iter (y1T p0 p1) (0,([]:List Int))).bind fun b=>
 (y2w b).bind fun c=>
 (y6Q p0.2.1 p0.2.2.2 c).bind fun a=>
 if(a.2==0) then
  y3g p0 a a.1.1 a.1.2
 else
  y3g p0 a p0.2.2.2.1 p0.2.2.2.2
theorem y5z{p0:BenT}{p1:List Int}{r:Int×BenT}(hm:yS p0 p1=some r):
  Fw Tryz.prog 221 ⟨1,[0]⟩ [.o (lP 0 0),.f qI p1] [.bx 199 (lx199 p0)] (.i r.1) [.bx 199 (lx199 r.2)]:=by
 refine Fw.mk2 Tryz.func221 Tryz.ntmps221 R (fun C=>?_) R;refine .sr (.an R (.sr (.an R (.seq (.sr (.mv R (.ln sl32 R (.mv R (.ns (.block (bS hm fun p u hm=>?_)))))))))));refine .cut1 (z:= .exit 0) p (fun (p:List Int)=>⟨[(5,.h 1),(0,.q 0 0)],[(0,.bx 199 (lx199 p0)),(1,rwI p)],2⟩) ?_ fun G=>?_
 ·skip
  refine .blkE (.seqN (.sr (.mv R (bS hm fun t v hm=> .op (O.ca (r':= .tp []) [1] [(0,rwI t)] none (ybM v) cf206 R R Z R R R R ⟨⟨_,R,I4⟩,trivial⟩ I3 R) R (.ns (.seq (.fz 1 [29,5] [] R R fR R R ?_)))))));refine .sub (τ:=⟨[(5,.f qI t),(0,.q 0 0)],[(0,.bx 199 (lx199 p0))],2⟩) ?_ [] R;refine bS hm fun a w hm=>?_;refine .drz 3 [(13,2)] [(2,[],[],[]),(2,[oT],[],[]),(2,[oT,oT],[],[]),(2,[oT,oT,oT],[],[]),(2,[],[],[]),(2,[oF,oF,oF,oF,oT],[],[]),(2,[oF,oF,oF,oF,oT,oT],[],[]),(2,[oF,oF,oF,oF,oT,oT,oT],[],[]),(2,[],[],[]),(2,[oT,oT,oT,oT,oT,oT,oT,oT,oT],[],[]),(2,[oT,oT,oT,oT,oT,oT,oT,oT,oT,oT],[],[]),(2,[oT,oT,oT,oT,oT,oT,oT,oT,oT,oT,oT],[],[]),(2,[oT,oT,oT,oT,oT,oT,oT,oT,oT,oT,oT],[],[]),(2,[],[],[]),(3,[oT,oT,oT,oT,oT,oT,oT,oT,oT,oT,oT,oT,oF,oT],[],[]),(3,[oT,oT,oT,oT,oT,oT,oT,oT,oT,oT,oT,oT,oT,oT,oT],[],[(13,2)])] [_,_,_,_,_,_,_,_,_,_,_,_,_,_,_,_] ⟨[(9,.i a.2),(8,.q 2 0),(0,.q 0 0)],[(0,.bx 199 (lx199 p0)),(2,.bx 197 [lF rB a.1.1,lF rB a.1.2])],3⟩ ⟨O.mv Z R R,O.nc .B Z R R,O.faP yck Z R R,O.lg (l':=(lx193 p0.2.1)) ag193 Z R (.B R) R R R,O.mv Z R R,O.nc .B Z R R,O.faP yaS Z R R,O.lg (l':=[lF rB p0.2.2.2.1,lF rB p0.2.2.2.2]) ag197 Z R (.B R) R R R,O.mv Z R R,O.ca0 (ycu w) cf244 R R Z R R R,O.mv Z R R,O.ex Z R R R,O.ex Z R R R,O.al 2 R zz197 R Z R,O.st ag197.sz Z R R R R R,O.as Z R R,trivial⟩ (by kernel_rfl) R ?_;refine .seqN ?_;refine .join2 (fun (d:List Bool) (e:List Bool)=>y3g p0 a d e=some r) (fun d e=>⟨[(9,.i a.2)],[(0,.bx 199 [lF qI p0.1.1.1,lI p0.1.1.2.1,lF qI p0.1.1.2.2.1,lF qT p0.1.1.2.2.2,lF qI p0.1.2.1.1,lI p0.1.2.1.2.1,lF qI p0.1.2.1.2.2.1,lF qT p0.1.2.1.2.2.2,lF qI p0.1.2.2,lI p0.2.1.1.1,lI p0.2.1.1.2.1,lI p0.2.1.1.2.2.1,lF rB p0.2.1.1.2.2.2.1,lF rE302 p0.2.1.1.2.2.2.2,lF qI p0.2.1.2.1,lF qI p0.2.1.2.2.1,lI p0.2.1.2.2.2,lI p0.2.2.1,lF rB d,lF rB e])],1⟩) ?_ ?_
  ·intro d e hm;refine .sr (.mv R (.an R (.ret ?_)));cases hm;exact .rr [0] Tryz.results221 (.tmp R .nil) R I3 ⟨⟨_,R,I4⟩,trivial⟩
  ·intro j;refine .sr (.mv R (.bi R (.ns ?_)));exact .cc hm R (fun hm=> .reg (.mv R (.lg [lF rB a.1.1,lF rB a.1.2] ag197 R (.B R) R (.op (O.nc .B Z R R) R (.fa yaS R (.st ag197.sz R (.nil ((j _ _ hm).sub [] R)))))))) fun hm=> .skip ((j _ _ hm).sub [] R)
 refine .nlg qI 3 5 0 R R (.iter (fun (b:Int×List Int)=>⟨[(12,.i b.1),(11,.i p1.length),(10,.f qI p1),(5,.h 1),(0,.q 0 0)],[(0,.bx 199 (lx199 p0)),(1,rwI b.2)],2⟩) u [] R ?_);intro b s hm F E;refine .sr (.bi R (.ns (.seq ?_)));refine .cc hm R (fun hm=>?_) fun hm=> .exit (.seqX (.seqX ((G _ (E _ (oj hm))).sub [] R)));refine .skip (.seqN ?_);refine .join1 (fun (g:List Int)=>y1S b g=some s) (fun g=>⟨[(5,.h 1),(12,.i b.1),(11,.i p1.length),(10,.f qI p1),(0,.q 0 0)],[(0,.bx 199 (lx199 p0)),(1,rwI g)],2⟩) ?_ ?_
 ·intro g hm;exact .reg (.bi R (.mv R (.nil ((F _ (oj hm)).sub [] R))))
 ·intro m;refine .block (.sr (bS hm fun H y hm=> .ix sl32 y R (.le nag3 lv3 R (.an R (.sr (.mv R (.op (O.nc .B Z R R) R (.fa y7V R (.fa y5Z R (.fa yz R (.lb nag32 R (.mv R (bS hm fun I x hm=> .c0 (yj x) cf104 R (.ns ?_))))))))))))));exact .cc hm R (fun hm=> .reg (.mv R (.mv R (.bf (r:=qI) ([H]:List Int) bs32 R (.c .k .n) R (bS hm fun J D hm=> .op (O.ap 2 Tryz.underlying32 el3 R R Z R R (.fr R) D R) R (.sa R (.nil (.blkN ((m _ hm).sub [(1,2)] R))))))))) fun hm=> .skip (.blkN ((m _ hm).sub [] R))
def y5J(p0:CodT)(p1:List Bool×List Bool):Option Int:=
 if(((p1.1.length:Int) != p0.1.2.1)||((p1.2.length:Int) != p0.1.2.2.1)) then
  some 4
 else
  some 0
theorem y7Y{p0:CodT}{p1:List Bool×List Bool}{r:Int}(hm:y5J p0 p1=some r):
    F0 245 [.a (lx193 p0),.a [lF rB p1.1,lF rB p1.2]] [] (.i r) []:=by
  refine Fw.mk2 Tryz.func245 Tryz.ntmps245 R (fun C=>?_) R;refine .sr (.bo 0 R (.bo 1 R (.an R (.seq (.sr (.fa yaR R (.lb y2q R (.ln sl144 R (.fa ych R (.fa y9X R (.lb nag3 R (.bi R (.mv R ?_)))))))))))));refine .cut 8 (fun (c:Bool)=>(((p1.1.length:Int) != p0.1.2.1)||((p1.2.length:Int) != p0.1.2.2.1))=c) (fun c=>⟨[(20,.b c)],[],2⟩) ?_ ?_
  · rintro _ rfl;refine .ns ?_;refine .cc hm R (fun hm=>?_) fun hm=>?_
    ·refine .sr (.an R (.ret (.seqR ?_)));cases hm;exact .rr [] Tryz.results245 (.tmp R .nil) R I3 trivial
    ·refine .skip (.seqN (.sr (.an R (.ret ?_))));cases hm;exact .rr [] Tryz.results245 (.tmp R .nil) R I3 trivial
  · intro e;rcases yEt ((p1.1.length:Int) != p0.1.2.1) with hc|hc
    · refine .know (d:=12) R hc ?_;exact .sk R (.sk R (.sk R (.sk R (.sk R (.sk R (.sk R (.pT R ((e true (orT hc).symm).sub [] R))))))))
    · refine .know (d:=12) R hc ?_;exact .fag ycj R (.lbg y2q R (.op (O.len sl144 (Gu.mk R R) R R) R (.fag ych R (.fag yaQ R (.lbg nag3 R (.bg R (.pF R ((e ((p1.2.length:Int) != p0.1.2.2.1) (orF hc).symm).sub [] R))))))))
def y3Z(a:Int×List Int)(b:List Int):Option ((Int×List Int)⊕(List Int)):=
 some (.inl (W (a.1+1),b))
def y4a(p0:CodT)(p1:List Bool×List Bool)(a:Int×List Int):Option ((Int×List Int)⊕(List Int)):=
 if decide (a.1<(p0.2.2.1.length:Int)) then
  (idx p0.2.2.1 a.1).bind fun b=>
  (idx p1.1 a.1).bind fun c=>
  if c then
   (app a.2 ([b]:List Int)).bind fun d=>
   y3Z a d
  else
   y3Z a a.2
 else
  some (.inr a.2)
def y4b(p0:CodT)(p1:List Bool×List Bool):Option (List Int×Int):=
 (y5J p0 p1).bind fun b=>
 if(b != 0) then
  some (([]:List Int),b)
 else
  (iter (y4a p0 p1) (0,([]:List Int))).bind fun a=>
  some (a,0)
theorem ybr{p0:CodT}{p1:List Bool×List Bool}{r:List Int×Int}(hm:y4b p0 p1=some r):
    F0 222 [.a (lx193 p0),.a [lF rB p1.1,lF rB p1.2]] [] (.tp [.h 0,.i r.2]) [rwI r.1]:=by
  refine Fw.mk2 Tryz.func222 Tryz.ntmps222 R (fun C=>?_) R;refine .sr (.bo 0 R (.bo 1 R (.sa R (.an R (.seq (.sr (.lg (lx193 p0) ag193 R (.B R) R (.lg [lF rB p1.1,lF rB p1.2] ag197 R (.B R) R (bS hm fun D v hm=> .c0 (y7Y v) cf245 R (.an R (.sr (.mv R (.bi R (.ns ?_))))))))))))));refine .cc hm R (fun hm=>?_) fun hm=>?_
  ·refine .sr (.mv R (.sa R (.an R (.ret (.seqR (.nlg qI 3 4 0 R R ?_))))));cases hm;exact .rr [2] Tryz.results222 (.tmp R (.tmp R .nil)) R I3 ⟨⟨_,R,I4⟩,trivial⟩
  ·refine .skip (.seqN (.sr (.an R (.seq (.sr (.fa yfZ R (.lb nag32 R (.ln sl32 R (.mv R (.ns (.block (bS hm fun g l hm=>?_))))))))))));refine .cut1 (z:= .exit 0) g (fun (g:List Int)=>⟨[(7,.h 0)],[(0,rwI g)],1⟩) ?_ fun u=>?_
   · skip
     refine .blkE (.seqN (.sr (.mv R (.sa R (.an R (.ret ?_))))));cases hm;exact .rr [0] Tryz.results222 (.tmp R (.tmp R .nil)) R I3 ⟨⟨_,R,I4⟩,trivial⟩
   refine .nlg qI 3 7 0 R R (.iter (fun (b:Int×List Int)=>⟨[(19,.i b.1),(18,.i p0.2.2.1.length),(17,.f qI p0.2.2.1),(7,.h 0),(3,.q 1 0)],[(0,rwI b.2),(1,.bx 197 [lF rB p1.1,lF rB p1.2])],2⟩) l [(0,2)] R ?_);intro b j hm t s;refine .sr (.bi R (.ns (.seq ?_)));refine .cc hm R (fun hm=>?_) fun hm=> .exit (.seqX (.seqX ((u _ (s _ (oj hm))).sub [] R)));refine .skip (.seqN ?_);refine .join1 (fun (d:List Int)=>y3Z b d=some j) (fun d=>⟨[(7,.h 0),(19,.i b.1),(18,.i p0.2.2.1.length),(17,.f qI p0.2.2.1),(3,.q 1 0)],[(0,rwI d),(1,.bx 197 [lF rB p1.1,lF rB p1.2])],2⟩) ?_ ?_
   · intro d hm;exact .reg (.bi R (.mv R (.nil ((t _ (oj hm)).sub [] R))))
   · intro e;refine .block (.sr (.mv R (bS hm fun w m hm=> .ix sl32 m R (.le nag3 lv3 R (.sa R (.an R (.sr (.fa yaR R (.lb y2q R (.mv R (bS hm fun x o hm=> .ix sl144 o R (.le nag4 lv4 R (.ns ?_)))))))))))));exact .cc hm R (fun hm=> .reg (.mv R (.mv R (.bf (r:=qI) ([w]:List Int) bs32 R (.c .k .n) R (bS hm fun y p hm=> .op (O.ap 2 Tryz.underlying32 el3 R R Z R R (.fr R) p R) R (.sa R (.nil (.blkN ((e _ hm).sub [(0,2)] R))))))))) fun hm=> .skip (.blkN ((e _ hm).sub [] R))
def y5n(p0:BenT)(p1:Int)(p2:List Int):Option Bool:=
 (y1Q p0 p1).bind fun c=>
 (if decide (c≥0) then
  (yf p2 p1).bind fun d=>
  (if d then
   some true
  else
   (yf p0.1.2.1.1 p1).bind fun e=>
   some (!e)).bind fun b=>
  some b
 else
  some false).bind fun a=>
 some a
theorem yab{p0:BenT}{p2:List Int}{r:Bool}(hm:y5n p0 p1 p2=some r):
  F0 224 [.o (lQ 199 (lx199 p0) 0),.i p1,.f qI p2] [] (.b r) []:=by
 refine Fw.mk2 Tryz.func224 Tryz.ntmps224 R (fun C=>?_) R;refine .sr (.an R (.sr (.mv R (.mv R (bS hm fun p j hm=> .c0 (y5Y j) cf219 R (.bi R (.mv R (bS hm fun m eb2 hm=>?_))))))));refine .cut 15 (fun (a:Bool)=>m=a) (fun a=>⟨[(26,.b a)],[],0⟩) ?_ ?_
 ·rintro _ rfl;refine .an R (.ret ?_);cases hm;exact .rr [] Tryz.results224 (.tmp R .nil) R I3 trivial
 ·intro e;rcases ifS eb2 with ⟨hc,hm⟩|⟨hc,hm⟩
  ·refine .know (d:=11) R hc ?_;refine .mg R (.mg R (bS hm fun q k hm=> .op (O.ca0 (yj k) cf104 R R (Gu.mk R R) R R R) R (.mg R (bS hm fun h eb6 hm=>?_))));refine .cut 10 (fun (c:Bool)=>h=c) (fun c=>⟨[(25,.b c),(11,.b true)],[],0⟩) ?_ ?_
   ·rintro _ rfl;exact .pT R ((e h (oj hm)).sub [] R)
   ·intro g;rcases ifS eb6 with ⟨hc,hm⟩|⟨hc,hm⟩
    ·refine .know (d:=15) R hc ?_;exact .sk R (.sk R (.sk R (.sk R (.sk R (.sk R (.sk R (.sk R (.sk R (.op (O.pkT (Gu.mk R R) R R R R) R ((g true (oj hm)).sub [] R))))))))))
    ·refine .know (d:=15) R hc ?_;exact .mg R (.op (O.nc .Q (Gu.mk R R) R R) R (.op (O.faQ y7V (Gu.mk R R) R R) R (.op (O.faQ y5Z (Gu.mk R R) R R) R (.op (O.faQ yz (Gu.mk R R) R R) R (.op (O.ld nag32 (Gu.mk R R) R .Q R R) R (.mg R (bS hm fun n l hm=> .op (O.ca0 (yj l) cf104 R R (Gu.mk R R) R R R) R (.op (O.not (Gu.mk R R) R R) R (.op (O.pkF (Gu.mk R R) R R R R) R ((g (!n) (oj hm)).sub [] R))))))))))
  ·refine .know (d:=11) R hc ?_;exact .sk R (.sk R (.sk R (.sk R (.su R (.su R (.su R (.su R (.su R (.su R (.su R (.su R (.su R (.sk R (.pF R ((e false (oj hm)).sub [] R)))))))))))))))
def yO(a:Option BenT)(b:StpT)(p0:Int):Option Bool:=
 a.bind fun d=>
 (y5n d p0 b.2.2.1).bind fun c=>
 some c
theorem y9e{e:Option BenT}{f:StpT}{p0:Int}{r:Bool}(hm:yO e f p0=some r):
  F0 223 [.i p0,.o (lQ 276 [lK rE199 199 e] 0),.o (lQ 100 (lx100 f) 0)] [] (.b r) []:=by
 refine Fw.mk2 Tryz.func223 Tryz.ntmps223 R (fun C=>?_) R;refine .sr (.an R (.sr (.lq y4j R (.mv R (.fq ycl R (.lq nag32 R (bS hm fun h d hm=> .cnt 5 R (.c (.pd d lv199) .n) R (bS hm fun g a hm=> .c0 (yab a) cf224 R (.an R (.ret ?_))))))))));cases hm;exact .rr [] Tryz.results223 (.tmp R .nil) R I3 trivial
def y1v(a:BenT×Int×Bool×List Int)(d:BenT)(b:Bool)(c:List Int):Option ((BenT×Int×Bool×List Int)⊕(BenT×Bool×List Int)):=
 some (.inl (d,W (a.2.1+1),b,c))
def y3J(p1:List Int)(p2:Int)(a:BenT×Int×Bool×List Int):Option ((BenT×Int×Bool×List Int)⊕(BenT×Bool×List Int)):=
 if decide (a.2.1<(p1.length:Int)) then
  (idx p1 a.2.1).bind fun c=>
  (y2v a.1 c).bind fun b=>
  if b.1 then
   (app a.2.2.2 ([c]:List Int)).bind fun f=>
   (if a.2.2.1 then
    (y1Q b.2 p2).bind fun e=>
    some (decide (e≥0))
   else
    some false).bind fun d=>
   y1v a b.2 d f
  else
   y1v a b.2 a.2.2.1 a.2.2.2
 else
  some (.inr (a.1,a.2.2))
def y4N(p0:BenT)(p1:List Int)(p2:Int):Option (List Int×Bool×BenT):=
 (iter (y3J p1 p2) (p0,0,(p2 != (-1)),([]:List Int))).bind fun a=>
 some (a.2.2,a.2.1,a.1)
theorem y9O{p0:BenT}{p1:List Int}{r:List Int×Bool×BenT}(hm:y4N p0 p1 p2=some r):
  Fw Tryz.prog 225 ⟨1,[0]⟩ [.o (lP 0 0),.f qI p1,.i p2] [.bx 199 (lx199 p0)] (.tp [.h 1,.b r.2.1]) [.bx 199 (lx199 r.2.2),rwI r.1]:=by
 refine Fw.mk2 Tryz.func225 Tryz.ntmps225 R (fun C=>?_) R;refine .sr (.sa R (.an R (.sr (.mv R (.bi R (.an R (.seq (.sr (.mv R (.ln sl32 R (.mv R (.ns (.block (bS hm fun e v hm=>?_))))))))))))));refine .cut1 (z:= .exit 0) e (fun (e:BenT×Bool×List Int)=>⟨[(7,.b e.2.1),(6,.h 1)],[(0,.bx 199 (lx199 e.1)),(1,rwI e.2.2)],2⟩) ?_ fun F=>?_
 ·skip
  refine .blkE (.seqN (.sr (.mv R (.mv R (.sa R (.an R (.ret ?_)))))));cases hm;exact .rr [0,1] Tryz.results225 (.tmp R (.tmp R .nil)) R I3 ⟨⟨_,R,I4⟩,⟨_,R,I4⟩,trivial⟩
 refine .nlg qI 3 6 0 R R (.iter (fun (a:BenT×Int×Bool×List Int)=>⟨[(14,.i a.2.1),(13,.i p1.length),(12,.f qI p1),(7,.b a.2.2.1),(6,.h 1),(0,.q 0 0),(2,.i p2)],[(0,.bx 199 (lx199 a.1)),(1,rwI a.2.2.2)],2⟩) v [] R ?_);intro a t hm E D;refine .sr (.bi R (.ns (.seq ?_)));refine .cc hm R (fun hm=>?_) fun hm=> .exit (.seqX (.seqX ((F _ (D _ (oj hm))).sub [] R)));refine .skip (.seqN ?_);refine .join3 (fun (l:BenT) (g:Bool) (j:List Int)=>y1v a l g j=some t) (fun l g j=>⟨[(7,.b g),(6,.h 1),(14,.i a.2.1),(13,.i p1.length),(12,.f qI p1),(0,.q 0 0),(2,.i p2)],[(0,.bx 199 (lx199 l)),(1,rwI j)],2⟩) ?_ ?_
 ·intro l g j hm;exact .reg (.bi R (.mv R (.nil ((E _ (oj hm)).sub [] R))))
 ·intro m;refine .block (.sr (bS hm fun I y hm=> .ix sl32 y R (.le nag3 lv3 R (.an R (.sr (.mv R (.mv R (bS hm fun p w hm=> .op (O.ca (r':= .b p.1) [0] [(0,.bx 199 (lx199 p.2))] none (y6u w) cf186 R R Z R R R R ⟨⟨_,R,I4⟩,trivial⟩ I3 R) R (.ns ?_)))))))));refine .cc hm R (fun hm=>?_) fun hm=> .skip (.blkN ((m _ _ _ hm).sub [] R));refine .sr (.mv R (.mv R (.bf (r:=qI) ([I]:List Int) bs32 R (.c .k .n) R (bS hm fun J B hm=> .op (O.ap 2 Tryz.underlying32 el3 R R Z R R (.fr R) B R) R (.an R (.reg (.mv R (.mv R (bS hm fun G eb32 hm=>?_)))))))));refine .cut 5 (fun (s:Bool)=>G=s) (fun s=>⟨[(31,.b s),(6,.h 2),(14,.i a.2.1),(13,.i p1.length),(12,.f qI p1),(0,.q 0 0),(2,.i p2)],[(0,.bx 199 (lx199 p.2)),(2,rwI J)],3⟩) ?_ ?_
  ·rintro _ rfl;exact .sa R (.nil (.blkN ((m _ _ _ hm).sub [(1,2)] R)))
  ·intro u;rcases ifS eb32 with ⟨hc,hm⟩|⟨hc,hm⟩
   ·refine .know (d:=26) R hc ?_;exact .mg R (.mg R (bS hm fun H x hm=> .op (O.caZ (y5Y x) cf219 R R (Gu.mk R R) R ⟨⟨R,(.q R LnL.rf),trivial⟩,⟨R,LnL.rf⟩,trivial⟩ (fun _ _ _ _ _ h=>h) R) R (.bg R (.pT R ((u (decide (H≥0)) (oj hm)).sub [] R)))))
   ·refine .know (d:=26) R hc ?_;exact .sk R (.sk R (.sk R (.sk R (.pF R ((u false (oj hm)).sub [] R)))))
def y4W(a:Int×Int×Int)(b:Int)(c:Int):Option ((Int×Int×Int)⊕(Int×Int)):=
 some (.inl (W (a.1+1),b,c))
def y4X(b:List Bool)(a:Int×Int×Int):Option ((Int×Int×Int)⊕(Int×Int)):=
 if decide (a.1<(b.length:Int)) then
  (idx b a.1).bind fun c=>
  if c then
   y4W a (W (a.2.1+1)) a.1
  else
   y4W a a.2.1 a.2.2
 else
  some (.inr a.2)
def y7o(p0:CodT)(p1:List Bool×List Bool):Option (Int×Int):=
 (y5J p0 p1).bind fun b=>
 if(b != 0) then
  some (0,b)
 else
  (slc p1.2 0 p0.2.2.2).bind fun c=>
  (iter (y4X c) (0,0,0)).bind fun a=>
  if(a.1 != 1) then
   some (0,22)
  else
   some (a.2,0)
theorem ybZ{p0:CodT}{p1:List Bool×List Bool}{r:Int×Int}(hm:y7o p0 p1=some r):
    F0 226 [.a (lx193 p0),.a [lF rB p1.1,lF rB p1.2]] [] (.tp [.i r.1,.i r.2]) []:=by
  refine Fw.mk2 Tryz.func226 Tryz.ntmps226 R (fun C=>?_) R;refine .sr (.bo 0 R (.bo 1 R (.sa R (.an R (.seq (.sr (.lg (lx193 p0) ag193 R (.B R) R (.lg [lF rB p1.1,lF rB p1.2] ag197 R (.B R) R (bS hm fun t p hm=> .c0 (y7Y p) cf245 R (.an R (.sr (.mv R (.bi R (.ns ?_))))))))))))));refine .cc hm R (fun hm=>?_) fun hm=>?_
  ·refine .sr (.mv R (.sa R (.an R (.ret (.seqR ?_)))));cases hm;exact .rr [] Tryz.results226 (.tmp R (.tmp R .nil)) R I3 trivial
  ·refine .skip (.seqN (.sr (.an R (.seq (.sr (.fa ycj R (.lb y2q R (.fa yjz R (.lb nag3 R (bS hm fun j q hm=> .op (O.sh sl144 Z R R q R) R (.ln sl144 R (.mv R (.ns (.block (bS hm fun e k hm=>?_)))))))))))))));refine .cut1 (z:= .exit 0) e (fun (e:Int×Int)=>⟨[(7,.i e.1),(4,.i e.2)],[],0⟩) ?_ fun o=>?_
   · skip
     refine .blkE (.seqN (.seq (.sr (.mv R (.bi R (.ns ?_))))));refine .cc hm R (fun hm=>?_) fun hm=>?_
     ·refine .sr (.sa R (.an R (.ret (.seqR ?_))));cases hm;exact .rr [] Tryz.results226 (.tmp R (.tmp R .nil)) R I3 trivial
     ·refine .skip (.seqN (.sr (.mv R (.sa R (.an R (.ret ?_))))));cases hm;exact .rr [] Tryz.results226 (.tmp R (.tmp R .nil)) R I3 trivial
   refine .iter (fun (b:Int×Int×Int)=>⟨[(22,.i b.1),(21,.i j.length),(20,.f rB j),(7,.i b.2.1),(4,.i b.2.2)],[],0⟩) k [] R ?_;intro b h hm n m;refine .sr (.bi R (.ns (.seq ?_)));refine .cc hm R (fun hm=>?_) fun hm=> .exit (.seqX (.seqX ((o _ (m _ (oj hm))).sub [] R)));refine .skip (.seqN ?_);refine .join2 (fun (c:Int) (d:Int)=>y4W b c d=some h) (fun c d=>⟨[(7,.i c),(4,.i d),(22,.i b.1),(21,.i j.length),(20,.f rB j)],[],0⟩) ?_ ?_
   · intro c d hm;exact .reg (.bi R (.mv R (.nil ((n _ (oj hm)).sub [] R))))
   · intro g;refine .block (.sr (.mv R (bS hm fun s l hm=> .ix sl144 l R (.le nag4 lv4 R (.sa R (.an R (.sr (.mv R (.ns ?_)))))))));exact .cc hm R (fun hm=> .reg (.mv R (.mv R (.bi R (.sa R (.sa R (.nil (.blkN ((g _ _ hm).sub [] R))))))))) fun hm=> .skip (.blkN ((g _ _ hm).sub [] R))
def y6R(p0:CodT)(p1:List Bool×List Bool):Option (Bool×Int):=
 (y5J p0 p1).bind fun a=>
 if(a != 0) then
  some (false,a)
 else
  (idx p1.1 (p0.2.2.1.length:Int)).bind fun b=>
  some (b,0)
theorem ybs{p0:CodT}{p1:List Bool×List Bool}{r:Bool×Int}(hm:y6R p0 p1=some r):
    F0 227 [.a (lx193 p0),.a [lF rB p1.1,lF rB p1.2]] [] (.tp [.b r.1,.i r.2]) []:=by
  refine Fw.mk2 Tryz.func227 Tryz.ntmps227 R (fun C=>?_) R;refine .sr (.bo 0 R (.bo 1 R (.sa R (.an R (.seq (.sr (.lg (lx193 p0) ag193 R (.B R) R (.lg [lF rB p1.1,lF rB p1.2] ag197 R (.B R) R (bS hm fun e c hm=> .c0 (y7Y c) cf245 R (.an R (.sr (.mv R (.bi R (.ns ?_))))))))))))));refine .cc hm R (fun hm=>?_) fun hm=>?_
  ·refine .sr (.mv R (.sa R (.an R (.ret (.seqR ?_)))));cases hm;exact .rr [] Tryz.results227 (.tmp R (.tmp R .nil)) R I3 trivial
  ·refine .skip (.seqN (.sr (.fa yaR R (.lb y2q R (.fa yfZ R (.lb nag32 R (.ln sl32 R (bS hm fun f d hm=> .ix sl144 d R (.le nag4 lv4 R (.sa R (.an R (.ret ?_))))))))))));cases hm;exact .rr [] Tryz.results227 (.tmp R (.tmp R .nil)) R I3 trivial
def y2e(d:BenT×List Int)(e:List Int×Int)(f:Int)(b:List Int×Bool×BenT)(a:BenT):Option (StpT×Int×BenT):=
 (y7o a.2.1 a.2.2.2).bind fun c=>
 if(c.2 != 0) then
  some ((d.2,b.1,e.1,f,b.2.1,c.1,false),c.2,a)
 else
  (y6R a.2.1 a.2.2.2).bind fun g=>
  some ((d.2,b.1,e.1,f,b.2.1,c.1,g.1),g.2,a)
def y2f(c:BenT×List Int)(d:List Int×Int)(b:Int)(a:List Int×Bool×BenT)(g:BenT):Option (StpT×Int×BenT):=
 (yS g a.1).bind fun e=>
 if(e.1 != 0) then
  some ((c.2,a.1,d.1,b,a.2.1,0,false),e)
 else
  if a.2.1 then
   (yS e.2 ([b]:List Int)).bind fun f=>
   if(f.1 != 0) then
    some ((c.2,a.1,d.1,b,a.2.1,0,false),f)
   else
    y2e c d b a f.2
  else
   y2e c d b a e.2
def y2g(a:BenT×Int×List Int)(c:BenT)(b:List Int):Option ((BenT×Int×List Int)⊕(BenT×List Int)):=
 some (.inl (c,W (a.2.1+1),b))
def y2h(p1:CycT)(a:BenT×Int×List Int):Option ((BenT×Int×List Int)⊕(BenT×List Int)):=
 if decide (a.2.1<(p1.1.length:Int)) then
  (idx p1.1 a.2.1).bind fun c=>
  (y2v a.1 c).bind fun b=>
  if b.1 then
   (app a.2.2 ([c]:List Int)).bind fun d=>
   y2g a b.2 d
  else
   y2g a b.2 a.2.2
 else
  some (.inr (a.1,a.2.2))
def y4x(p0:BenT)(p1:CycT)(p2:(Int→Option Bool)→Option Int):Option (StpT×Int×BenT):=
 (iter (y2h p1) (p0,0,([]:List Int))).bind fun a=>
 (yS a.1 a.2).bind fun b=>
 if(b.1 != 0) then
  some ((a.2,([]:List Int),([]:List Int),0,false,0,false),b)
 else
  (y4b b.2.2.1 b.2.2.2.2).bind fun c=>
  if(c.2 != 0) then
   some ((a.2,([]:List Int),c.1,0,false,0,false),c.2,b.2)
  else
   (p2 (yO (some b.2) (a.2,([]:List Int),c.1,0,false,0,false))).bind fun e=>
   (y4N b.2 p1.2.1 e).bind fun d=>
   if d.2.1 then
    (y2v d.2.2 e).bind fun f=>
    y2f a c e d f.2
   else
    y2f a c e d d.2.2
theorem y9H{p0:BenT}{p1:CycT}{p2:(Int→Option Bool)→Option Int}{r:StpT×Int×BenT}(hm:y4x p0 p1 p2=some r):
    Fw Tryz.prog 192 ⟨1,[0]⟩ [.o (lP 0 0),.a [lF qI p1.1,lF qI p1.2.1,lI p1.2.2],.o (lW Tryz.prog (fun (x:(Int→Option Bool))=> [.o (lW Tryz.prog (fun (x:Int)=> [.i x]) (fun (r:Bool)=> .b r) x)]) (fun (r:Int)=> .i r) p2)] [.bx 199 (lx199 p0)] (.tp [.a [lF qI r.1.1,lF qI r.1.2.1,lH 1,lI r.1.2.2.2.1,lB r.1.2.2.2.2.1,lI r.1.2.2.2.2.2.1,lB r.1.2.2.2.2.2.2],.i r.2.1]) [.bx 199 (lx199 r.2.2),rwI r.1.2.2.1]:=by
  refine Fw.mk2 Tryz.func192 Tryz.ntmps192 R (fun C=>?_) R;refine .sr (.bo 1 R (.bo 2 R (.al 3 zz100 R (.an R (.seq (.sr (.fa yfU R (.lb nag32 R (.ln sl32 R (.mv R (.ns (.block (bS hm fun e N hm=>?_)))))))))))));refine .cut1 (z:= .exit 0) e (fun (e:BenT×List Int)=>⟨[(6,.q 1 0),(4,.q 3 0),(3,.q 4 0),(2,.o (lW Tryz.prog (fun (x:(Int→Option Bool))=> [.o (lW Tryz.prog (fun (x:Int)=> [.i x]) (fun (r:Bool)=> .b r) x)]) (fun (r:Int)=> .i r) p2))],[(0,.bx 199 (lx199 e.1)),(1,.bx 100 [lH 2,lN,lN,lI 0,lB false,lI 0,lB false]),(2,rwI e.2),(3,.bx 114 [lF qI p1.1,lF qI p1.2.1,lI p1.2.2]),(4,.bx 276 [lP 0 0])],5⟩) ?_ fun a5=>?_
  · skip
    refine .blkE (.seqN (.seq (.sr (.lb y4j R (.fa yaT R (.lb nag32 R (.fz 2 [29] [1] R R fR R R (bS hm fun s P hm=> .op (O.ca (r':= .i s.1) [0] [(0,.bx 199 (lx199 s.2))] none (y5z P) cf221 R R Z R R R R ⟨⟨_,R,I4⟩,trivial⟩ I3 R) R (.an R (.sr (.mv R (.bi R (.ns ?_)))))))))))));refine .cc hm R (fun hm=>?_) fun hm=>?_
    ·refine .sr (.lg [lF qI e.2,lN,lN,lI 0,lB false,lI 0,lB false] ag100 R (.B R) R (.mv R (.st ag100.sz R (.an R (.ret (.seqR (.nlb qI 3 1 2 R R (.cno 1 R (.c .rf (.c (.nf (r:=qI)) .rf)) R ?_))))))));cases hm;exact .rr [0,5] Tryz.results192 (.cell R R ag100 R (.tmp R .nil)) R I3 ⟨⟨_,R,I4⟩,⟨_,R,I4⟩,trivial⟩
    ·refine .skip (.seqN (.seq (.seq ?_)));refine .sub (τ:=⟨[(6,.q 1 0),(4,.q 3 0),(3,.q 4 0),(2,.o (lW Tryz.prog (fun (x:(Int→Option Bool))=> [.o (lW Tryz.prog (fun (x:Int)=> [.i x]) (fun (r:Bool)=> .b r) x)]) (fun (r:Int)=> .i r) p2))],[(0,.bx 199 (lx199 s.2)),(1,.bx 100 [lF qI e.2,lN,lN,lI 0,lB false,lI 0,lB false]),(3,.bx 114 [lF qI p1.1,lF qI p1.2.1,lI p1.2.2]),(4,.bx 276 [lP 0 0])],5⟩) ?_ [] R;refine bS hm fun g Q hm=>?_;refine .drd 6 [(5,[],[]),(5,[oT],[]),(5,[oT,oT],[]),(5,[oT,oT,oT],[]),(5,[],[]),(5,[oF,oF,oF,oF,oT],[]),(5,[oF,oF,oF,oF,oT,oT],[]),(5,[oF,oF,oF,oF,oT,oT,oT],[]),(5,[oT,oT,oT,oT,oT,oT,oT,oT],[]),(6,[oT,oT,oT,oT,oT,oT,oT,oT,oT],[]),(6,[oT,oT,oT,oT,oT,oT,oT,oT,oT,oT],[]),(6,[oT,oT,oT,oT,oT,oT,oT,oT,oT,oT],[1]),(6,[oT,oT,oT,oT,oT,oT,oT,oT,oT,oT,oT],[]),(6,[oT,oT,oT,oT,oT,oT,oT,oT,oT,oT,oT,oF,oT],[]),(6,[oT,oT,oT,oT,oT,oT,oT,oT,oT,oT,oT,oT,oT,oT],[])] [_,_,_,_,_,_,_,_,_,_,_,_,_,_,_] ⟨[(7,.i g.2),(6,.q 1 0),(4,.q 3 0),(3,.q 4 0),(2,.o (lW Tryz.prog (fun (x:(Int→Option Bool))=> [.o (lW Tryz.prog (fun (x:Int)=> [.i x]) (fun (r:Bool)=> .b r) x)]) (fun (r:Int)=> .i r) p2))],[(0,.bx 199 (lx199 s.2)),(1,.bx 100 [lF qI e.2,lN,lH 5,lI 0,lB false,lI 0,lB false]),(5,rwI g.1),(3,.bx 114 [lF qI p1.1,lF qI p1.2.1,lI p1.2.2]),(4,.bx 276 [lP 0 0])],6⟩ ⟨O.ld y4j Z R (.B R) R R,O.nc .B Z R R,O.faP yck Z R R,O.lg (l':=(lx193 s.2.2.1)) ag193 Z R (.B R) R R R,O.ld y4j Z R (.B R) R R,O.nc .B Z R R,O.faP yaS Z R R,O.lg (l':=[lF rB s.2.2.2.2.1,lF rB s.2.2.2.2.2]) ag197 Z R (.B R) R R R,O.ca (r':= .tp [.h 5,.i g.2]) [5] [(0,rwI g.1)] (some 6) (ybr Q) cf222 R R Z R R R R ⟨⟨_,R,I4⟩,trivial⟩ I3 R,O.mv Z R R,O.ex Z R R R,O.ex Z R R R,O.faP ycl Z R R,O.st nag32.sz Z R R R R R,O.as Z R R,trivial⟩ (by kernel_rfl) R ?_;refine .seqN (.sr (.mv R (.bi R (.ns ?_))));refine .cc hm R (fun hm=>?_) fun hm=>?_
     ·refine .sr (.lg [lF qI e.2,lN,lH 5,lI 0,lB false,lI 0,lB false] ag100 R (.B R) R (.mv R (.st ag100.sz R (.an R (.ret (.seqR (.cno 1 R (.c .rf (.c (.nf (r:=qI)) .rf)) R ?_)))))));cases hm;exact .rr [0,5] Tryz.results192 (.cell R R ag100 R (.tmp R .nil)) R I3 ⟨⟨_,R,I4⟩,⟨_,R,I4⟩,trivial⟩
     ·refine .skip (.seqN (.sr (.mv R (.op (O.mz (l:=[lP 4 0,lP 1 0]) Z R R) R (bS hm fun m S hm=>?_)))));refine .op (O.fvZ (args:=(fun (x:(Int→Option Bool))=> [.o (lW Tryz.prog (fun (x:Int)=> [.i x]) (fun (r:Bool)=> .b r) x)])) (res:=(fun (r:Int)=> .i r)) (y:=(yO (some s.2) (e.2,([]:List Int),g.1,0,false,0,false))) R R R Z R ⟨⟨R,(.z (l':=[lQ 276 [lK rE199 199 (some s.2)] 0,lQ 100 [lF qI e.2,lF qI [],lF qI g.1,lI 0,lB false,lI 0,lB false] 0]) cf223 (fun x r h=>y9e h) (fun _=>R) R ⟨(.q R ⟨(.cv (.q R LnL.rf) (.pk (r:=rE199) (.p (.p (.p .l (.p .k (.p .l .l))) (.p (.p .l (.p .k (.p .l .l))) .l)) (.p (.p (.p .k (.p .k (.p .k (.p .l .l)))) (.p .l (.p .l .k))) (.p .k (.p .l .l)))))),trivial⟩),(.q R ⟨.rf,(.cv .rf (.nf (r:=qI))),.hr R,.rf,.rf,.rf,.rf,trivial⟩),trivial⟩),trivial⟩,trivial⟩ S (fun _ _ _ _ _ h=>h) R) R ?_;refine .fa y9Z R (.st nag3.sz R (.nr (.lb y4j R (.fa yfV R (.lb nag32 R (.fa y9Z R (.lb nag3 R (bS hm fun d T hm=> .op (O.ca (r':= .tp [.h 6,.b d.2.1]) [0,6] [(0,.bx 199 (lx199 d.2.2)),(1,rwI d.1)] (some 7) (y9O T) cf225 R R Z R R R R ⟨⟨_,R,I4⟩,⟨_,R,I4⟩,trivial⟩ I3 R) R (.mv R (.ex R (.ex R (.fa ydN R (.st nag32.sz R (.fa yaU R (.st nag4.sz R (.ns ?_))))))))))))))));refine .join1 (fun (w:BenT)=>y2f e g m d w=some r) (fun w=>⟨[(6,.q 1 0),(3,.q 4 0)],[(0,.bx 199 (lx199 w)),(1,.bx 100 [lF qI e.2,lH 2,lH 3,lI m,lB d.2.1,lI 0,lB false]),(2,rwI d.1),(3,rwI g.1),(4,.bx 276 [lP 0 0])],5⟩) ?_ ?_
      · intro w hm;refine .seq (.sr (.lb y4j R (.fa ydN R (.lb nag32 R (.fz 2 [75] [1] R R fR R R (bS hm fun J U hm=> .op (O.ca (r':= .i J.1) [0] [(0,.bx 199 (lx199 J.2))] none (y5z U) cf221 R R Z R R R R ⟨⟨_,R,I4⟩,trivial⟩ I3 R) R (.an R (.sr (.mv R (.bi R (.ns ?_)))))))))));refine .cc hm R (fun hm=>?_) fun hm=>?_
        ·refine .sr (.lg [lF qI e.2,lF qI d.1,lH 3,lI m,lB d.2.1,lI 0,lB false] ag100 R (.B R) R (.mv R (.st ag100.sz R (.an R (.ret (.seqR ?_))))));cases hm;exact .rr [0,3] Tryz.results192 (.cell R R ag100 R (.tmp R .nil)) R I3 ⟨⟨_,R,I4⟩,⟨_,R,I4⟩,trivial⟩
        ·refine .skip (.seqN ?_);refine .join1 (fun (j:BenT)=>y2e e g m d j=some r) (fun j=>⟨[(6,.q 1 0),(3,.q 3 0)],[(0,.bx 199 (lx199 j)),(1,.bx 100 [lF qI e.2,lF qI d.1,lH 2,lI m,lB d.2.1,lI 0,lB false]),(2,rwI g.1),(3,.bx 276 [lP 0 0])],4⟩) ?_ ?_
         · intro j hm;refine .seq (.seq ?_);refine .sub (τ:=⟨[(6,.q 1 0),(3,.q 3 0)],[(0,.bx 199 (lx199 j)),(1,.bx 100 [lF qI e.2,lF qI d.1,lH 2,lI m,lB d.2.1,lI 0,lB false]),(2,rwI g.1),(3,.bx 276 [lP 0 0])],4⟩) ?_ [] R;refine bS hm fun u V hm=>?_;refine .drd 4 [(4,[],[]),(4,[oT],[]),(4,[oT,oT],[]),(4,[oT,oT,oT],[]),(4,[],[]),(4,[oF,oF,oF,oF,oT],[]),(4,[oF,oF,oF,oF,oT,oT],[]),(4,[oF,oF,oF,oF,oT,oT,oT],[]),(4,[oT,oT,oT,oT,oT,oT,oT,oT],[]),(4,[oT,oT,oT,oT,oT,oT,oT,oT,oT],[]),(4,[oT,oT,oT,oT,oT,oT,oT,oT,oT,oT],[]),(4,[oT,oT,oT,oT,oT,oT,oT,oT,oT,oT],[1]),(4,[oT,oT,oT,oT,oT,oT,oT,oT,oT,oT,oT],[]),(4,[oT,oT,oT,oT,oT,oT,oT,oT,oT,oT,oT,oF,oT],[]),(4,[oT,oT,oT,oT,oT,oT,oT,oT,oT,oT,oT,oT,oT,oT],[])] [_,_,_,_,_,_,_,_,_,_,_,_,_,_,_] ⟨[(7,.i u.2),(6,.q 1 0),(3,.q 3 0)],[(0,.bx 199 (lx199 j)),(1,.bx 100 [lF qI e.2,lF qI d.1,lH 2,lI m,lB d.2.1,lI u.1,lB false]),(2,rwI g.1),(3,.bx 276 [lP 0 0])],4⟩ ⟨O.ld y4j Z R (.B R) R R,O.nc .B Z R R,O.faP yck Z R R,O.lg (l':=(lx193 j.2.1)) ag193 Z R (.B R) R R R,O.ld y4j Z R (.B R) R R,O.nc .B Z R R,O.faP yaS Z R R,O.lg (l':=[lF rB j.2.2.2.1,lF rB j.2.2.2.2]) ag197 Z R (.B R) R R R,O.ca0 (ybZ V) cf226 R R Z R R R,O.mv Z R R,O.ex Z R R R,O.ex Z R R R,O.faP ydO Z R R,O.st nag3.sz Z R R R R R,O.as Z R R,trivial⟩ (by kernel_rfl) R ?_;refine .seqN (.sr (.mv R (.bi R (.ns ?_))));refine .cc hm R (fun hm=>?_) fun hm=>?_
           ·refine .sr (.lg [lF qI e.2,lF qI d.1,lH 2,lI m,lB d.2.1,lI u.1,lB false] ag100 R (.B R) R (.mv R (.st ag100.sz R (.an R (.ret (.seqR ?_))))));cases hm;exact .rr [0,2] Tryz.results192 (.cell R R ag100 R (.tmp R .nil)) R I3 ⟨⟨_,R,I4⟩,⟨_,R,I4⟩,trivial⟩
           ·refine .skip (.seqN (.seq ?_));refine .sub (τ:=⟨[(6,.q 1 0),(3,.q 3 0)],[(0,.bx 199 (lx199 j)),(1,.bx 100 [lF qI e.2,lF qI d.1,lH 2,lI m,lB d.2.1,lI u.1,lB false]),(2,rwI g.1),(3,.bx 276 [lP 0 0])],4⟩) ?_ [] R;refine bS hm fun H W hm=>?_;refine .drd 4 [(4,[],[]),(4,[oT],[]),(4,[oT,oT],[]),(4,[oT,oT,oT],[]),(4,[],[]),(4,[oF,oF,oF,oF,oT],[]),(4,[oF,oF,oF,oF,oT,oT],[]),(4,[oF,oF,oF,oF,oT,oT,oT],[]),(4,[oT,oT,oT,oT,oT,oT,oT,oT],[]),(4,[oT,oT,oT,oT,oT,oT,oT,oT,oT],[]),(4,[oT,oT,oT,oT,oT,oT,oT,oT,oT,oT],[]),(4,[oT,oT,oT,oT,oT,oT,oT,oT,oT,oT],[1]),(4,[oT,oT,oT,oT,oT,oT,oT,oT,oT,oT,oT],[]),(4,[oT,oT,oT,oT,oT,oT,oT,oT,oT,oT,oT,oF,oT],[]),(4,[oT,oT,oT,oT,oT,oT,oT,oT,oT,oT,oT,oT,oT,oT],[])] [_,_,_,_,_,_,_,_,_,_,_,_,_,_,_] ⟨[(7,.i H.2),(6,.q 1 0)],[(0,.bx 199 (lx199 j)),(1,.bx 100 [lF qI e.2,lF qI d.1,lH 2,lI m,lB d.2.1,lI u.1,lB H.1]),(2,rwI g.1)],4⟩ ⟨O.ld y4j Z R (.B R) R R,O.nc .B Z R R,O.faP yck Z R R,O.lg (l':=(lx193 j.2.1)) ag193 Z R (.B R) R R R,O.ld y4j Z R (.B R) R R,O.nc .B Z R R,O.faP yaS Z R R,O.lg (l':=[lF rB j.2.2.2.1,lF rB j.2.2.2.2]) ag197 Z R (.B R) R R R,O.ca0 (ybs W) cf227 R R Z R R R,O.mv Z R R,O.ex Z R R R,O.ex Z R R R,O.faP yg0 Z R R,O.st nag4.sz Z R R R R R,O.as Z R R,trivial⟩ (by kernel_rfl) R ?_;refine .seqN (.sr (.lg [lF qI e.2,lF qI d.1,lH 2,lI m,lB d.2.1,lI u.1,lB H.1] ag100 R (.B R) R (.mv R (.st ag100.sz R (.an R (.ret ?_))))));cases hm;exact .rr [0,2] Tryz.results192 (.cell R R ag100 R (.tmp R .nil)) R I3 ⟨⟨_,R,I4⟩,⟨_,R,I4⟩,trivial⟩
         · intro F;refine .sr (.fa yaU R (.lb nag4 R (.ns ?_)));refine .cc hm R (fun hm=>?_) fun hm=> .skip ((F _ hm).sub [(2,3),(3,4)] R);refine .sr (.lb y4j R (.fa y9Z R (.lb nag3 R (.bf (r:=qI) ([m]:List Int) bs32 R (.c .k .n) R (bS hm fun K X hm=> .op (O.ca (r':= .i K.1) [0] [(0,.bx 199 (lx199 K.2))] none (y5z X) cf221 R R Z R R R R ⟨⟨_,R,I4⟩,trivial⟩ I3 R) R (.an R (.sr (.mv R (.bi R (.ns ?_))))))))));refine .cc hm R (fun hm=>?_) fun hm=> .skip ((F _ hm).sub [(2,3),(3,4)] R);refine .sr (.lg [lF qI e.2,lF qI d.1,lH 3,lI m,lB d.2.1,lI 0,lB false] ag100 R (.B R) R (.mv R (.st ag100.sz R (.an R (.ret (.seqR ?_))))));cases hm;exact .rr [0,3] Tryz.results192 (.cell R R ag100 R (.tmp R .nil)) R I3 ⟨⟨_,R,I4⟩,⟨_,R,I4⟩,trivial⟩
      · intro E;refine .sr (.fa yaU R (.lb nag4 R (.ns ?_)));exact .cc hm R (fun hm=> .reg (.lb y4j R (.fa y9Z R (.lb nag3 R (bS hm fun L Y hm=> .op (O.ca (r':= .b L.1) [0] [(0,.bx 199 (lx199 L.2))] none (y6u Y) cf186 R R Z R R R R ⟨⟨_,R,I4⟩,trivial⟩ I3 R) R (.nil ((E _ hm).sub [(2,6),(3,5)] R))))))) fun hm=> .skip ((E _ hm).sub [(2,6),(3,5)] R)
  refine .nlb qI 3 3 0 R R (.iter (fun (t:BenT×Int×List Int)=>⟨[(13,.i t.2.1),(12,.i p1.1.length),(11,.f qI p1.1),(6,.q 1 0),(4,.q 3 0),(3,.q 4 0),(2,.o (lW Tryz.prog (fun (x:(Int→Option Bool))=> [.o (lW Tryz.prog (fun (x:Int)=> [.i x]) (fun (r:Bool)=> .b r) x)]) (fun (r:Int)=> .i r) p2))],[(0,.bx 199 (lx199 t.1)),(1,.bx 100 [lH 2,lN,lN,lI 0,lB false,lI 0,lB false]),(2,rwI t.2.2),(3,.bx 114 [lF qI p1.1,lF qI p1.2.1,lI p1.2.2]),(4,.bx 276 [lP 0 0])],5⟩) N [(1,3),(2,4),(3,2),(4,1)] R ?_);intro t I hm a4 a3;refine .sr (.bi R (.ns (.seq ?_)));refine .cc hm R (fun hm=>?_) fun hm=> .exit (.seqX (.seqX ((a5 _ (a3 _ (oj hm))).sub [] R)));refine .skip (.seqN ?_);refine .join2 (fun (D:BenT) (v:List Int)=>y2g t D v=some I) (fun D v=>⟨[(13,.i t.2.1),(12,.i p1.1.length),(11,.f qI p1.1),(6,.q 1 0),(4,.q 3 0),(3,.q 4 0),(2,.o (lW Tryz.prog (fun (x:(Int→Option Bool))=> [.o (lW Tryz.prog (fun (x:Int)=> [.i x]) (fun (r:Bool)=> .b r) x)]) (fun (r:Int)=> .i r) p2))],[(0,.bx 199 (lx199 D)),(1,.bx 100 [lH 2,lN,lN,lI 0,lB false,lI 0,lB false]),(2,rwI v),(3,.bx 114 [lF qI p1.1,lF qI p1.2.1,lI p1.2.2]),(4,.bx 276 [lP 0 0])],5⟩) ?_ ?_
  · intro D v hm;exact .reg (.bi R (.mv R (.nil ((a4 _ (oj hm)).sub [] R))))
  · intro G;refine .block (.sr (bS hm fun a6 a1 hm=> .ix sl32 a1 R (.le nag3 lv3 R (.an R (.sr (.lb y4j R (.mv R (bS hm fun M a0 hm=> .op (O.ca (r':= .b M.1) [0] [(0,.bx 199 (lx199 M.2))] none (y6u a0) cf186 R R Z R R R R ⟨⟨_,R,I4⟩,trivial⟩ I3 R) R (.ns ?_)))))))));exact .cc hm R (fun hm=> .reg (.fa yaT R (.lb nag32 R (.mv R (.bf (r:=qI) ([a6]:List Int) bs32 R (.c .k .n) R (bS hm fun a7 a2 hm=> .op (O.ap 5 Tryz.underlying32 el3 R R Z R R (.fr R) a2 R) R (.fa yaT R (.st nag32.sz R (.nil (.blkN ((G _ _ hm).sub [(2,5)] R))))))))))) fun hm=> .skip (.blkN ((G _ _ hm).sub [] R))
def y6D(p1:List CycT)(p2:CycT→Option ((Int→Option Bool)→Option Int))(a:Int×(List StpT)×BenT):Option ((Int×(List StpT)×BenT)⊕((List StpT)⊕Int)):=
 if decide (a.1<(p1.length:Int)) then
  (idx p1 a.1).bind fun c=>
  (p2 c).bind fun d=>
  (y4x a.2.2 c d).bind fun b=>
  if(b.2.1 != 0) then
   some (.inr (.inr (b.2.1)))
  else
   (app a.2.1 ([b.1]:List StpT)).bind fun e=>
   some (.inl (W (a.1+1),e,b.2.2))
 else
  some (.inr (.inl a.2.1))
def y7p(p0:PbT)(p1:List CycT)(p2:CycT→Option ((Int→Option Bool)→Option Int)):Option ((List StpT)×Int):=
 (y6O p0).bind fun a=>
 if(a.2 != 0) then
  some (([]:List StpT),a.2)
 else
  a.1.bind fun e=>
  (iter (y6D p1 p2) (0,([]:List StpT),e)).bind fun b=>
  match b with
  | .inl c=>
   some (c,0)
  | .inr (d)=>
   some (([]:List StpT),d)
theorem yc0{p0:PbT}{p1:List CycT}{p2:CycT→Option ((Int→Option Bool)→Option Int)}{r:(List StpT)×Int}(hm:y7p p0 p1 p2=some r):
    F0 128 [.a (lx37 p0),.f rE114 p1,.o (lW Tryz.prog (fun (x:CycT)=> [.a [lF qI x.1,lF qI x.2.1,lI x.2.2]]) (fun (r:(Int→Option Bool)→Option Int)=> .o (lW Tryz.prog (fun (x:(Int→Option Bool))=> [.o (lW Tryz.prog (fun (x:Int)=> [.i x]) (fun (r:Bool)=> .b r) x)]) (fun (r:Int)=> .i r) r)) p2)] [] (.tp [.h 0,.i r.2]) [ROW rE100 100 r.1]:=by
  refine Fw.mk2 Tryz.func128 Tryz.ntmps128 R (fun C=>?_) R;refine .sr (.bo 0 R (.sa R (.an R (.sr (.lg (lx37 p0) ag37 R (.B R) R (bS hm fun L J hm=> .op (O.ca (r':= .tp [.o (lH 1),.i L.2]) [1] [(0,OBX rE199 199 L.1)] (some 2) (ybm J) cf191 R R Z R R R R ⟨⟨_,R,I4⟩,trivial⟩ I3 R) R (.mv R (.ex R (.ex R (.sa R (.an R (.seq (.sr (.mv R (.bi R (.ns ?_))))))))))))))));refine .cc hm R (fun hm=>?_) fun hm=>?_
  ·refine .sr (.mv R (.sa R (.an R (.ret (.seqR (.nlg rE100 100 6 0 R R ?_))))));cases hm;exact .rr [2] Tryz.results128 (.tmp R (.tmp R .nil)) R I3 ⟨⟨_,R,I4⟩,trivial⟩
  ·refine .skip (.seqN (.sr (.an R (.seq (.sr (.mv R (.ln sl94 R (.mv R (.ns (.block (bS hm fun Q K hm=> .opn 1 R K lv199 R (.hp 8 R R (.hp 18 R R (bS hm fun t u hm=>?_))))))))))))));refine .cutU (z:= .exit 0) (fun j=> .inl j=t) (fun (j:(List StpT))=>⟨[(10,.h 0)],[(0,ROW rE100 100 j)],1⟩) ?_ fun H=>?_
   · rintro j rfl;dsimp only at hm;refine .blkE (.seqN (.sr (.mv R (.sa R (.an R (.ret ?_))))));cases hm;exact .rr [0] Tryz.results128 (.tmp R (.tmp R .nil)) R I3 ⟨⟨_,R,I4⟩,trivial⟩
   refine .cutU (z:= .ret) (fun m=> .inr (m)=t) (fun (m:Int)=>⟨[(7,.i m),(6,.o (lN))],[],0⟩) ?_ fun I=>?_
   · rintro m rfl;dsimp only at hm;refine .blkR (.seqR (.nlg rE100 100 6 0 R R ?_));cases hm;exact .rr [0] Tryz.results128 (.tmp R (.tmp R .nil)) R I3 ⟨⟨_,R,I4⟩,trivial⟩
   refine .nlg rE100 100 10 0 R R (.iter (fun (g:Int×(List StpT)×BenT)=>⟨[(25,.i g.1),(24,.i p1.length),(23,.f rE114 p1),(10,.h 0),(8,.q 1 0),(2,.o (lW Tryz.prog (fun (x:CycT)=> [.a [lF qI x.1,lF qI x.2.1,lI x.2.2]]) (fun (r:(Int→Option Bool)→Option Int)=> .o (lW Tryz.prog (fun (x:(Int→Option Bool))=> [.o (lW Tryz.prog (fun (x:Int)=> [.i x]) (fun (r:Bool)=> .b r) x)]) (fun (r:Int)=> .i r) r)) p2))],[(0,ROW rE100 100 g.2.1),(1,.bx 199 (lx199 g.2.2))],2⟩) u [(0,2)] R ?_);intro g M hm G s;refine .sr (.bi R (.ns (.seq ?_)));refine .cc hm R (fun hm=>?_) fun hm=> .exit (.seqX (.seqX ((H _ (s _ (oj hm))).sub [] R)));refine .skip (.seqN (.seq (.block (.sr (bS hm fun e D hm=> .ix sl94 D R (.lg [lF qI e.1,lF qI e.2.1,lI e.2.2] ag114 R (.E lv114) R (.al 2 zz114 R (.st ag114.sz R (.ns (.seq ?_))))))))));refine .sub (τ:=⟨[(12,.q 2 0),(25,.i g.1),(24,.i p1.length),(23,.f rE114 p1),(10,.h 0),(8,.q 1 0),(2,.o (lW Tryz.prog (fun (x:CycT)=> [.a [lF qI x.1,lF qI x.2.1,lI x.2.2]]) (fun (r:(Int→Option Bool)→Option Int)=> .o (lW Tryz.prog (fun (x:(Int→Option Bool))=> [.o (lW Tryz.prog (fun (x:Int)=> [.i x]) (fun (r:Bool)=> .b r) x)]) (fun (r:Int)=> .i r) r)) p2))],[(2,.bx 114 [lF qI e.1,lF qI e.2.1,lI e.2.2]),(0,ROW rE100 100 g.2.1),(1,.bx 199 (lx199 g.2.2))],3⟩) ?_ [] R;refine bS hm fun N v hm=>bS hm fun d w hm=>?_;refine .drz 5 [(9,4)] [(3,[],[],[]),(3,[],[],[]),(3,[],[],[]),(3,[],[],[]),(3,[oF,oF,oT,oT],[],[]),(3,[oT,oT,oT,oT,oT],[],[]),(4,[oT,oT,oT,oT,oT,oT],[],[]),(4,[oT,oT,oT,oT,oT,oT,oT],[],[]),(4,[oT,oT,oT,oT,oT,oT,oT],[],[]),(3,[],[1],[]),(5,[oT,oT,oT,oT,oT,oT,oT,oT,oF,oT],[],[]),(5,[oT,oT,oT,oT,oT,oT,oT,oT,oT,oT,oT],[],[(9,4)])] [_,_,_,_,_,_,_,_,_,_,_,_] ⟨[(14,.i d.2.1),(13,.q 4 0),(25,.i g.1),(24,.i p1.length),(23,.f rE114 p1),(10,.h 0),(8,.q 1 0),(2,.o (lW Tryz.prog (fun (x:CycT)=> [.a [lF qI x.1,lF qI x.2.1,lI x.2.2]]) (fun (r:(Int→Option Bool)→Option Int)=> .o (lW Tryz.prog (fun (x:(Int→Option Bool))=> [.o (lW Tryz.prog (fun (x:Int)=> [.i x]) (fun (r:Bool)=> .b r) x)]) (fun (r:Int)=> .i r) r)) p2))],[(4,.bx 100 [lF qI d.1.1,lF qI d.1.2.1,lH 3,lI d.1.2.2.2.1,lB d.1.2.2.2.2.1,lI d.1.2.2.2.2.2.1,lB d.1.2.2.2.2.2.2]),(3,rwI d.1.2.2.1),(0,ROW rE100 100 g.2.1),(1,.bx 199 (lx199 d.2.2))],5⟩ ⟨O.mv Z R R,O.lg (l':=[lF qI e.1,lF qI e.2.1,lI e.2.2]) ag114 Z R (.B R) R R R,O.mv Z R R,O.lg (l':=[lF qI e.1,lF qI e.2.1,lI e.2.2]) ag114 Z R (.B R) R R R,O.fv (y:=e) R R R Z R v R R,O.ca (r':= .tp [.a [lF qI d.1.1,lF qI d.1.2.1,lH 3,lI d.1.2.2.2.1,lB d.1.2.2.2.2.1,lI d.1.2.2.2.2.2.1,lB d.1.2.2.2.2.2.2],.i d.2.1]) [1,3] [(0,.bx 199 (lx199 d.2.2)),(1,rwI d.1.2.2.1)] (some 4) (y9H w) cf192 R R Z R R R R ⟨⟨_,R,I4⟩,⟨_,R,I4⟩,trivial⟩ I3 R,O.mv Z R R,O.ex Z R R R,O.ex Z R R R,O.al 4 R zz100 R Z R,O.st ag100.sz Z R R R R R,O.as Z R R,trivial⟩ (by kernel_rfl) R ?_;refine .seqN (.seq (.sr (.mv R (.bi R (.ns ?_)))));exact .cc hm R (fun hm=> .sr (.mv R (.sa R (.an R (.ret (.seqR (.blkR (.seqR (.seqR ((I _ (s _ (oj hm))).sub [] R)))))))))) fun hm=> .skip (.seqN (.reg (.mv R (.lg [lF qI d.1.1,lF qI d.1.2.1,lH 3,lI d.1.2.2.2.1,lB d.1.2.2.2.2.1,lI d.1.2.2.2.2.2.1,lB d.1.2.2.2.2.2.2] ag100 R (.B R) R (.fz 3 [42] [4] R R fR R R (.op (O.bsF (r:=rE100) (zs:=([d.1]:List StpT)) bs91 R R Z R R R (.c (.p .l (.p .l (.p .l (.p .k (.p .b (.p .k .b)))))) .n) R R R) R (bS hm fun P F hm=> .op (O.ap 5 Tryz.underlying91 el100 R R Z R R (.fr R) F R) R (.sa R (.nil (.blkN (.seqN (.reg (.bi R (.mv R (.nil ((G _ (oj hm)).sub [(0,5)] R))))))))))))))))
def y6m(a:CycT)(p0:Int→Option Bool):Option Int:=
 (if (a.2.2 != (-1)) then
  (p0 a.2.2).bind fun c=>
  some c
 else
  some false).bind fun b=>
 if b then
  some a.2.2
 else
  some (-1)
theorem yav{a:CycT}{p0:Int→Option Bool}{r:Int}(hm:y6m a p0=some r):
    F0 130 [.o (lW Tryz.prog (fun (x:Int)=> [.i x]) (fun (r:Bool)=> .b r) p0),.o (lQ 114 [lF qI a.1,lF qI a.2.1,lI a.2.2] 0)] [] (.i r) []:=by
  refine Fw.mk2 Tryz.func130 Tryz.ntmps130 R (fun C=>?_) R;refine .sr (.an R (.seq (.sr (.fq y8R R (.lq nag3 R (.bi R (.mv R (bS hm fun g eb1 hm=>?_))))))));refine .cut 5 (fun (c:Bool)=>g=c) (fun c=>⟨[(12,.b c),(1,.o (lQ 114 [lF qI a.1,lF qI a.2.1,lI a.2.2] 0))],[],0⟩) ?_ ?_
  · rintro _ rfl;refine .ns ?_;refine .cc hm R (fun hm=>?_) fun hm=>?_
    ·refine .sr (.fq y8R R (.lq nag3 R (.an R (.ret (.seqR ?_)))));cases hm;exact .rr [] Tryz.results130 (.tmp R .nil) R I3 trivial
    ·refine .skip (.seqN (.sr (.an R (.ret ?_))));cases hm;exact .rr [] Tryz.results130 (.tmp R .nil) R I3 trivial
  · intro e;rcases ifS eb1 with ⟨hc,hm⟩|⟨hc,hm⟩
    · refine .know (d:=7) R hc ?_;refine .mg R (.op (O.faQ y8R (Gu.mk R R) R R) R (.op (O.ld nag3 (Gu.mk R R) R .Q R R) R (bS hm fun h f hm=>?_)));refine .op (O.fv (y:=a.2.2) R R R (Gu.mk R R) R f R R) R ?_;exact .pT R ((e h (oj hm)).sub [] R)
    · refine .know (d:=7) R hc ?_;exact .sk R (.sk R (.sk R (.sk R (.pF R ((e false (oj hm)).sub [] R)))))
def y7N(p0:CycT):Option ((Int→Option Bool)→Option Int):=
 some (y6m p0)
theorem ybt{p0:CycT}{r:((Int→Option Bool)→Option Int)}(hm:y7N p0=some r):
  F0 129 [.a [lF qI p0.1,lF qI p0.2.1,lI p0.2.2]] [] (.o (lW Tryz.prog (fun (x:(Int→Option Bool))=> [.o (lW Tryz.prog (fun (x:Int)=> [.i x]) (fun (r:Bool)=> .b r) x)]) (fun (r:Int)=> .i r) r)) []:=by
 refine Fw.mk2 Tryz.func129 Tryz.ntmps129 R (fun C=>?_) R;refine .sr (.bo 0 R (.an R (.sr (.fz 0 [1] [] R R fB R R (.op (O.mf (args:=(fun (x:(Int→Option Bool))=> [.o (lW Tryz.prog (fun (x:Int)=> [.i x]) (fun (r:Bool)=> .b r) x)])) (res:=(fun (r:Int)=> .i r)) (m:=(y6m p0)) cf130 (fun x r h=>yav h) (fun _=>R) R Z R R) R (.an R (.ret ?_)))))));cases hm;exact .rr [] Tryz.results129 (.tmp R .nil) R I3 trivial
def y5e(p0:PbT)(p1:List CycT):Option ((List StpT)×Int):=
 (y4v p0 p1).bind fun a=>
 if(a != 0) then
  some (([]:List StpT),a)
 else
  (y7p p0 p1 y7N).bind fun b=>
  some b
theorem y7O{p0:PbT}{p1:List CycT}{r:(List StpT)×Int}(hm:y5e p0 p1=some r):
    F0 57 [.a (lx37 p0),.f rE114 p1] [] (.tp [.h 0,.i r.2]) [ROW rE100 100 r.1]:=by
  refine Fw.mk2 Tryz.func57 Tryz.ntmps57 R (fun C=>?_) R;refine .sr (.bo 0 R (.sa R (.an R (.seq (.sr (.lg (lx37 p0) ag37 R (.B R) R (.mv R (bS hm fun g b hm=> .c0 (y9G b) cf65 R (.an R (.sr (.mv R (.bi R (.ns ?_)))))))))))));refine .cc hm R (fun hm=>?_) fun hm=>?_
  ·refine .sr (.mv R (.sa R (.an R (.ret (.seqR (.nlg rE100 100 4 0 R R ?_))))));cases hm;exact .rr [1] Tryz.results57 (.tmp R (.tmp R .nil)) R I3 ⟨⟨_,R,I4⟩,trivial⟩
  ·refine .skip (.seqN (.sr (.lg (lx37 p0) ag37 R (.B R) R (.mv R (bS hm fun e d hm=> .op (O.cac (r':= .tp [.h 1,.i e.2]) [1] [(0,ROW rE100 100 e.1)] (some 2) (yc0 d) cf128 R R Z R R ⟨⟨R,.rf⟩,⟨R,.rf⟩,⟨R,(.c (.fn cf129 (fun x r h=>ybt h) (fun _=>R)) .n)⟩,trivial⟩ R ⟨⟨_,R,I4⟩,trivial⟩ I3 R) R (.ex R (.ex R (.sa R (.an R (.ret ?_))))))))));cases hm;exact .rr [1] Tryz.results57 (.tmp R (.tmp R .nil)) R I3 ⟨⟨_,R,I4⟩,trivial⟩
def y3C(p0:List (List Int))(a:Int×List Int):Option ((Int×List Int)⊕(List Int)):=
 if decide (a.1<(p0.length:Int)) then
  (idx p0 a.1).bind fun b=>
  (app a.2 b).bind fun c=>
  some (.inl (W (a.1+1),c))
 else
  some (.inr a.2)
def y5o(b:Int×Int)(a:Int):Option ((Int×Int)⊕Int):=
 some (.inl (W (b.1+1),a))
def y3D(p0:List (List Int))(a:Int×Int):Option ((Int×Int)⊕Int):=
 if decide (a.1<(p0.length:Int)) then
  (idx p0 a.1).bind fun b=>
  if decide ((W (a.2+(b.length:Int)))<0) then
   none
  else
   y5o a (W (a.2+(b.length:Int)))
 else
  some (.inr a.2)
def y6E(p0:List (List Int)):Option (List Int):=
 (iter (y3D p0) (0,0)).bind fun c=>
 (y6b ([]:List Int) c).bind fun b=>
 (iter (y3C p0) (0,b)).bind fun a=>
 some a
theorem yb3{p0:List (List Int)}{r:List Int}(hm:y6E p0=some r):
  F0 185 [.f (rL qI) p0] [] (.h 0) [rwI r]:=by
 refine Fw.mk2 Tryz.func185 Tryz.ntmps185 R (fun C=>?_) R;refine .sr (.an R (.sr (.an R (.seq (.sr (.mv R (.ln sl53 R (.mv R (.ns (.block (bS hm fun p u hm=>?_)))))))))));refine .cut1 (z:= .exit 0) p (fun (p:Int)=>⟨[(3,.i p),(0,.f (rL qI) p0)],[],0⟩) ?_ fun s=>?_
 ·skip
  refine .blkE (.seqN (.sr (.mv R (bS hm fun x j hm=> .op (O.ca (r':= .h 0) [0] [(0,rwI x)] (some 1) (ybL j) cf218 R R Z R R R R ⟨⟨_,R,I4⟩,trivial⟩ I3 R) R (.an R (.seq (.sr (.mv R (.ln sl53 R (.mv R (.ns (.block (bS hm fun d g hm=>?_)))))))))))));refine .cut1 (z:= .exit 2) d (fun (d:List Int)=>⟨[(6,.h 0)],[(0,rwI d)],1⟩) ?_ fun t=>?_
  ·skip
   refine .blkE (.seqN (.sr (.mv R (.an R (.ret ?_)))));cases hm;exact .rr [0] Tryz.results185 (.tmp R .nil) R I3 ⟨⟨_,R,I4⟩,trivial⟩
  refine .iter (fun (b:Int×List Int)=>⟨[(27,.i b.1),(26,.i p0.length),(25,.f (rL qI) p0),(6,.h 0)],[(0,rwI b.2)],1⟩) g [] R ?_;intro b y hm o n;refine .sr (.bi R (.ns (.seq ?_)));exact .cc hm R (fun hm=> .skip (.seqN (.seq (.block (.sr (bS hm fun B k hm=> .ix sl53 k R (.le nag32 lv32 R (.an R (.reg (.mv R (.mv R (bS hm fun D l hm=> .op (O.ap 1 Tryz.underlying32 el3 R R Z R R (.fr R) l R) R (.sa R (.nil (.blkN (.seqN (.reg (.bi R (.mv R (.nil ((o _ (oj hm)).sub [(0,1)] R))))))))))))))))))))) fun hm=> .exit (.seqX (.seqX ((t _ (n _ (oj hm))).sub [] R)))
 refine .iter (fun (a:Int×Int)=>⟨[(11,.i a.1),(10,.i p0.length),(9,.f (rL qI) p0),(3,.i a.2),(0,.f (rL qI) p0)],[],0⟩) u [] R ?_;intro a q hm w v;refine .sr (.bi R (.ns (.seq ?_)));refine .cc hm R (fun hm=>?_) fun hm=> .exit (.seqX (.seqX ((s _ (v _ (oj hm))).sub [] R)));refine .skip (.seqN ?_);refine .join1 (fun (c:Int)=>y5o a c=some q) (fun c=>⟨[(3,.i c),(11,.i a.1),(10,.i p0.length),(9,.f (rL qI) p0),(0,.f (rL qI) p0)],[],0⟩) ?_ ?_
 ·intro c hm;exact .reg (.bi R (.mv R (.nil ((w _ (oj hm)).sub [] R))))
 ·intro e;refine .block (.sr (bS hm fun E m hm=> .ix sl53 m R (.le nag32 lv32 R (.an R (.sr (.mv R (.mv R (.ln sl32 R (.bi R (.an R (.sr (.mv R (.bi R (.ns ?_))))))))))))));refine .cc hm R (fun hm=>?_) fun hm=> .skip (.blkN ((e _ hm).sub [] R));refine .reg ?_;cases hm
def y6n(a:List Int):Option (List Int):=
 some a
def y3E(p0:StpT):Option (List Int):=
 (y6E ([p0.1,p0.2.1]:List (List Int))).bind fun a=>
 if p0.2.2.2.2.1 then
  (app a ([p0.2.2.2.1]:List Int)).bind fun b=>
  y6n b
 else
  y6n a
theorem y7P{p0:StpT}{r:List Int}(hm:y3E p0=some r):
  F0 123 [.a (lx100 p0)] [] (.h 0) [rwI r]:=by
 refine Fw.mk2 Tryz.func123 Tryz.ntmps123 R (fun C=>?_) R;refine .sr (.bo 0 R (.an R (.sr (.fa yaT R (.lb nag32 R (.fa ydN R (.lb nag32 R (.op (O.bsF (r:=(rL qI)) (zs:=([p0.1,p0.2.1]:List (List Int))) bs53 R R Z R R R (.c .l (.c .l .n)) R R R) R (bS hm fun g e hm=> .op (O.ca (r':= .h 1) [1] [(0,rwI g)] (some 2) (yb3 e) cf185 R R Z R R R R ⟨⟨_,R,I4⟩,trivial⟩ I3 R) R (.an R ?_))))))))));refine .join1 (fun (b:List Int)=>y6n b=some r) (fun b=>⟨[(3,.h 0)],[(0,rwI b)],1⟩) ?_ ?_
 ·intro b hm;refine .sr (.mv R (.an R (.ret ?_)));cases hm;exact .rr [0] Tryz.results123 (.tmp R .nil) R I3 ⟨⟨_,R,I4⟩,trivial⟩
 ·intro d;refine .sr (.fa yaU R (.lb nag4 R (.ns ?_)));exact .cc hm R (fun hm=> .reg (.mv R (.fa y9Z R (.lb nag3 R (.bf (r:=qI) ([p0.2.2.2.1]:List Int) bs32 R (.c .k .n) R (bS hm fun i f hm=> .op (O.ap 2 Tryz.underlying32 el3 R R Z R R (.fr R) f R) R (.sa R (.nil ((d _ hm).sub [(0,2)] R))))))))) fun hm=> .skip ((d _ hm).sub [(0,1)] R)
def y4y(p0:List StpT)(a:Int×List Int):Option ((Int×List Int)⊕(List Int)):=
 if decide (a.1<(p0.length:Int)) then
  (idx p0 a.1).bind fun c=>
  (y3E c).bind fun b=>
  (app a.2 b).bind fun d=>
  some (.inl (W (a.1+1),d))
 else
  some (.inr a.2)
def y6c(p0:List StpT):Option (List Int):=
 (iter (y4y p0) (0,([]:List Int))).bind fun a=>
 some a
theorem y8P{p0:List StpT}{r:List Int}(hm:y6c p0=some r):
  F0 53 [.f rE100 p0] [] (.h 0) [rwI r]:=by
 refine Fw.mk2 Tryz.func53 Tryz.ntmps53 R (fun C=>?_) R;refine .sr (.an R (.sr (.an R (.seq (.sr (.mv R (.ln sl91 R (.mv R (.ns (.block (bS hm fun g k hm=>?_)))))))))));refine .cut1 (z:= .exit 0) g (fun (g:List Int)=>⟨[(3,.h 0)],[(0,rwI g)],1⟩) ?_ fun j=>?_
 ·skip
  refine .blkE (.seqN (.sr (.mv R (.an R (.ret ?_)))));cases hm;exact .rr [0] Tryz.results53 (.tmp R .nil) R I3 ⟨⟨_,R,I4⟩,trivial⟩
 refine .nlg qI 3 3 0 R R (.iter (fun (a:Int×List Int)=>⟨[(8,.i a.1),(7,.i p0.length),(6,.f rE100 p0),(3,.h 0)],[(0,rwI a.2)],1⟩) k [] R ?_);intro a o hm m l;refine .sr (.bi R (.ns (.seq ?_)));exact .cc hm R (fun hm=> .skip (.seqN (.seq (.block (.sr (bS hm fun b d hm=> .ix sl91 d R (.lg (lx100 b) ag100 R (.E lv100) R (.al 1 zz100 R (.st ag100.sz R (.ns (.reg (.mv R (.lg (lx100 b) ag100 R (.B R) R (bS hm fun n c hm=> .op (O.ca (r':= .h 2) [2] [(0,rwI n)] (some 3) (y7P c) cf123 R R Z R R R R ⟨⟨_,R,I4⟩,trivial⟩ I3 R) R (bS hm fun p e hm=> .op (O.ap 3 Tryz.underlying32 el3 R R Z R R (.ow R R) e R) R (.sa R (.nil (.blkN (.seqN (.reg (.bi R (.mv R (.nil ((m _ (oj hm)).sub [(0,3)] R)))))))))))))))))))))))) fun hm=> .exit (.seqX (.seqX ((j _ (l _ (oj hm))).sub [] R)))
def y4g(a:PbT)(p0:Int):Option Bool:=
 (yf a.1.1 p0).bind fun b=>
 some (!b)
theorem y9w{c:PbT}{p0:Int}{r:Bool}(hm:y4g c p0=some r):
  F0 122 [.i p0,.o (lQ 37 (lx37 c) 0)] [] (.b r) []:=by
 refine Fw.mk2 Tryz.func122 Tryz.ntmps122 R (fun C=>?_) R;refine .sr (.an R (.sr (.fq y3Q R (.fq yz R (.lq nag32 R (.mv R (bS hm fun d a hm=> .c0 (yj a) cf104 R (.no R (.an R (.ret ?_))))))))));cases hm;exact .rr [] Tryz.results122 (.tmp R .nil) R I3 trivial
def y1G(a:Bool):Option Bool:=
 some a
def y3K(a:Option (BenT×Int×Bool))(b:Int)(p0:Int×Int×Int):Option Bool:=
 a.bind fun c=>
 if(p0.1==c.2.1) then
  y1G (p0.2.1==b)
 else
  y1G false
theorem y9f{j:Option (BenT×Int×Bool)}{f:Int}{p0:Int×Int×Int}{r:Bool}(hm:y3K j f p0=some r):
  F0 187 [.a [lI p0.1,lI p0.2.1,lI p0.2.2],.o (lQ 275 [lK rE201 201 j] 0),.o (lQ 3 [lI f] 0)] [] (.b r) []:=by
 refine Fw.mk2 Tryz.func187 Tryz.ntmps187 R (fun C=>?_) R;refine .sr (.bo 0 R (.an R ?_));refine .join1 (fun (e:Bool)=>y1G e=some r) (fun e=>⟨[(4,.b e)],[],0⟩) ?_ ?_
 ·intro e hm;refine .ret ?_;cases hm;exact .rr [] Tryz.results187 (.tmp R .nil) R I3 trivial
 ·intro g;refine bS hm fun k i hm=> .cnt 1 R (.c (.q (.c (.pd i lv201) .n)) .n) R ?_;refine .sub (τ:=⟨[(3,.q 0 0),(1,.o (lQ 275 [lQ 201 (lx201 k) 0] 0)),(2,.o (lQ 3 [lI f] 0))],[(0,.bx 124 [lI p0.1,lI p0.2.1,lI p0.2.2])],1⟩) ?_ [] R;refine .drP 7 [(1,[]),(1,[oT]),(1,[]),(1,[oF,oF,oT]),(1,[oF,oF,oT,oT]),(1,fA 2 (tT 3)),(1,tT 6)] [_,_,_,_,_,_,_] ⟨O.faP y1A Z R R,O.ld nag3 Z R (.B R) R R,O.ld y7u Z R .Q R R,O.nc .Q Z R R,O.faQ ydP Z R R,O.ld nag3 Z R .Q R R,O.bi Z R R R R,trivial⟩ fun h=>?_;rcases ifS hm with ⟨d,hm⟩|⟨d,hm⟩
  ·skip
   exact .drF h [(1,tT 7),(1,tT 8),(1,tT 9),(1,tT 8),(1,tT 11),(1,tT 12),(1,tT 13)] [_,_,_,_,_,_,_] ⟨[(4,.b (p0.2.1==f))],[],1⟩ ⟨O.kn (O.mv Z R R) d,O.faP y2I (Gu.mk R R) R R,O.ld nag3 (Gu.mk R R) R (.B R) R R,O.ld nag3 (Gu.mk R R) R .Q R R,O.bi (Gu.mk R R) R R R R,O.pkT Z R R R R,O.as Z R R,trivial⟩ (by kernel_rfl) R ((g _ hm).sub [] R)
  ·skip
   exact .drF h [(1,tT 7),(1,tT 8),(1,tT 9),(1,tT 8),(1,tT 11),(1,tT 12),(1,tT 13)] [_,_,_,_,_,_,_] ⟨[(4,.b false)],[],1⟩ ⟨O.kn (O.mv Z R R) d,O.skip R R R R,O.skip R R R R,O.skip R R R R,O.skip R R R R,O.pkF Z R R R R,O.as Z R R,trivial⟩ (by kernel_rfl) R ((g _ hm).sub [] R)
def y1r(a:Bool):Option Bool:=
 some a
def y1U(a:Option (BenT×Int×Bool))(b:Int)(p0:Int×Int×Int):Option Bool:=
 a.bind fun c=>
 if(p0.1==c.1.2.2.1) then
  y1r (p0.2.1==b)
 else
  y1r false
theorem y8D{j:Option (BenT×Int×Bool)}{f:Int}{p0:Int×Int×Int}{r:Bool}(hm:y1U j f p0=some r):
  F0 242 [.a [lI p0.1,lI p0.2.1,lI p0.2.2],.o (lQ 276 [lK rE201 201 j] 0),.o (lQ 3 [lI f] 0)] [] (.b r) []:=by
 refine Fw.mk2 Tryz.func242 Tryz.ntmps242 R (fun C=>?_) R;refine .sr (.bo 0 R (.an R ?_));refine .join1 (fun (e:Bool)=>y1r e=some r) (fun e=>⟨[(4,.b e)],[],0⟩) ?_ ?_
 ·intro e hm;refine .ret ?_;cases hm;exact .rr [] Tryz.results242 (.tmp R .nil) R I3 trivial
 ·intro g;refine bS hm fun k i hm=> .cnt 1 R (.c (.q (.c (.pd i lv201) .n)) .n) R ?_;refine .sub (τ:=⟨[(3,.q 0 0),(1,.o (lQ 276 [lQ 201 (lx201 k) 0] 0)),(2,.o (lQ 3 [lI f] 0))],[(0,.bx 124 [lI p0.1,lI p0.2.1,lI p0.2.2])],1⟩) ?_ [] R;refine .drP 7 [(1,[]),(1,[oT]),(1,[]),(1,[oF,oF,oT]),(1,[oF,oF,oT,oT]),(1,fA 2 (tT 3)),(1,tT 6)] [_,_,_,_,_,_,_] ⟨O.faP y1A Z R R,O.ld nag3 Z R (.B R) R R,O.ld y4j Z R .Q R R,O.nc .Q Z R R,O.faQ yci Z R R,O.ld nag3 Z R .Q R R,O.bi Z R R R R,trivial⟩ fun h=>?_;rcases ifS hm with ⟨d,hm⟩|⟨d,hm⟩
  ·skip
   exact .drF h [(1,tT 7),(1,tT 8),(1,tT 9),(1,tT 8),(1,tT 11),(1,tT 12),(1,tT 13)] [_,_,_,_,_,_,_] ⟨[(4,.b (p0.2.1==f))],[],1⟩ ⟨O.kn (O.mv Z R R) d,O.faP y2I (Gu.mk R R) R R,O.ld nag3 (Gu.mk R R) R (.B R) R R,O.ld nag3 (Gu.mk R R) R .Q R R,O.bi (Gu.mk R R) R R R R,O.pkT Z R R R R,O.as Z R R,trivial⟩ (by kernel_rfl) R ((g _ hm).sub [] R)
  ·skip
   exact .drF h [(1,tT 7),(1,tT 8),(1,tT 9),(1,tT 8),(1,tT 11),(1,tT 12),(1,tT 13)] [_,_,_,_,_,_,_] ⟨[(4,.b false)],[],1⟩ ⟨O.kn (O.mv Z R R) d,O.skip R R R R,O.skip R R R R,O.skip R R R R,O.skip R R R R,O.pkF Z R R R R,O.as Z R R,trivial⟩ (by kernel_rfl) R ((g _ hm).sub [] R)
def y3L(p0:BenT×Int×Bool)(p1:Int):Option Int:=
 (yv p0.1.1.1.2.2.2 (y1U (some p0) p1)).bind fun a=>
 if decide (a<0) then
  some (-1)
 else
  (some p0).bind fun b=>
  (idx b.1.1.1.2.2.2 a).bind fun c=>
  some c.2.2
theorem y9g{p0:BenT×Int×Bool}{r:Int}(hm:y3L p0 p1=some r):
    F0 219 [.o (lQ 201 (lx201 p0) 0),.i p1] [] (.i r) []:=by
  refine Fw.mk2 Tryz.func219 Tryz.ntmps219 R (fun C=>?_) R;refine .sr (.bo 0 R (.bo 1 R (.an R (.sr (.lb y4j R (.op (O.nc .Q Z R R) R (.fq y7V R (.fq y3Q R (.fq yB R (.lq nag33 R (.fz 0 [2] [] R R fB R R (.fz 1 [3] [] R R fB R R (.cnt 2 R (.c (.q (.c (.pk (r:=rE201) (.p (.p (.p (.p .l (.p .k (.p .l .l))) (.p (.p .l (.p .k (.p .l .l))) .l)) (.p (.p (.p .k (.p .k (.p .k (.p .l .l)))) (.p .l (.p .l .k))) (.p .k (.p .l .l)))) (.p .k .b))) .n)) .n) R (.op (O.mf (args:=(fun (x:(Int×Int×Int))=> [.a [lI x.1,lI x.2.1,lI x.2.2]])) (res:=(fun (r:Bool)=> .b r)) (m:=(y1U (some p0) p1)) cf242 (fun x r h=>y8D h) (fun _=>R) R Z R R) R (bS hm fun g d hm=> .c0 (y2C d) cf140 R (.an R (.seq (.sr (.mv R (.bi R (.ns ?_)))))))))))))))))))));refine .cc hm R (fun hm=>?_) fun hm=>?_
  ·refine .sr (.an R (.ret (.seqR ?_)));cases hm;exact .rr [] Tryz.results219 (.tmp R .nil) R I3 trivial
  ·refine .skip (.seqN (.sr (.lq y4j R (bS hm fun j e hm=> .cnt 16 R (.c (.pd e lv201) .n) R (.op (O.nc .Q Z R R) R (.fq y7V R (.fq y3Q R (.fq yB R (.lq nag33 R (.mv R (bS hm fun s f hm=> .ix sl33 f R (.fe y2J R (.le nag3 lv124 R (.an R (.ret ?_)))))))))))))));cases hm;exact .rr [] Tryz.results219 (.tmp R .nil) R I3 trivial
def y2i(p0:BenT×Int×Bool)(b:Int)(a:Int):Option (Bool×(BenT×Int×Bool)):=
 some (decide (b≥0),(p0.1.1,p0.1.2.1,a,p0.1.2.2.2),p0.2)
def y6v(p0:BenT×Int×Bool)(p1:Int):Option (Bool×(BenT×Int×Bool)):=
 (y3L p0 p1).bind fun a=>
 if decide (a≥0) then
  y2i p0 a a
 else
  y2i p0 a p0.1.2.2.1
theorem y9I{p0:BenT×Int×Bool}{r:Bool×(BenT×Int×Bool)}(hm:y6v p0 p1=some r):
  Fw Tryz.prog 186 ⟨1,[0]⟩ [.o (lP 0 0),.i p1] [.bx 201 (lx201 p0)] (.b r.1) [.bx 201 (lx201 r.2)]:=by
 refine Fw.mk2 Tryz.func186 Tryz.ntmps186 R (fun C=>?_) R;refine .sr (.an R (.sr (.mv R (.mv R (bS hm fun e d hm=> .op (O.caZ (y9g d) cf219 R R Z R ⟨⟨R,(.q R LnL.rf),trivial⟩,⟨R,LnL.rf⟩,trivial⟩ (fun _ _ _ _ _ h=>h) R) R (.an R ?_))))));refine .join1 (fun (a:Int)=>y2i p0 e a=some r) (fun a=>⟨[(5,.i e)],[(0,.bx 201 [lF qI p0.1.1.1.1,lI p0.1.1.1.2.1,lF qI p0.1.1.1.2.2.1,lF qT p0.1.1.1.2.2.2,lF qI p0.1.1.2.1.1,lI p0.1.1.2.1.2.1,lF qI p0.1.1.2.1.2.2.1,lF qT p0.1.1.2.1.2.2.2,lF qI p0.1.1.2.2,lI p0.1.2.1.1.1,lI p0.1.2.1.1.2.1,lI p0.1.2.1.1.2.2.1,lF rB p0.1.2.1.1.2.2.2.1,lF rE302 p0.1.2.1.1.2.2.2.2,lF qI p0.1.2.1.2.1,lF qI p0.1.2.1.2.2.1,lI p0.1.2.1.2.2.2,lI a,lF rB p0.1.2.2.2.1,lF rB p0.1.2.2.2.2,lI p0.2.1,lB p0.2.2])],1⟩) ?_ ?_
 ·intro a hm;refine .sr (.mv R (.bi R (.an R (.ret ?_))));cases hm;exact .rr [0] Tryz.results186 (.tmp R .nil) R I3 ⟨⟨_,R,I4⟩,trivial⟩
 ·intro c;refine .sr (.mv R (.bi R (.ns ?_)));exact .cc hm R (fun hm=> .reg (.mv R (.mv R (.op (O.nc .B Z R R) R (.fa yci R (.st nag3.sz R (.nil ((c _ hm).sub [] R)))))))) fun hm=> .skip ((c _ hm).sub [] R)
theorem cf187 :CF 187:=cM Tryz.func187 (by kernel_rfl)
theorem ycn :FAb 201 0 0:=fAm 0 0 20 Tryz.underlying201 R (by kernel_rfl)
theorem y9h :FAb 201 2 21:=fAm 2 21 1 Tryz.underlying201 R (by kernel_rfl)
def y3s(p1:Int)(a:BenT×Int×Bool)(c:Bool):Option (BenT×Int×Bool):=
 if c then
  some a
 else
  (yv a.1.1.2.1.2.2.2 (y3K (some a) p1)).bind fun b=>
  if decide (b<0) then
   some (a.1,a.2.1,true)
  else
   (idx a.1.1.2.1.2.2.2 b).bind fun d=>
   some (a.1,d.2.2,a.2.2)
def y2j(p1:Int)(a:BenT×Int×Bool):Option (BenT×Int×Bool):=
 if a.2.2 then
  y3s p1 a true
 else
  (yf a.1.1.2.1.1 p1).bind fun b=>
  y3s p1 a (!b)
def y4z(p0:BenT×Int×Bool)(p1:Int):Option (BenT×Int×Bool):=
 if p0.2.2 then
  y2j p1 (p0.1,p0.2.1,true)
 else
  (y6v p0 p1).bind fun a=>
  y2j p1 (a.2.1,a.2.2.1,(!a.1))
theorem y9J{p0:BenT×Int×Bool}{r:(BenT×Int×Bool)}(hm:y4z p0 p1=some r):
    Fw Tryz.prog 124 ⟨1,[0]⟩ [.o (lP 0 0),.i p1] [.bx 201 (lx201 p0)] (.tp []) [.bx 201 (lx201 r)]:=by
  refine Fw.mk2 Tryz.func124 Tryz.ntmps124 R (fun C=>?_) R;refine .sr (.bo 1 R (.bo 2 R (.ns ?_)));refine .join1 (fun (c:BenT×Int×Bool)=>y2j p1 c=some r) (fun c=>⟨[(3,.q 1 0),(2,.q 2 0)],[(0,.bx 201 (lx201 c)),(1,.bx 3 [lI p1]),(2,.bx 275 [lP 0 0])],3⟩) ?_ ?_
  · intro c hm;refine .seq ?_;refine .join1 (fun (f:Bool)=>y3s p1 c f=some r) (fun f=>⟨[(35,.b f),(3,.q 1 0),(2,.q 2 0)],[(0,.bx 201 (lx201 c)),(1,.bx 3 [lI p1]),(2,.bx 275 [lP 0 0])],3⟩) ?_ ?_
    · intro f hm;refine .cc hm R (fun hm=>?_) fun hm=>?_
      ·refine .ret (.seqR ?_);cases hm;exact .rr [0] Tryz.results124 .nil R I3 ⟨⟨_,R,I4⟩,trivial⟩
      ·refine .skip (.seqN (.sr (.lb y7u R (.op (O.nc .B Z R R) R (.fa ycn R (.fa y7V R (.fa y5Z R (.fa yB R (.lb nag33 R (.op (O.mz (l:=[lP 2 0,lP 1 0]) Z R R) R (bS hm fun w t hm=> .op (O.caZ (y2C t) cf140 R R Z R ⟨⟨R,LnL.rf⟩,⟨R,(.z (l':=[lQ 275 [lK rE201 201 (some c)] 0,lQ 3 [lI p1] 0]) cf187 (fun x r h=>y9f h) (fun _=>R) R ⟨(.q R ⟨(.cv (.q R LnL.rf) (.pk (r:=rE201) (.p (.p (.p (.p .l (.p .k (.p .l .l))) (.p (.p .l (.p .k (.p .l .l))) .l)) (.p (.p (.p .k (.p .k (.p .k (.p .l .l)))) (.p .l (.p .l .k))) (.p .k (.p .l .l)))) (.p .k .b)))),trivial⟩),(.q R LnL.rf),trivial⟩),trivial⟩,trivial⟩ (fun _ _ _ _ _ h=>h) R) R (.an R (.seq (.sr (.mv R (.bi R (.ns ?_)))))))))))))))));refine .cc hm R (fun hm=>?_) fun hm=>?_
       ·refine .sr (.lb y7u R (.op (O.nc .B Z R R) R (.fa y9h R (.st nag4.sz R (.ns (.ret (.seqR ?_)))))));cases hm;exact .rr [0] Tryz.results124 .nil R I3 ⟨⟨_,R,I4⟩,trivial⟩
       ·refine .skip (.seqN ?_);refine .sub (τ:=⟨[(4,.i w),(2,.q 2 0)],[(0,.bx 201 (lx201 c)),(2,.bx 275 [lP 0 0])],3⟩) ?_ [] R;refine bS hm fun D v hm=>?_;refine .drg 3 [(3,[]),(3,[]),(3,[oF,oT]),(3,[oF,oT,oT]),(3,fA 1 (tT 3)),(3,fA 1 (tT 4)),(3,fA 1 (tT 5)),(3,fA 1 (tT 6)),(3,[]),(3,fA 1 (tT 8)),(3,fA 1 (tT 9)),(3,fA 1 (tT 10)),(3,tT 12),(3,tT 13),(3,tT 14)] [_,_,_,_,_,_,_,_,_,_,_,_,_,_,_] ⟨[],[(0,.bx 201 [lF qI c.1.1.1.1,lI c.1.1.1.2.1,lF qI c.1.1.1.2.2.1,lF qT c.1.1.1.2.2.2,lF qI c.1.1.2.1.1,lI c.1.1.2.1.2.1,lF qI c.1.1.2.1.2.2.1,lF qT c.1.1.2.1.2.2.2,lF qI c.1.1.2.2,lI c.1.2.1.1.1,lI c.1.2.1.1.2.1,lI c.1.2.1.1.2.2.1,lF rB c.1.2.1.1.2.2.2.1,lF rE302 c.1.2.1.1.2.2.2.2,lF qI c.1.2.1.2.1,lF qI c.1.2.1.2.2.1,lI c.1.2.1.2.2.2,lI c.1.2.2.1,lF rB c.1.2.2.2.1,lF rB c.1.2.2.2.2,lI D.2.2,lB c.2.2])],3⟩ ⟨O.ld y7u Z R (.B R) R R,O.ld y7u Z R (.B R) R R,O.nc .B Z R R,O.faP ycn Z R R,O.faP y7V Z R R,O.faP y5Z Z R R,O.faP yB Z R R,O.ld nag33 Z R (.B R) R R,O.mv Z R R,O.ix sl33 Z R R v R,O.faE y2J Z R R,O.ld nag3 Z R (.E lv124) R R,O.nc .B Z R R,O.faP ydP Z R R,O.st nag3.sz Z R R R R R,trivial⟩ (by kernel_rfl) R ?_;cases hm;exact WX.rt [0] (.inr R) Tryz.results124 .nil R I3 ⟨⟨_,R,I4⟩,trivial⟩
    · intro j;refine .sub (τ:=⟨[(3,.q 1 0),(2,.q 2 0)],[(0,.bx 201 (lx201 c)),(1,.bx 3 [lI p1]),(2,.bx 275 [lP 0 0])],3⟩) ?_ [] R;refine .drP 4 [(3,[]),(3,[oT]),(3,[oT,oT]),(3,tT 3)] [_,_,_,_] ⟨O.ld y7u Z R (.B R) R R,O.nc .B Z R R,O.faP y9h Z R R,O.ld nag4 Z R (.B R) R R,trivial⟩ fun m=>?_;rcases ifS hm with ⟨e,hm⟩|⟨e,hm⟩
      · skip
        exact .drF m [(3,tT 4),(3,tT 5),(3,tT 6),(3,tT 7),(3,tT 8),(3,tT 9),(3,tT 10),(3,tT 11),(3,tT 5),(3,tT 13),(3,tT 14),(3,tT 15)] [_,_,_,_,_,_,_,_,_,_,_,_] ⟨[(35,.b true),(3,.q 1 0),(2,.q 2 0)],[(0,.bx 201 (lx201 c)),(1,.bx 3 [lI p1]),(2,.bx 275 [lP 0 0])],3⟩ ⟨O.kn (O.mv Z R R) e,O.skip R R R R,O.skip R R R R,O.skip R R R R,O.skip R R R R,O.skip R R R R,O.skip R R R R,O.skip R R R R,O.skip R R R R,O.skip R R R R,O.skip R R R R,O.pkT Z R R R R,trivial⟩ (by kernel_rfl) R ((j _ hm).sub [] R)
      · skip
        exact bS hm fun y u hm=> .drF m [(3,tT 4),(3,tT 5),(3,tT 6),(3,tT 7),(3,tT 8),(3,tT 9),(3,tT 10),(3,tT 11),(3,tT 5),(3,tT 13),(3,tT 14),(3,tT 15)] [_,_,_,_,_,_,_,_,_,_,_,_] ⟨[(35,.b (!y)),(3,.q 1 0),(2,.q 2 0)],[(0,.bx 201 (lx201 c)),(1,.bx 3 [lI p1]),(2,.bx 275 [lP 0 0])],3⟩ ⟨O.kn (O.mv Z R R) e,O.ld y7u (Gu.mk R R) R (.B R) R R,O.nc .B (Gu.mk R R) R R,O.faP ycn (Gu.mk R R) R R,O.faP y7V (Gu.mk R R) R R,O.faP y5Z (Gu.mk R R) R R,O.faP yz (Gu.mk R R) R R,O.ld nag32 (Gu.mk R R) R (.B R) R R,O.ld nag3 (Gu.mk R R) R (.B R) R R,O.ca0 (yj u) cf104 R R (Gu.mk R R) R R R,O.not (Gu.mk R R) R R,O.pkF Z R R R R,trivial⟩ (by kernel_rfl) R ((j _ hm).sub [] R)
  · intro g;refine .sub (τ:=⟨[(3,.q 2 0),(2,.q 1 0)],[(0,.bx 201 (lx201 p0)),(2,.bx 3 [lI p1]),(1,.bx 275 [lP 0 0])],3⟩) ?_ [] R;refine .drP 5 [(3,[]),(3,[]),(3,[oF,oT]),(3,[oF,oT,oT]),(3,fA 1 (tT 3))] [_,_,_,_,_] ⟨O.ld y7u Z R (.B R) R R,O.ld y7u Z R (.B R) R R,O.nc .B Z R R,O.faP y9h Z R R,O.ld nag4 Z R (.B R) R R,trivial⟩ fun s=>?_;rcases ifS hm with ⟨d,hm⟩|⟨d,hm⟩
    · skip
      exact .drH s 3 [(3,fA 1 (tT 4)),(3,fA 1 (tT 5)),(3,fA 1 (tT 6)),(3,fA 1 (tT 7)),(3,fA 1 (tT 5)),(3,fA 1 (tT 9)),(3,fA 1 (tT 10)),(3,fA 1 (tT 11)),(3,tT 13),(3,tT 14),(3,tT 15)] [_,_,_,_,_,_,_,_,_,_,_] ⟨[(3,.q 2 0),(2,.q 1 0)],[(0,.bx 201 [lF qI p0.1.1.1.1,lI p0.1.1.1.2.1,lF qI p0.1.1.1.2.2.1,lF qT p0.1.1.1.2.2.2,lF qI p0.1.1.2.1.1,lI p0.1.1.2.1.2.1,lF qI p0.1.1.2.1.2.2.1,lF qT p0.1.1.2.1.2.2.2,lF qI p0.1.1.2.2,lI p0.1.2.1.1.1,lI p0.1.2.1.1.2.1,lI p0.1.2.1.1.2.2.1,lF rB p0.1.2.1.1.2.2.2.1,lF rE302 p0.1.2.1.1.2.2.2.2,lF qI p0.1.2.1.2.1,lF qI p0.1.2.1.2.2.1,lI p0.1.2.1.2.2.2,lI p0.1.2.2.1,lF rB p0.1.2.2.2.1,lF rB p0.1.2.2.2.2,lI p0.2.1,lB true]),(2,.bx 3 [lI p1]),(1,.bx 275 [lP 0 0])],3⟩ ⟨O.kn (O.mv Z R R) d,O.skip R R R R,O.skip R R R R,O.skip R R R R,O.skip R R R R,O.skip R R R R,O.skip R R R R,O.pkT Z R R R R,O.nc .B Z R R,O.faP y9h Z R R,O.st nag4.sz Z R R R R R,trivial⟩ (by kernel_rfl) R ((g _ hm).sub [(1,2),(2,1)] R)
    · skip
      refine bS hm fun a n hm=>?_;refine .drz 3 [(10,0)] [(3,[],[0],[]),(3,[],[],[]),(3,[oF,oT],[],[]),(3,[oF,oT,oT],[],[]),(3,[oF,oT,oT,oT],[],[]),(3,[oF,oT,oT,oT,oT],[],[]),(3,[oF,oT,oT,oT,oT,oT],[],[]),(3,[oF,oT,oT,oT,oT,oT,oT],[],[]),(3,[oF,oT,oT,oT,oT,oT,oT,oT],[],[]),(3,[oF,oT,oT,oT,oT,oT],[],[]),(3,[oF,oT,oT,oT,oT,oT,oT,oT,oT,oT],[],[]),(3,[oF,oT,oT,oT,oT,oT,oT,oT,oT,oT,oT],[],[]),(3,[oF,oT,oT,oT,oT,oT,oT,oT,oT,oT,oT,oT],[],[]),(3,[oT,oT,oT,oT,oT,oT,oT,oT,oT,oT,oT,oT,oT],[],[]),(3,[oT,oT,oT,oT,oT,oT,oT,oT,oT,oT,oT,oT,oT,oT],[],[]),(3,[oT,oT,oT,oT,oT,oT,oT,oT,oT,oT,oT,oT,oT,oT,oT],[],[])] [_,_,_,_,_,_,_,_,_,_,_,_,_,_,_,_] ⟨[(3,.q 2 0),(2,.q 1 0)],[(0,.bx 201 [lF qI a.2.1.1.1.1,lI a.2.1.1.1.2.1,lF qI a.2.1.1.1.2.2.1,lF qT a.2.1.1.1.2.2.2,lF qI a.2.1.1.2.1.1,lI a.2.1.1.2.1.2.1,lF qI a.2.1.1.2.1.2.2.1,lF qT a.2.1.1.2.1.2.2.2,lF qI a.2.1.1.2.2,lI a.2.1.2.1.1.1,lI a.2.1.2.1.1.2.1,lI a.2.1.2.1.1.2.2.1,lF rB a.2.1.2.1.1.2.2.2.1,lF rE302 a.2.1.2.1.1.2.2.2.2,lF qI a.2.1.2.1.2.1,lF qI a.2.1.2.1.2.2.1,lI a.2.1.2.1.2.2.2,lI a.2.1.2.2.1,lF rB a.2.1.2.2.2.1,lF rB a.2.1.2.2.2.2,lI a.2.2.1,lB (!a.1)]),(2,.bx 3 [lI p1]),(1,.bx 275 [lP 0 0])],3⟩ ⟨O.ld y7u Z R (.B R) R R,O.ld y7u Z R (.B R) R R,O.nc .B Z R R,O.faP y9h Z R R,O.ld nag4 Z R (.B R) R R,O.kn (O.mv Z R R) d,O.ld y7u (Gu.mk R R) R (.B R) R R,O.nc .B (Gu.mk R R) R R,O.faP ycn (Gu.mk R R) R R,O.ld nag3 (Gu.mk R R) R (.B R) R R,O.ca (r':= .b a.1) [0] [(0,.bx 201 (lx201 a.2))] none (y9I n) cf186 R R (Gu.mk R R) R R R R ⟨⟨_,R,I4⟩,trivial⟩ I3 R,O.not (Gu.mk R R) R R,O.pkF Z R R R R,O.nc .B Z R R,O.faP y9h Z R R,O.st nag4.sz Z R R R R R,trivial⟩ (by kernel_rfl) R ?_;exact(g _ hm).sub [(1,2),(2,1)] R
end
end Go.Proofs.YtecmobjeeonmaaaGreatDoor
