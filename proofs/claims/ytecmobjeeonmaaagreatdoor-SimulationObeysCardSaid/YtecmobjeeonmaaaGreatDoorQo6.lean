/- Parts of the proof, without what nothing here names. -/
import Derived.Test.YtecmobjeeonmaaaGreatDoorProg
import Derived.Test.YtecmobjeeonmaaaGreatDoorQo5
set_option maxRecDepth 100000
set_option maxHeartbeats 8000000
namespace Go.Proofs.YtecmobjeeonmaaaGreatDoor
open Go Go.RowKit
noncomputable section
def y2s(b:List Int)(a:Int×(BenT×Int×Bool)):Option ((Int×(BenT×Int×Bool))⊕(BenT×Int×Bool)):=
 if decide (a.1<(b.length:Int)) then
  (idx b a.1).bind fun d=>
  (y4z a.2 d).bind fun c=>
  some (.inl (W (a.1+1),c))
 else
  some (.inr a.2)
def y2t(p1:List StpT)(a:Int×(BenT×Int×Bool)):Option ((Int×(BenT×Int×Bool))⊕(Unit⊕(Int×Int))):=
 if decide (a.1<(p1.length:Int)) then
  (idx p1 a.1).bind fun c=>
  (y3E c).bind fun d=>
  (iter (y2s d) (0,a.2)).bind fun b=>
  if b.2.2 then
   some (.inr (.inr ((1,a.1))))
  else
   if c.2.2.2.2.2.2 then
    some (.inr (.inr ((2,a.1))))
   else
    if(c.2.2.2.2.2.1 != b.2.1) then
     some (.inr (.inr ((3,a.1))))
    else
     some (.inl (W (a.1+1),b))
 else
  some (.inr (.inl ()))
def y2o(p0:PbT)(p1:List StpT):Option (Int×Int×Bool×Int):=
 (yD p0).bind fun c=>
 if(c != 0) then
  some (0,0,false,c)
 else
  (y6c p1).bind fun d=>
  (y4f d (y4g p0)).bind fun e=>
  if e then
   some (0,0,false,9)
  else
   (iter (y2t p1) (0,(p0,((0,0,0,([]:List Bool),([]:List (Int×Int))),([]:List Int),([]:List Int),0),0,([]:List Bool),([]:List Bool)),0,false)).bind fun b=>
   match b with
   | .inl f=>
    some (0,0,false,0)
   | .inr (a)=>
    some (a.2,a.1,true,0)
theorem y6o{p0:PbT}{p1:List StpT}{r:Int×Int×Bool×Int}(hm:y2o p0 p1=some r):
    F0 49 [.a (lx37 p0),.f rE100 p1] [] (.tp [.i r.1,.i r.2.1,.b r.2.2.1,.i r.2.2.2]) []:=by
  refine Fw.mk2 Tryz.func49 Tryz.ntmps49 R (fun C=>?_) R;refine .sr (.bo 0 R (.sa R (.sa R (.sa R (.an R (.seq (.sr (.lg (lx37 p0) ag37 R (.B R) R (bS hm fun V K hm=> .c0 (y7m K) cf62 R (.an R (.sr (.mv R (.bi R (.ns ?_))))))))))))));refine .cc hm R (fun hm=>?_) fun hm=>?_
  ·refine .sr (.mv R (.sa R (.sa R (.sa R (.an R (.ret (.seqR ?_)))))));cases hm;exact .rr [] Tryz.results49 (.tmp R (.tmp R (.tmp R (.tmp R .nil)))) R I3 trivial
  ·refine .skip (.seqN (.seq (.sr (.mv R (bS hm fun T L hm=> .op (O.ca (r':= .h 1) [1] [(0,rwI T)] (some 2) (y8P L) cf53 R R Z R R R R ⟨⟨_,R,I4⟩,trivial⟩ I3 R) R (.fz 0 [2] [] R R fB R R (.op (O.mf (args:=(fun (x:Int)=> [.i x])) (res:=(fun (r:Bool)=> .b r)) (m:=(y4g p0)) cf122 (fun x r h=>y9w h) (fun _=>R) R Z R R) R (bS hm fun W M hm=> .op (O.caZ (y9v M) cf106 R R Z R ⟨⟨R,.hr R,trivial⟩,⟨R,LnL.rf⟩,trivial⟩ (fun _ _ _ _ _ h=>h) R) R (.ns ?_)))))))));refine .cc hm R (fun hm=>?_) fun hm=>?_
   ·refine .sr (.sa R (.sa R (.sa R (.an R (.ret (.seqR ?_))))));cases hm;exact .rr [] Tryz.results49 (.tmp R (.tmp R (.tmp R (.tmp R .nil)))) R I3 trivial
   ·refine .skip (.seqN (.sr (.lg (lx37 p0) ag37 R .Q R (.bu [lF qI p0.1.1,lI p0.1.2.1,lF qI p0.1.2.2.1,lF qT p0.1.2.2.2,lF qI p0.2.1.1,lI p0.2.1.2.1,lF qI p0.2.1.2.2.1,lF qT p0.2.1.2.2.2,lF qI p0.2.2,lI 0,lI 0,lI 0,lN,lN,lN,lN,lI 0,lI 0,lN,lN] pl199 R (.bu [lF qI p0.1.1,lI p0.1.2.1,lF qI p0.1.2.2.1,lF qT p0.1.2.2.2,lF qI p0.2.1.1,lI p0.2.1.2.1,lF qI p0.2.1.2.2.1,lF qT p0.2.1.2.2.2,lF qI p0.2.2,lI 0,lI 0,lI 0,lN,lN,lN,lN,lI 0,lI 0,lN,lN,lI 0,lB false] pl201 R (.al 2 zz201 R (.st ag201.sz R (.ns (.seq (.sr (.mv R (.ln sl91 R (.mv R (.ns (.block (bS hm fun t u hm=>?_))))))))))))))));refine .cutU (z:= .exit 0) (fun s=> .inl s=t) (fun (s:Unit)=>⟨[],[],0⟩) ?_ fun I=>?_
    · rintro s rfl;dsimp only at hm;refine .blkE (.seqN (.sr (.sa R (.sa R (.sa R (.an R (.ret ?_)))))));cases hm;exact .rr [] Tryz.results49 (.tmp R (.tmp R (.tmp R (.tmp R .nil)))) R I3 trivial
    refine .cutU (z:= .ret) (fun g=> .inr (g)=t) (fun (g:Int×Int)=>⟨[(7,.i 0),(6,.b true),(5,.i g.1),(4,.i g.2)],[],0⟩) ?_ fun l=>?_
    · rintro g rfl;dsimp only at hm;refine .blkR (.seqR ?_);cases hm;exact .rr [] Tryz.results49 (.tmp R (.tmp R (.tmp R (.tmp R .nil)))) R I3 trivial
    refine .cno 2 R (.c .rf (.c .rf (.c .rf (.c .rf (.c .rf (.c .rf (.c .rf (.c .rf (.c .rf (.c .rf (.c .rf (.c .rf (.c (.nf (r:=rB)) (.c (.nf (r:=rE302)) (.c (.nf (r:=qI)) (.c (.nf (r:=qI)) (.c .rf (.c .rf (.c (.nf (r:=rB)) (.c (.nf (r:=rB)) .rf)))))))))))))))))))) R (.iter (fun (d:Int×(BenT×Int×Bool))=>⟨[(27,.i d.1),(26,.i p1.length),(25,.f rE100 p1),(8,.q 0 0)],[(0,.bx 201 (lx201 d.2))],1⟩) u [(0,2)] R ?_);intro d P hm G e;refine .sr (.bi R (.ns (.seq ?_)));refine .cc hm R (fun hm=>?_) fun hm=> .exit (.seqX (.seqX ((I _ (e _ (oj hm))).sub [] R)));refine .skip (.seqN (.seq (.block (.sr (.mv R (bS hm fun k D hm=> .ix sl91 D R (.lg (lx100 k) ag100 R (.E lv100) R (.al 1 zz100 R (.sa R (.st ag100.sz R (.ns (.seq (.sr (.lg (lx100 k) ag100 R (.B R) R (bS hm fun p w hm=> .op (O.ca (r':= .h 2) [2] [(0,rwI p)] (some 3) (y7P w) cf123 R R Z R R R R ⟨⟨_,R,I4⟩,trivial⟩ I3 R) R (.lh sl32 R (.mv R (.ns (.block (bS hm fun o v hm=>?_))))))))))))))))))));refine .cut1 (z:= .exit 2) o (fun (o:(BenT×Int×Bool))=>⟨[(9,.i d.1),(10,.q 0 0),(27,.i d.1),(26,.i p1.length),(25,.f rE100 p1),(8,.q 1 0)],[(0,.bx 100 (lx100 k)),(1,.bx 201 (lx201 o))],2⟩) ?_ fun J=>?_
    · skip
      refine .blkE (.seqN (.block (.sr (.fa y9h R (.lb nag4 R (.an R ?_))))));refine .cc hm R (fun hm=> .sr (.mv R (.sa R (.sa R (.sa R (.an R (.ret (.blkR (.blkR (.seqR (.seqR ((l _ (e _ (oj hm))).sub [] R)))))))))))) fun hm=>?_;refine .sr (.fa yg0 R (.lb nag4 R (.an R ?_)));refine .cc hm R (fun hm=> .sr (.mv R (.sa R (.sa R (.sa R (.an R (.ret (.blkR (.blkR (.seqR (.seqR ((l _ (e _ (oj hm))).sub [] R)))))))))))) fun hm=>?_;refine .sr (.fa ydO R (.lb nag3 R (.fa ydP R (.lb nag3 R (.bi R (.an R ?_))))));exact .cc hm R (fun hm=> .sr (.mv R (.sa R (.sa R (.sa R (.an R (.ret (.blkR (.blkR (.seqR (.seqR ((l _ (e _ (oj hm))).sub [] R)))))))))))) fun hm=> .skip (.blkN (.blkN (.seqN (.reg (.bi R (.mv R (.nil ((G _ (oj hm)).sub [(0,1)] R))))))))
    refine .iter (fun (j:Int×(BenT×Int×Bool))=>⟨[(35,.i j.1),(34,.i p.length),(33,.h 0),(9,.i d.1),(10,.q 1 0),(27,.i d.1),(26,.i p1.length),(25,.f rE100 p1),(8,.q 2 0)],[(0,rwI p),(1,.bx 100 (lx100 k)),(2,.bx 201 (lx201 j.2))],3⟩) v [(0,2),(2,0)] R ?_;intro j S hm H F;refine .sr (.bi R (.ns (.seq ?_)));exact .cc hm R (fun hm=> .skip (.seqN (.seq (.block (.sr (bS hm fun U n hm=> .op (O.ir sl32 Z R R R n R) R (.op (O.ld nag3 Z R (.R R n lv3) R R) R (.an R (.reg (.mv R (bS hm fun N y hm=> .op (O.ca (r':= .tp []) [2] [(0,.bx 201 (lx201 N))] none (y9J y) cf124 R R Z R R R R ⟨⟨_,R,I4⟩,trivial⟩ I3 R) R (.nil (.blkN (.seqN (.reg (.bi R (.mv R (.nil ((H _ (oj hm)).sub [] R))))))))))))))))))) fun hm=> .exit (.seqX (.seqX ((J _ (F _ (oj hm))).sub [(0,1),(1,2)] R)))
def y7h :Option Bool:=
 (y4s).bind fun n=>
 (y5e n ([(([]:List Int),([0]:List Int),2)]:List CycT)).bind fun a=>
 (y4s).bind fun o=>
 (y2o o a.1).bind fun c=>
 (y4s).bind fun p=>
 (y5e p ([(([0]:List Int),([]:List Int),2)]:List CycT)).bind fun b=>
 (y4s).bind fun q=>
 (y2o q b.1).bind fun j=>
 (if ((a.2==0)&&((a.1.length:Int)==1)) then
  (idx a.1 0).bind fun m=>
  some m.2.2.2.2.1
 else
  some false).bind fun d=>
 (if d then
  (y6c a.1).bind fun h=>
  (y3a h ([0,2]:List Int)).bind fun i=>
  some i
 else
  some false).bind fun e=>
 (if ((((((e&&(c.2.2.2==0))&&c.2.2.1)&&(c.1==0))&&(c.2.1==1))&&(b.2==0))&&((b.1.length:Int)==1)) then
  (idx b.1 0).bind fun l=>
  some (l.2.2.2.1==(-1))
 else
  some false).bind fun f=>
 (if f then
  (idx b.1 0).bind fun k=>
  some ((k.2.2.1.length:Int)==0)
 else
  some false).bind fun g=>
 some ((g&&(j.2.2.2==0))&&(!j.2.2.1))
theorem yaj{r:Bool}(hm:y7h=some r):
  F0 46 [] [] (.b r) []:=by
 refine Fw.mk2 Tryz.func46 Tryz.ntmps46 R (fun C=>?_) R;refine .sr (.an R (.sr (bS hm fun r1 a2 hm=> .c0 (y5m a2) cf118 R (.bf (r:=qI) ([0]:List Int) bs32 R (.c .k .n) R (.bu [lN,lF qI ([0]:List Int),lI 2] pl114 R (.op (O.bsF (r:=rE114) (zs:=([(([]:List Int),([0]:List Int),2)]:List CycT)) bs94 R R Z R R R (.c (.p .n (.p .l .k)) .n) R R R) R (bS hm fun m a3 hm=> .op (O.ca (r':= .tp [.h 0,.i m.2]) [0] [(0,ROW rE100 100 m.1)] (some 1) (y7O a3) cf57 R R Z R R R R ⟨⟨_,R,I4⟩,trivial⟩ I3 R) R (.mv R (.ex R (.ex R (.sa R (.an R (.sr (bS hm fun r3 a4 hm=> .c0 (y5m a4) cf118 R (.mv R (bS hm fun a a5 hm=> .op (O.caZ (y6o a5) cf49 R R Z R ⟨⟨R,LnL.rf⟩,⟨R,.hr R,trivial⟩,trivial⟩ (fun _ _ _ _ _ h=>h) R) R (.mv R (.ex R (.ex R (.ex R (.ex R (.sa R (.sa R (.sa R (.an R (.seq ?_))))))))))))))))))))))))));refine .reg (bS hm fun r5 a6 hm=> .c0 (y5m a6) cf118 R (.bf (r:=qI) ([0]:List Int) bs32 R (.c .k .n) R (.bu [lF qI ([0]:List Int),lN,lI 2] pl114 R (.op (O.bsF (r:=rE114) (zs:=([(([0]:List Int),([]:List Int),2)]:List CycT)) bs94 R R Z R R R (.c (.p .l (.p .n .k)) .n) R R R) R (bS hm fun f a7 hm=> .op (O.ca (r':= .tp [.h 1,.i f.2]) [1] [(0,ROW rE100 100 f.1)] (some 2) (y7O a7) cf57 R R Z R R R R ⟨⟨_,R,I4⟩,trivial⟩ I3 R) R (.mv R (.ex R (.ex R (.sa R (.an R (.sr (bS hm fun r7 a8 hm=> .c0 (y5m a8) cf118 R (.mv R (bS hm fun e a9 hm=> .op (O.caZ (y6o a9) cf49 R R Z R ⟨⟨R,LnL.rf⟩,⟨R,.hr R,trivial⟩,trivial⟩ (fun _ _ _ _ _ h=>h) R) R (.mv R (.ex R (.ex R (.ex R (.ex R (.sa R (.sa R (.sa R (.an R (.sr (.mv R (.bi R (.mv R ?_)))))))))))))))))))))))))));refine .cut 4 (fun (Y:Bool)=>((m.2==0)&&((m.1.length:Int)==1))=Y) (fun Y=>⟨[(51,.b Y),(12,.i e.2.2.2),(11,.b e.2.2.1),(8,.i f.2),(7,.h 1),(6,.i a.2.2.2),(5,.b a.2.2.1),(4,.i a.2.1),(3,.i a.1),(1,.h 0)],[(1,ROW rE100 100 f.1),(0,ROW rE100 100 m.1)],2⟩) ?_ ?_
 ·rintro _ rfl;refine .mv R (bS hm fun a0 eb11 hm=>?_);refine .cut 5 (fun (t:Bool)=>a0=t) (fun t=>⟨[(57,.b t),(12,.i e.2.2.2),(11,.b e.2.2.1),(8,.i f.2),(7,.h 1),(6,.i a.2.2.2),(5,.b a.2.2.1),(4,.i a.2.1),(3,.i a.1),(1,.h 0)],[(1,ROW rE100 100 f.1),(0,ROW rE100 100 m.1)],2⟩) ?_ ?_
  ·rintro _ rfl;refine .mv R (bS hm fun g eb14 hm=>?_);refine .cut 5 (fun (u:Bool)=>g=u) (fun u=>⟨[(63,.b u),(12,.i e.2.2.2),(11,.b e.2.2.1),(8,.i f.2),(7,.h 1),(6,.i a.2.2.2),(5,.b a.2.2.1),(4,.i a.2.1),(3,.i a.1)],[(1,ROW rE100 100 f.1)],3⟩) ?_ ?_
   ·rintro _ rfl;refine .mv R ?_;refine .cut 3 (fun (v:Bool)=>(g&&(a.2.2.2==0))=v) (fun v=>⟨[(67,.b v),(12,.i e.2.2.2),(11,.b e.2.2.1),(8,.i f.2),(7,.h 1),(5,.b a.2.2.1),(4,.i a.2.1),(3,.i a.1)],[(1,ROW rE100 100 f.1)],3⟩) ?_ ?_
    ·rintro _ rfl;refine .mv R ?_;refine .cut 2 (fun (w:Bool)=>((g&&(a.2.2.2==0))&&a.2.2.1)=w) (fun w=>⟨[(70,.b w),(12,.i e.2.2.2),(11,.b e.2.2.1),(8,.i f.2),(7,.h 1),(4,.i a.2.1),(3,.i a.1)],[(1,ROW rE100 100 f.1)],3⟩) ?_ ?_
     ·rintro _ rfl;refine .mv R ?_;refine .cut 3 (fun (x:Bool)=>(((g&&(a.2.2.2==0))&&a.2.2.1)&&(a.1==0))=x) (fun x=>⟨[(74,.b x),(12,.i e.2.2.2),(11,.b e.2.2.1),(8,.i f.2),(7,.h 1),(4,.i a.2.1)],[(1,ROW rE100 100 f.1)],3⟩) ?_ ?_
      ·rintro _ rfl;refine .mv R ?_;refine .cut 3 (fun (y:Bool)=>((((g&&(a.2.2.2==0))&&a.2.2.1)&&(a.1==0))&&(a.2.1==1))=y) (fun y=>⟨[(78,.b y),(12,.i e.2.2.2),(11,.b e.2.2.1),(8,.i f.2),(7,.h 1)],[(1,ROW rE100 100 f.1)],3⟩) ?_ ?_
       ·rintro _ rfl;refine .mv R ?_;refine .cut 3 (fun (z:Bool)=>(((((g&&(a.2.2.2==0))&&a.2.2.1)&&(a.1==0))&&(a.2.1==1))&&(f.2==0))=z) (fun z=>⟨[(82,.b z),(12,.i e.2.2.2),(11,.b e.2.2.1),(7,.h 1)],[(1,ROW rE100 100 f.1)],3⟩) ?_ ?_
        ·rintro _ rfl;refine .mv R ?_;refine .cut 4 (fun (B:Bool)=>((((((g&&(a.2.2.2==0))&&a.2.2.1)&&(a.1==0))&&(a.2.1==1))&&(f.2==0))&&((f.1.length:Int)==1))=B) (fun B=>⟨[(87,.b B),(12,.i e.2.2.2),(11,.b e.2.2.1),(7,.h 1)],[(1,ROW rE100 100 f.1)],3⟩) ?_ ?_
         ·rintro _ rfl;refine .mv R (bS hm fun a1 eb29 hm=>?_);refine .cut 6 (fun (D:Bool)=>a1=D) (fun D=>⟨[(94,.b D),(12,.i e.2.2.2),(11,.b e.2.2.1),(7,.h 1)],[(1,ROW rE100 100 f.1)],3⟩) ?_ ?_
          ·rintro _ rfl;refine .mv R (bS hm fun j eb32 hm=>?_);refine .cut 7 (fun (E:Bool)=>j=E) (fun E=>⟨[(102,.b E),(12,.i e.2.2.2),(11,.b e.2.2.1)],[],3⟩) ?_ ?_
           ·rintro _ rfl;refine .mv R ?_;refine .cut 3 (fun (F:Bool)=>(j&&(e.2.2.2==0))=F) (fun F=>⟨[(106,.b F),(11,.b e.2.2.1)],[],3⟩) ?_ ?_
            ·rintro _ rfl;refine .mv R ?_;refine .cut 3 (fun (G:Bool)=>((j&&(e.2.2.2==0))&&(!e.2.2.1))=G) (fun G=>⟨[(110,.b G)],[],3⟩) ?_ ?_
             ·rintro _ rfl;refine .an R (.ret ?_);cases hm;exact .rr [] Tryz.results46 (.tmp R .nil) R I3 trivial
             ·intro V;rcases yEt (j&&(e.2.2.2==0)) with hc|hc
              ·refine .know (d:=107) R hc ?_;exact .mg R (.op (O.not (Gu.mk R R) R R) R (.pT R ((V (!e.2.2.1) (andT hc).symm).sub [] R)))
              ·refine .know (d:=107) R hc ?_;exact .sk R (.sk R (.pF R ((V false (andF hc).symm).sub [] R)))
            ·intro U;rcases yEt j with hc|hc
             ·refine .know (d:=103) R hc ?_;exact .mg R (.bg R (.pT R ((U (e.2.2.2==0) (andT hc).symm).sub [] R)))
             ·refine .know (d:=103) R hc ?_;exact .sk R (.sk R (.pF R ((U false (andF hc).symm).sub [] R)))
           ·intro T;rcases ifS eb32 with ⟨hc,hm⟩|⟨hc,hm⟩
            ·refine .know (d:=95) R hc ?_;exact .mg R (bS hm fun b2 o hm=> .op (O.ir sl91 (Gu.mk R R) R R R o R) R (.op (O.faR ycl (Gu.mk R R) R R) R (.op (O.ld nag32 (Gu.mk R R) R (.R R o lv100) R R) R (.op (O.len sl32 (Gu.mk R R) R R) R (.bg R (.pT R ((T ((b2.2.2.1.length:Int)==0) (oj hm)).sub [] R)))))))
            ·refine .know (d:=95) R hc ?_;exact .sk R (.sk R (.sk R (.sk R (.sk R (.sk R (.pF R ((T false (oj hm)).sub [] R)))))))
          ·intro S;rcases ifS eb29 with ⟨hc,hm⟩|⟨hc,hm⟩
           ·refine .know (d:=88) R hc ?_;exact .mg R (bS hm fun b3 q hm=> .op (O.ir sl91 (Gu.mk R R) R R R q R) R (.op (O.faR y9Z (Gu.mk R R) R R) R (.op (O.ld nag3 (Gu.mk R R) R (.R R q lv100) R R) R (.bg R (.pT R ((S (b3.2.2.2.1==(-1)) (oj hm)).sub [] R))))))
           ·refine .know (d:=88) R hc ?_;exact .sk R (.sk R (.sk R (.sk R (.sk R (.pF R ((S false (oj hm)).sub [] R))))))
         ·intro Q;rcases yEt (((((g&&(a.2.2.2==0))&&a.2.2.1)&&(a.1==0))&&(a.2.1==1))&&(f.2==0)) with hc|hc
          ·refine .know (d:=83) R hc ?_;exact .mg R (.op (O.lenH sl91 (Gu.mk R R) R R R) R (.bg R (.pT R ((Q ((f.1.length:Int)==1) (andT hc).symm).sub [] R))))
          ·refine .know (d:=83) R hc ?_;exact .sk R (.sk R (.sk R (.pF R ((Q false (andF hc).symm).sub [] R))))
        ·intro P;rcases yEt ((((g&&(a.2.2.2==0))&&a.2.2.1)&&(a.1==0))&&(a.2.1==1)) with hc|hc
         ·refine .know (d:=79) R hc ?_;exact .mg R (.bg R (.pT R ((P (f.2==0) (andT hc).symm).sub [] R)))
         ·refine .know (d:=79) R hc ?_;exact .sk R (.sk R (.pF R ((P false (andF hc).symm).sub [] R)))
       ·intro N;rcases yEt (((g&&(a.2.2.2==0))&&a.2.2.1)&&(a.1==0)) with hc|hc
        ·refine .know (d:=75) R hc ?_;exact .mg R (.bg R (.pT R ((N (a.2.1==1) (andT hc).symm).sub [] R)))
        ·refine .know (d:=75) R hc ?_;exact .sk R (.sk R (.pF R ((N false (andF hc).symm).sub [] R)))
      ·intro M;rcases yEt ((g&&(a.2.2.2==0))&&a.2.2.1) with hc|hc
       ·refine .know (d:=71) R hc ?_;exact .mg R (.bg R (.pT R ((M (a.1==0) (andT hc).symm).sub [] R)))
       ·refine .know (d:=71) R hc ?_;exact .sk R (.sk R (.pF R ((M false (andF hc).symm).sub [] R)))
     ·intro L;rcases yEt (g&&(a.2.2.2==0)) with hc|hc
      ·refine .know (d:=68) R hc ?_;exact .mg R (.pT R ((L a.2.2.1 (andT hc).symm).sub [] R))
      ·refine .know (d:=68) R hc ?_;exact .sk R (.pF R ((L false (andF hc).symm).sub [] R))
    ·intro K;rcases yEt g with hc|hc
     ·refine .know (d:=64) R hc ?_;exact .mg R (.bg R (.pT R ((K (a.2.2.2==0) (andT hc).symm).sub [] R)))
     ·refine .know (d:=64) R hc ?_;exact .sk R (.sk R (.pF R ((K false (andF hc).symm).sub [] R)))
   ·intro J;rcases ifS eb14 with ⟨hc,hm⟩|⟨hc,hm⟩
    ·refine .know (d:=58) R hc ?_;exact .mg R (bS hm fun b0 W hm=> .op (O.caY (r':= .h 2) [2] [(0,rwI b0)] (some 3) (y8P W) cf53 R R (Gu.mk R R) R R ⟨⟨R,.hr R,trivial⟩,trivial⟩ R ⟨.row flr3,trivial⟩ (fun _ _ _ _ h=>h) ⟨⟨_,R,I4⟩,trivial⟩ I3 R) R (.op (O.bsF (r:=qI) (zs:=([0,2]:List Int)) bs32 R R (Gu.mk R R) R R R (.c .k (.c .k .n)) R R R) R (bS hm fun b1 X hm=> .op (O.caZ (y7w X) cf59 R R (Gu.mk R R) R ⟨⟨R,.hr R,trivial⟩,⟨R,LnL.rf⟩,trivial⟩ (fun _ _ _ _ _ h=>h) R) R (.pT R ((J b1 (oj hm)).sub [] R)))))
    ·refine .know (d:=58) R hc ?_;exact .sk R (.sk R (.sk R (.sk R (.pF R ((J false (oj hm)).sub [] R)))))
  ·intro I;rcases ifS eb11 with ⟨hc,hm⟩|⟨hc,hm⟩
   ·refine .know (d:=52) R hc ?_;exact .mg R (bS hm fun b4 s hm=> .op (O.ir sl91 (Gu.mk R R) R R R s R) R (.op (O.faR yaU (Gu.mk R R) R R) R (.op (O.ld nag4 (Gu.mk R R) R (.R R s lv100) R R) R (.pT R ((I b4.2.2.2.2.1 (oj hm)).sub [] R)))))
   ·refine .know (d:=52) R hc ?_;exact .sk R (.sk R (.sk R (.sk R (.pF R ((I false (oj hm)).sub [] R)))))
 ·intro H;rcases yEt (m.2==0) with hc|hc
  ·refine .know (d:=47) R hc ?_;exact .mg R (.op (O.lenH sl91 (Gu.mk R R) R R R) R (.bg R (.pT R ((H ((m.1.length:Int)==1) (andT hc).symm).sub [] R))))
  ·refine .know (d:=47) R hc ?_;exact .sk R (.sk R (.sk R (.pF R ((H false (andF hc).symm).sub [] R))))
def y4h(p0:((Int×y1d)×(Int×y1d)×Int)×Bool):Option PbT:=
 (y6j p0.1 p0.2).bind fun a=>
 some a
theorem y9x{p0:((Int×y1d)×(Int×y1d)×Int)×Bool}{r:PbT}(hm:y4h p0=some r):
  F0 47 [.a (lx84 p0)] [] (.g [lF qI r.1.1,lI r.1.2.1,lF qI r.1.2.2.1,lF qT r.1.2.2.2,lH 0,lI r.2.1.2.1,lH 1,lH 2,lH 3]) [rwI r.2.1.1,rwI r.2.1.2.2.1,ROW qT 124 r.2.1.2.2.2,rwI r.2.2]:=by
 refine Fw.mk2 Tryz.func47 Tryz.ntmps47 R (fun C=>?_) R;refine .sr (.bo 0 R (.al 1 zz37 R (.nr (.fa ykh R (.lg (lx30 p0.1) ag30 R (.B R) R (.fa yki R (.lb nag4 R (bS hm fun b c hm=> .op (O.ca (r':= .g [lF qI b.1.1,lI b.1.2.1,lF qI b.1.2.2.1,lF qT b.1.2.2.2,lH 2,lI b.2.1.2.1,lH 3,lH 4,lH 5]) [2,3,4,5] [(0,rwI b.2.1.1),(1,rwI b.2.1.2.2.1),(2,ROW qT 124 b.2.1.2.2.2),(3,rwI b.2.2)] (some 6) (yat c) cf16 R R Z R R R R ⟨⟨_,R,I4⟩,⟨_,R,I4⟩,⟨_,R,I4⟩,⟨_,R,I4⟩,trivial⟩ I3 R) R (.st ag37.sz R (.ns (.ret ?_)))))))))));cases hm;exact .rr [2,3,4,5] Tryz.results47 (.cell R R ag37 R .nil) R I3 ⟨⟨_,R,I4⟩,⟨_,R,I4⟩,⟨_,R,I4⟩,⟨_,R,I4⟩,trivial⟩
def y3F(p0:List Int)(p1:Int)(a:Int):Option (Int⊕(Unit⊕Unit)):=
 if decide (a<(p0.length:Int)) then
  (idx p0 a).bind fun b=>
  if(b==p1) then
   some (.inr (.inr (())))
  else
   some (.inl (W (a+1)))
 else
  some (.inr (.inl ()))
def y1n(p0:List Int)(p1:Int):Option Bool:=
 (iter (y3F p0 p1) 0).bind fun a=>
 match a with
 | .inl b=>
  some false
 | .inr (c)=>
  some true
theorem y5K{p0:List Int}{p1:Int}{r:Bool}(hm:y1n p0 p1=some r):
  F0 54 [.f qI p0,.i p1] [] (.b r) []:=by
 refine Fw.mk2 Tryz.func54 Tryz.ntmps54 R (fun C=>?_) R;refine .sr (.an R (.seq (.sr (.an R (.block (bS hm fun k g hm=>?_))))));refine .cutU (z:= .exit 0) (fun d=> .inl d=k) (fun (d:Unit)=>⟨[],[],0⟩) ?_ fun K6=>?_
 ·rintro d rfl;dsimp only at hm;refine .blkE (.seqN (.sr (.an R (.ret ?_))));cases hm;exact .rr [] Tryz.results54 (.tmp R .nil) R I3 trivial
 refine .cutU (z:= .ret) (fun e=> .inr (e)=k) (fun (e:Unit)=>⟨[(4,.b true)],[],0⟩) ?_ fun K8=>?_
 ·rintro e rfl;dsimp only at hm;refine .blkR (.seqR ?_);cases hm;exact .rr [] Tryz.results54 (.tmp R .nil) R I3 trivial
 refine .iter (fun (c:Int)=>⟨[(5,.i c),(0,.f qI p0),(1,.i p1)],[],0⟩) g [] R ?_;intro c l hm j a;refine .seq (.sr (.mv R (.mv R (.ln sl32 R (.bi R (.ns ?_))))));refine .cc hm R (fun hm=>?_) fun hm=> .exit (.seqX (.seqX ((K6 _ (a _ (oj hm))).sub [] R)));refine .skip (.seqN (.seq (.block (.sr (.mv R (.mv R (bS hm fun m h hm=> .ix sl32 h R (.le nag3 lv3 R (.mv R (.bi R (.ns ?_)))))))))));exact .cc hm R (fun hm=> .sr (.an R (.ret (.blkR (.seqR (.seqR ((K8 _ (a _ (oj hm))).sub [] R))))))) fun hm=> .skip (.blkN (.seqN (.reg (.mv R (.bi R (.sa R (.nil ((j _ (oj hm)).sub [] R))))))))
def y3t(a:Int×List Int)(b:List Int):Option ((Int×List Int)⊕(List Int)):=
 some (.inl (W (a.1+1),b))
def y3u(p0:PbT)(a:Int×List Int):Option ((Int×List Int)⊕(List Int)):=
 if decide (a.1<(p0.2.1.1.length:Int)) then
  (idx p0.2.1.1 a.1).bind fun c=>
  (y1n p0.2.2 c).bind fun b=>
  if(!b) then
   (idx p0.2.1.1 a.1).bind fun d=>
   (app a.2 ([d]:List Int)).bind fun e=>
   y3t a e
  else
   y3t a a.2
 else
  some (.inr a.2)
def y6w(p0:PbT):Option (List Int):=
 (iter (y3u p0) (0,([]:List Int))).bind fun a=>
 some a
def y5L(p0:PbT):Option Int:=
 (y8B p0).bind fun a=>
 if(a != 0) then
  some a
 else
  if(p0.1.2.1==0) then
   some 12
  else
   (y6w p0).bind fun b=>
   (yM p0.2.1 b).bind fun c=>
   some c.2
def yP(a:Int×List Int)(b:List Int):Option ((Int×List Int)⊕(List Int)):=
 some (.inl (W (a.1+1),b))
def y3l(p0:PbT)(p1:Int)(p2:Bool)(a:Int×List Int):Option ((Int×List Int)⊕(List Int)):=
 if((decide (a.1<(p0.1.1.length:Int)))&&(decide ((a.2.length:Int)<3))) then
  (idx p0.1.1 a.1).bind fun b=>
  (y1n p0.2.2 b).bind fun d=>
  (if d then
   (ng a.1).bind fun _=>
   some ((IntKind.u8.wrap (((BitVec.ofInt 8 (p1.fdiv (2 ^ (min a.1.toNat 8))) &&& BitVec.ofInt 8 1).toNat:Int)))==1)
  else
   some false).bind fun c=>
  if c then
   if p2 then
    (app ([b]:List Int) a.2).bind fun e=>
    yP a e
   else
    (app a.2 ([b]:List Int)).bind fun f=>
    yP a f
  else
   yP a a.2
 else
  some (.inr a.2)
def y4A(p0:PbT)(p1:Int)(p2:Bool):Option (List Int):=
 (iter (y3l p0 p1 p2) (0,([]:List Int))).bind fun a=>
 some a
theorem y8e{p0:PbT}{p1:Int}{p2:Bool}{r:List Int}(hm:y4A p0 p1 p2=some r):
  F0 126 [.a (lx37 p0),.o (lV (.int .u8 p1)),.b p2] [] (.h 0) [rwI r]:=by
 refine Fw.mk2 Tryz.func126 Tryz.ntmps126 R (fun C=>?_) R;refine .sr (.bo 0 R (.an R (.sr (.an R (.seq (.sr (.an R (.block (bS hm fun j v hm=>?_)))))))));refine .cut1 (z:= .exit 0) j (fun (j:List Int)=>⟨[(7,.h 0)],[(0,rwI j)],1⟩) ?_ fun F=>?_
 ·skip
  refine .blkE (.seqN (.sr (.mv R (.an R (.ret ?_)))));cases hm;exact .rr [0] Tryz.results126 (.tmp R .nil) R I3 ⟨⟨_,R,I4⟩,trivial⟩
 refine .nlg qI 3 7 0 R R (.iter (fun (e:Int×List Int)=>⟨[(8,.i e.1),(7,.h 0),(3,.q 1 0),(1,.o (lV (.int .u8 p1))),(2,.b p2)],[(0,rwI e.2),(1,.bx 37 (lx37 p0))],2⟩) v [(0,1),(1,0)] R ?_);intro e s hm E D;refine .seq (.sr (.mv R (.fa y3Q R (.fa yz R (.lb nag32 R (.ln sl32 R (.bi R (.mv R ?_))))))));refine .cut 4 (fun (l:Bool)=>((decide (e.1<(p0.1.1.length:Int)))&&(decide ((e.2.length:Int)<3)))=l) (fun l=>⟨[(20,.b l),(8,.i e.1),(7,.h 0),(3,.q 1 0),(1,.o (lV (.int .u8 p1))),(2,.b p2)],[(0,rwI e.2),(1,.bx 37 (lx37 p0))],2⟩) ?_ ?_
 ·rintro _ rfl;refine .ns ?_;refine .cc hm R (fun hm=>?_) fun hm=> .exit (.seqX (.seqX ((F _ (D _ (oj hm))).sub [] R)));refine .skip (.seqN ?_);refine .join1 (fun (g:List Int)=>yP e g=some s) (fun g=>⟨[(7,.h 0),(8,.i e.1),(3,.q 1 0),(1,.o (lV (.int .u8 p1))),(2,.b p2)],[(0,rwI g),(1,.bx 37 (lx37 p0))],2⟩) ?_ ?_
  ·intro g hm;exact .reg (.mv R (.bi R (.sa R (.nil ((E _ (oj hm)).sub [] R)))))
  ·intro f;refine .block (.sr (.fa y3Q R (.fa yz R (.lb nag32 R (.mv R (bS hm fun p x hm=> .ix sl32 x R (.le nag3 lv3 R (.an R (.sr (.fa y8y R (.lb nag32 R (.mv R (bS hm fun I w hm=> .c0 (y5K w) cf54 R (.mv R (bS hm fun G eb26 hm=>?_)))))))))))))));refine .cut 6 (fun (m:Bool)=>G=m) (fun m=>⟨[(39,.b m),(9,.i p),(8,.i e.1),(7,.h 0),(3,.q 1 0),(1,.o (lV (.int .u8 p1))),(2,.b p2)],[(0,rwI e.2),(1,.bx 37 (lx37 p0))],2⟩) ?_ ?_
   ·rintro _ rfl;refine .ns ?_;refine .cc hm R (fun hm=>?_) fun hm=> .skip (.blkN ((f _ hm).sub [] R));refine .sr (.mv R (.ns ?_));exact .cc hm R (fun hm=> .reg (.mv R (.op (O.bsO (r:=qI) (zs:=([p]:List Int)) 2 R bs32 R R Z R R R (.c .k .n) R R R) R (.mv R (bS hm fun J y hm=> .op (O.ap 3 Tryz.underlying32 el3 R R Z R R (.ow R R) y R) R (.sa R (.nil (.blkN ((f _ hm).sub [(0,3)] R))))))))) fun hm=> .reg (.mv R (.mv R (.bf (r:=qI) ([p]:List Int) bs32 R (.c .k .n) R (bS hm fun K B hm=> .op (O.ap 2 Tryz.underlying32 el3 R R Z R R (.fr R) B R) R (.sa R (.nil (.blkN ((f _ hm).sub [(0,2)] R))))))))
   ·intro u;rcases ifS eb26 with ⟨hc,hm⟩|⟨hc,hm⟩
    ·refine .know (d:=33) R hc ?_;exact .mg R (.mg R (bS hm fun _ H hm=> .op (O.shr (Gu.mk R R) R R (ydu H) R) R (.bg R (.bg R (.pT R ((u ((IntKind.u8.wrap (((BitVec.ofInt 8 (p1.fdiv (2 ^ (min e.1.toNat 8))) &&& BitVec.ofInt 8 1).toNat:Int)))==1) (oj hm)).sub [] R))))))
    ·refine .know (d:=33) R hc ?_;exact .sk R (.sk R (.sk R (.sk R (.sk R (.pF R ((u false (oj hm)).sub [] R))))))
 ·intro t;rcases yEt (decide (e.1<(p0.1.1.length:Int))) with hc|hc
  ·refine .know (d:=16) R hc ?_;exact .mg R (.op (O.lenH sl32 (Gu.mk R R) R R R) R (.bg R (.pT R ((t (decide ((e.2.length:Int)<3)) (andT hc).symm).sub [] R))))
  ·refine .know (d:=16) R hc ?_;exact .sk R (.sk R (.sk R (.pF R ((t false (andF hc).symm).sub [] R))))
def y1H(a:Int×(List CycT))(c:List Int)(d:List Int)(b:Int):Option ((Int×(List CycT))⊕(List CycT)):=
 (app a.2 ([(c,d,b)]:List CycT)).bind fun e=>
 some (.inl (W (a.1+1),e))
def y1I(p1:PbT)(a:Int×(List CycT))(b:List Int)(c:List Int)(e:Int×Int×Int×Int)(d:Bool):Option ((Int×(List CycT))⊕(List CycT)):=
 if d then
  (idx p1.1.1 ((W e.2.2.2).tmod 6)).bind fun f=>
  y1H a b c f
 else
  y1H a b c (-1)
def y2P(p0:List (Int×Int×Int×Int))(p1:PbT)(a:Int×(List CycT)):Option ((Int×(List CycT))⊕(List CycT)):=
 if((decide (a.1<(p0.length:Int)))&&(decide (a.1<8))) then
  (idx p0 a.1).bind fun f=>
  (idx p0 a.1).bind fun g=>
  (y4A p1 f.1 ((g.2.2.1.tmod 2)==1)).bind fun c=>
  (idx p0 a.1).bind fun h=>
  (idx p0 a.1).bind fun i=>
  (y4A p1 h.2.1 (((IntKind.u8.wrap (i.2.2.1.tdiv 2)).tmod 2)==1)).bind fun d=>
  (idx p0 a.1).bind fun b=>
  if decide (((W b.2.2.2).tmod 6)<(p1.1.1.length:Int)) then
   (idx p1.1.1 ((W b.2.2.2).tmod 6)).bind fun j=>
   (y1n p1.2.2 j).bind fun e=>
   y1I p1 a c d b (!e)
  else
   y1I p1 a c d b false
 else
  some (.inr a.2)
def y3M(p0:List (Int×Int×Int×Int))(p1:PbT):Option (List CycT):=
 (iter (y2P p0 p1) (0,([]:List CycT))).bind fun a=>
 some a
theorem y9i{p0:List (Int×Int×Int×Int)}{p1:PbT}{r:(List CycT)}(hm:y3M p0 p1=some r):
  F0 52 [.f rE209 p0,.a (lx37 p1)] [] (.h 0) [ROW rE114 114 r]:=by
 refine Fw.mk2 Tryz.func52 Tryz.ntmps52 R (fun C=>?_) R;refine .sr (.bo 0 R (.an R (.sr (.an R (.seq (.sr (.an R (.block (bS hm fun y G hm=>?_)))))))));refine .cut1 (z:= .exit 0) y (fun (y:(List CycT))=>⟨[(5,.h 0)],[(0,ROW rE114 114 y)],1⟩) ?_ fun X=>?_
 ·skip
  refine .blkE (.seqN (.sr (.mv R (.an R (.ret ?_)))));cases hm;exact .rr [0] Tryz.results52 (.tmp R .nil) R I3 ⟨⟨_,R,I4⟩,trivial⟩
 refine .nlg rE114 114 5 0 R R (.iter (fun (e:Int×(List CycT))=>⟨[(6,.i e.1),(5,.h 0),(3,.q 1 0),(0,.f rE209 p0)],[(0,ROW rE114 114 e.2),(1,.bx 37 (lx37 p1))],2⟩) G [(0,1),(1,0)] R ?_);intro e u hm V U;refine .seq (.sr (.mv R (.mv R (.ln sl86 R (.bi R (.mv R ?_))))));refine .cut 3 (fun (D:Bool)=>((decide (e.1<(p0.length:Int)))&&(decide (e.1<8)))=D) (fun D=>⟨[(16,.b D),(6,.i e.1),(5,.h 0),(3,.q 1 0),(0,.f rE209 p0)],[(0,ROW rE114 114 e.2),(1,.bx 37 (lx37 p1))],2⟩) ?_ ?_
 ·rintro _ rfl;refine .ns ?_;refine .cc hm R (fun hm=>?_) fun hm=> .exit (.seqX (.seqX ((X _ (U _ (oj hm))).sub [] R)));refine .skip (.seqN (.seq (.block (.seq ?_))));refine .sub (τ:=⟨[(6,.i e.1),(5,.h 0),(3,.q 1 0),(0,.f rE209 p0)],[(0,ROW rE114 114 e.2),(1,.bx 37 (lx37 p1))],2⟩) ?_ [] R;refine bS hm fun a0 K hm=>bS hm fun a1 L hm=>bS hm fun g H hm=>bS hm fun a2 M hm=>bS hm fun a3 N hm=>bS hm fun j I hm=>?_;refine .drz 5 [(30,4)] [(2,[],[],[]),(2,[],[],[]),(2,[],[],[]),(2,[oF,oT,oT],[],[]),(2,[oF,oT,oT,oT],[],[]),(2,[oF,oT,oT,oT,oT],[],[]),(2,[],[],[]),(2,[],[],[]),(2,[oF,oF,oF,oF,oF,oF,oT,oT],[],[]),(2,[oF,oF,oF,oF,oF,oF,oT,oT,oT],[],[]),(2,[oF,oF,oF,oF,oF,oF,oT,oT,oT,oT],[],[]),(2,[oF,oF,oF,oF,oF,oF,oT,oT,oT,oT,oT],[],[]),(2,[oF,oF,oF,oF,oF,oF,oT,oT,oT,oT,oT,oT],[],[]),(2,[oT,oT,oT,oT,oT,oT,oT,oT,oT,oT,oT,oT,oT],[],[]),(2,[],[],[]),(2,[],[],[]),(2,[],[],[]),(2,[oF,oF,oF,oF,oF,oF,oF,oF,oF,oF,oF,oF,oF,oF,oF,oT,oT],[],[]),(2,[oF,oF,oF,oF,oF,oF,oF,oF,oF,oF,oF,oF,oF,oF,oF,oT,oT,oT],[],[]),(2,[oF,oF,oF,oF,oF,oF,oF,oF,oF,oF,oF,oF,oF,oF,oF,oT,oT,oT,oT],[],[]),(2,[],[],[]),(2,[],[],[]),(2,[oF,oF,oF,oF,oF,oF,oF,oF,oF,oF,oF,oF,oF,oF,oF,oF,oF,oF,oF,oF,oT,oT],[],[]),(2,[oF,oF,oF,oF,oF,oF,oF,oF,oF,oF,oF,oF,oF,oF,oF,oF,oF,oF,oF,oF,oT,oT,oT],[],[]),(2,[oF,oF,oF,oF,oF,oF,oF,oF,oF,oF,oF,oF,oF,oF,oF,oF,oF,oF,oF,oF,oT,oT,oT,oT],[],[]),(2,[oF,oF,oF,oF,oF,oF,oF,oF,oF,oF,oF,oF,oF,oF,oF,oF,oF,oF,oF,oF,oT,oT,oT,oT,oT],[],[]),(2,[oF,oF,oF,oF,oF,oF,oF,oF,oF,oF,oF,oF,oF,oF,oF,oF,oF,oF,oF,oF,oT,oT,oT,oT,oT,oT],[],[]),(2,[oF,oF,oF,oF,oF,oF,oF,oF,oF,oF,oF,oF,oF,oF,oF,oF,oF,oF,oF,oF,oT,oT,oT,oT,oT,oT,oT],[],[]),(3,[oT,oT,oT,oT,oT,oT,oT,oT,oT,oT,oT,oT,oT,oT,oT,oT,oT,oT,oT,oT,oT,oT,oT,oT,oT,oT,oT,oT],[],[]),(4,[oT,oT,oT,oT,oT,oT,oT,oT,oT,oT,oT,oT,oT,oT,oT,oT,oT,oT,oT,oT,oT,oT,oT,oT,oT,oT,oT,oT,oT],[],[]),(2,[],[],[]),(5,[oT,oT,oT,oT,oT,oT,oT,oT,oT,oT,oT,oT,oT,oT,oT,oT,oT,oT,oT,oT,oT,oT,oT,oT,oT,oT,oT,oT,oT,oT,oT],[],[])] [_,_,_,_,_,_,_,_,_,_,_,_,_,_,_,_,_,_,_,_,_,_,_,_,_,_,_,_,_,_,_,_] ⟨[(7,.q 4 0),(6,.i e.1),(5,.h 0),(3,.q 1 0),(0,.f rE209 p0)],[(4,.bx 114 [lH 2,lH 3,lI (-1)]),(2,rwI g),(3,rwI j),(0,ROW rE114 114 e.2),(1,.bx 37 (lx37 p1))],5⟩ ⟨O.lg (l':=(lx37 p1)) ag37 Z R (.B R) R R R,O.mv Z R R,O.mv Z R R,O.ix sl86 Z R R K R,O.faE yjA Z R R,O.ld nag5 Z R (.E lv209) R R,O.mv Z R R,O.mv Z R R,O.ix sl86 Z R R L R,O.faE yg1 Z R R,O.ld nag5 Z R (.E lv209) R R,O.rem Z R R (by decide) R,O.bi Z R R R R,O.ca (r':= .h 2) [2] [(0,rwI g)] (some 3) (y8e H) cf126 R R Z R R R R ⟨⟨_,R,I4⟩,trivial⟩ I3 R,O.lg (l':=(lx37 p1)) ag37 Z R (.B R) R R R,O.mv Z R R,O.mv Z R R,O.ix sl86 Z R R M R,O.faE yjB Z R R,O.ld nag5 Z R (.E lv209) R R,O.mv Z R R,O.mv Z R R,O.ix sl86 Z R R N R,O.faE yg1 Z R R,O.ld nag5 Z R (.E lv209) R R,O.quo Z R R (by decide) R,O.rem Z R R (by decide) R,O.bi Z R R R R,O.ca (r':= .h 3) [3] [(0,rwI j)] (some 4) (y8e I) cf126 R R Z R R R R ⟨⟨_,R,I4⟩,trivial⟩ I3 R,O.bu (l:=[lH 2,lH 3,lI (-1)]) pl114 R Z R R R,O.al 4 R zz114 R Z R,O.st ag114.sz Z R R R R R,trivial⟩ (by kernel_rfl) R ?_
  refine .seqN ?_;refine .join1 (fun (m:Int)=>y1H e g j m=some u) (fun m=>⟨[(7,.q 0 0),(6,.i e.1),(5,.h 3),(3,.q 4 0),(0,.f rE209 p0)],[(0,.bx 114 [lH 1,lH 2,lI m]),(1,rwI g),(2,rwI j),(3,ROW rE114 114 e.2),(4,.bx 37 (lx37 p1))],5⟩) ?_ ?_
  ·intro m hm;exact .reg (.mv R (.lg [lH 1,lH 2,lI m] ag114 R (.B R) R (.fz 1 [82] [0] R R fR R R (.fz 2 [82] [0] R R fR R R (.bf (r:=rE114) ([(g,j,m)]:List CycT) bs94 R (.c (.p .l (.p .l .k)) .n) R (bS hm fun a4 P hm=> .op (O.ap 5 Tryz.underlying94 el114 R R Z R R (.fr R) P R) R (.sa R (.nil (.blkN (.seqN (.reg (.mv R (.bi R (.sa R (.nil ((V _ (oj hm)).sub [(0,5),(1,4)] R))))))))))))))))
  ·intro v;refine .sr (.mv R (.mv R (bS hm fun o Q hm=> .ix sl86 Q R (.fe yjC R (.le nag5 lv209 R (.op (O.cv Tryz.underlying5 Tryz.underlying3 Z R R) R (.op (O.rem Z R R (by decide) R) R (.an R ?_))))))));refine .join1 (fun (t:Bool)=>y1I p1 e g j o t=some u) (fun t=>⟨[(73,.b t),(8,.i ((W o.2.2.2).tmod 6)),(7,.q 0 0),(6,.i e.1),(5,.h 3),(3,.q 4 0),(0,.f rE209 p0)],[(0,.bx 114 [lH 1,lH 2,lI (-1)]),(1,rwI g),(2,rwI j),(3,ROW rE114 114 e.2),(4,.bx 37 (lx37 p1))],5⟩) ?_ ?_
   ·intro t hm;exact .cc hm R (fun hm=> .reg (.fa y3Q R (.fa yz R (.lb nag32 R (.mv R (bS hm fun a5 S hm=> .ix sl32 S R (.le nag3 lv3 R (.fa y8R R (.st nag3.sz R (.nil ((v _ hm).sub [] R))))))))))) fun hm=> .skip ((v _ hm).sub [] R)
   ·intro w;refine .sub (τ:=⟨[(8,.i ((W o.2.2.2).tmod 6)),(7,.q 4 0),(6,.i e.1),(5,.h 0),(3,.q 1 0),(0,.f rE209 p0)],[(4,.bx 114 [lH 2,lH 3,lI (-1)]),(2,rwI g),(3,rwI j),(0,ROW rE114 114 e.2),(1,.bx 37 (lx37 p1))],5⟩) ?_ [] R;refine .drP 6 [(5,[]),(5,[]),(5,[oF,oT]),(5,[oF,oT,oT]),(5,fA 1 (tT 3)),(5,tT 5)] [_,_,_,_,_,_] ⟨O.mv Z R R,O.faP y3Q Z R R,O.faP yz Z R R,O.ld nag32 Z R (.B R) R R,O.len sl32 Z R R,O.bi Z R R R R,trivial⟩ fun x=>?_;rcases ifS hm with ⟨s,hm⟩|⟨s,hm⟩
    ·skip
     exact bS hm fun a6 T hm=>bS hm fun Y J hm=> .drF x [(5,tT 6),(5,tT 7),(5,tT 8),(5,tT 7),(5,tA 7 (fA 2 (tT 1))),(5,tA 7 (fA 2 (tT 2))),(5,tT 7),(5,tA 7 (fA 2 (tT 4))),(5,tA 7 (fA 2 (tT 5))),(5,tT 15),(5,tT 16),(5,tT 17)] [_,_,_,_,_,_,_,_,_,_,_,_] ⟨[(73,.b (!Y)),(8,.i ((W o.2.2.2).tmod 6)),(7,.q 4 0),(6,.i e.1),(5,.h 0),(3,.q 1 0),(0,.f rE209 p0)],[(4,.bx 114 [lH 2,lH 3,lI (-1)]),(2,rwI g),(3,rwI j),(0,ROW rE114 114 e.2),(1,.bx 37 (lx37 p1))],5⟩ ⟨O.kn (O.mv Z R R) s,O.faP y8y (Gu.mk R R) R R,O.ld nag32 (Gu.mk R R) R (.B R) R R,O.faP y3Q (Gu.mk R R) R R,O.faP yz (Gu.mk R R) R R,O.ld nag32 (Gu.mk R R) R (.B R) R R,O.mv (Gu.mk R R) R R,O.ix sl32 (Gu.mk R R) R R T R,O.ld nag3 (Gu.mk R R) R (.E lv3) R R,O.ca0 (y5K J) cf54 R R (Gu.mk R R) R R R,O.not (Gu.mk R R) R R,O.pkT Z R R R R,trivial⟩ (by kernel_rfl) R ((w _ hm).sub [(0,4),(1,2),(2,3),(3,0),(4,1)] R)
    ·skip
     exact .drF x [(5,tT 6),(5,tT 7),(5,tT 8),(5,tT 7),(5,tA 7 (fA 2 (tT 1))),(5,tA 7 (fA 2 (tT 2))),(5,tT 7),(5,tA 7 (fA 2 (tT 4))),(5,tA 7 (fA 2 (tT 5))),(5,tT 15),(5,tT 16),(5,tT 17)] [_,_,_,_,_,_,_,_,_,_,_,_] ⟨[(73,.b false),(8,.i ((W o.2.2.2).tmod 6)),(7,.q 4 0),(6,.i e.1),(5,.h 0),(3,.q 1 0),(0,.f rE209 p0)],[(4,.bx 114 [lH 2,lH 3,lI (-1)]),(2,rwI g),(3,rwI j),(0,ROW rE114 114 e.2),(1,.bx 37 (lx37 p1))],5⟩ ⟨O.kn (O.mv Z R R) s,O.skip R R R R,O.skip R R R R,O.skip R R R R,O.skip R R R R,O.skip R R R R,O.skip R R R R,O.skip R R R R,O.skip R R R R,O.skip R R R R,O.skip R R R R,O.pkF Z R R R R,trivial⟩ (by kernel_rfl) R ((w _ hm).sub [(0,4),(1,2),(2,3),(3,0),(4,1)] R)
 ·intro F;rcases yEt (decide (e.1<(p0.length:Int))) with hc|hc
  ·refine .know (d:=13) R hc ?_;exact .mg R (.bg R (.pT R ((F (decide (e.1<8)) (andT hc).symm).sub [] R)))
  ·refine .know (d:=13) R hc ?_;exact .sk R (.sk R (.pF R ((F false (andF hc).symm).sub [] R)))
def y4B(p0:PbT):Option (List Int):=
 some p0.2.2
theorem y8m{p0:PbT}{r:List Int}(hm:y4B p0=some r):
  F0 67 [.a (lx37 p0)] [] (.f qI r) []:=by
 refine Fw.mk2 Tryz.func67 Tryz.ntmps67 R (fun C=>?_) R;refine .sr (.bo 0 R (.an R (.sr (.fa y8y R (.lb nag32 R (.an R (.ret ?_)))))));cases hm;exact .rr [] Tryz.results67 (.tmp R .nil) R I3 trivial
def y7X(p0:AutT)(a:Int×(List KeyT)):Option ((Int×(List KeyT))⊕(List KeyT)):=
 if decide (a.1<(p0.2.2.2.length:Int)) then
  (idx p0.2.2.2 a.1).bind fun b=>
  some (.inl (W (a.1+1),(kput a.2 (b.1,b.2.1) b.2.2)))
 else
  some (.inr a.2)
def y4C(p0:AutT):Option (List KeyT):=
 (iter (y7X p0) (0,([]:List KeyT))).bind fun a=>
 some a
theorem y8f{p0:AutT}{r:(List KeyT)}(hm:y4C p0=some r):
  F0 193 [.a (lx35 p0)] [] (.o (lM kvP qI r)) []:=by
 refine Fw.mk2 Tryz.func193 Tryz.ntmps193 R (fun C=>?_) R;refine .sr (.bo 0 R (.an R (.sr (.op (O.mk2 (kv:=kvP) (r:=qI) 1 R Z R) R (.an R (.seq (.sr (.fa yB R (.lb nag33 R (.ln sl33 R (.mv R (.ns (.block (bS hm fun d e hm=>?_))))))))))))));refine .cut1 (z:= .exit 0) d (fun (d:(List KeyT))=>⟨[(3,.h 0)],[(0,MAP kvP qI 139 d)],1⟩) ?_ fun K8=>?_
 ·skip
  refine .blkE (.seqN (.sr (.mv R (.an R (.ret (.fz 0 [2] [] R R fM R R ?_))))));cases hm;exact .rr [] Tryz.results193 (.tmp R .nil) R I3 trivial
 refine .iter (fun (c:Int×(List KeyT))=>⟨[(10,.i c.1),(9,.i p0.2.2.2.length),(8,.f qT p0.2.2.2),(3,.h 0)],[(0,MAP kvP qI 139 c.2)],1⟩) e [(0,1)] R ?_;intro c m hm l j;refine .sr (.bi R (.ns (.seq ?_)));exact .cc hm R (fun hm=> .skip (.seqN (.seq (.block (.sr (bS hm fun b g hm=> .ix sl33 g R (.lg [lI b.1,lI b.2.1,lI b.2.2] ag124 R (.E lv124) R (.al 1 zz124 R (.st ag124.sz R (.ns (.reg (.mv R (.fa y1A R (.lb nag3 R (.fa y2I R (.lb nag3 R (.bu [lI b.1,lI b.2.1] pl241 R (.fa y2J R (.lb nag3 R (.op (O.mu (k:=(b.1,b.2.1)) (v:=b.2.2) md139 (fun _ _=>eqP) Z R R (.a R R) R .k) R (.nil (.blkN (.seqN (.reg (.bi R (.mv R (.nil ((l _ (oj hm)).sub [] R)))))))))))))))))))))))))))) fun hm=> .exit (.seqX (.seqX ((K8 _ (j _ (oj hm))).sub [] R)))
def y3G(p0:AutT)(p1:AutT)(a:Int):Option (Int⊕(Unit⊕Int)):=
 if decide (a<(([p0,p1]:List AutT).length:Int)) then
  (idx ([p0,p1]:List AutT) a).bind fun c=>
  (y1p c).bind fun b=>
  if(b != 0) then
   some (.inr (.inr (b)))
  else
   some (.inl (W (a+1)))
 else
  some (.inr (.inl ()))
def y6F(p0:AutT)(p1:AutT)(p2:List Int):Option ((Option ((List KeyT)×(List KeyT)×List Int×List Int×AutT×List (List Int)))×Int):=
 (iter (y3G p0 p1) 0).bind fun h=>
 match h with
 | .inl i=>
  (y1l p2 32).bind fun f=>
  if(f != 0) then
   some (none,f)
  else
   (yA p1.1 p0.1).bind fun b=>
   if(!b) then
    some (none,9)
   else
    (yo ([p0,p1]:List AutT)).bind fun a=>
    if(a.2.2 != 0) then
     some (none,a.2.2)
    else
     (y4C p0).bind fun c=>
     (y4C p1).bind fun d=>
     (y3d p2 p0.1).bind fun e=>
     some ((some (c,d,p1.1,e,a.1,a.2.1)),0)
 | .inr (g)=>
  some (none,g)
theorem yb4{p0:AutT}{p1:AutT}{p2:List Int}{r:(Option ((List KeyT)×(List KeyT)×List Int×List Int×AutT×List (List Int)))×Int}(hm:y6F p0 p1 p2=some r):
    F0 138 [.a (lx35 p0),.a (lx35 p1),.f qI p2] [] (.tp [.o (lK rE221 221 r.1),.i r.2]) []:=by
  refine Fw.mk2 Tryz.func138 Tryz.ntmps138 R (fun C=>?_) R;refine .sr (.bo 0 R (.bo 1 R (.sa R (.an R (.seq (.sr (.lg (lx35 p0) ag35 R (.B R) R (.lg (lx35 p1) ag35 R (.B R) R (.op (O.bsF (r:=rE35) (zs:=([p0,p1]:List AutT)) bs66 R R Z R R R (.c (.p .l (.p .k (.p .l .l))) (.c (.p .l (.p .k (.p .l .l))) .n)) R R R) R (.ln sl66 R (.mv R (.ns (.block (bS hm fun M J hm=>?_))))))))))))));refine .cutU (z:= .exit 0) (fun H=> .inl H=M) (fun (H:Unit)=>⟨[(4,.q 0 0),(3,.q 1 0),(2,.f qI p2)],[(0,.bx 35 (lx35 p1)),(1,.bx 35 (lx35 p0))],2⟩) ?_ fun K8=>?_
  · rintro H rfl;dsimp only at hm;refine .blkE (.seqN (.seq (.sr (.mv R (bS hm fun S K hm=> .c0 (y2K K) cf25 R (.an R (.sr (.mv R (.bi R (.ns ?_))))))))));refine .cc hm R (fun hm=>?_) fun hm=>?_
    ·refine .sr (.mv R (.sa R (.an R (.ret (.seqR (.cnt 6 R (.c (.pn (r:=rE221) (T:=221)) .n) R ?_))))));cases hm;exact .rr [] Tryz.results138 (.tmp R (.tmp R .nil)) R I3 trivial
    ·refine .skip (.seqN (.seq (.sr (.fa yz R (.lb nag32 R (.fa yz R (.lb nag32 R (bS hm fun P v hm=> .c0 (y6y v) cf26 R (.no R (.ns ?_))))))))));refine .cc hm R (fun hm=>?_) fun hm=>?_
     ·refine .sr (.sa R (.an R (.ret (.seqR (.cnt 6 R (.c (.pn (r:=rE221) (T:=221)) .n) R ?_)))));cases hm;exact .rr [] Tryz.results138 (.tmp R (.tmp R .nil)) R I3 trivial
     ·refine .skip (.seqN (.sr (.lg (lx35 p0) ag35 R (.B R) R (.lg (lx35 p1) ag35 R (.B R) R (.op (O.bsF (r:=rE35) (zs:=([p0,p1]:List AutT)) bs66 R R Z R R R (.c (.p .l (.p .k (.p .l .l))) (.c (.p .l (.p .k (.p .l .l))) .n)) R R R) R (bS hm fun b w hm=> .op (O.ca (r':= .tp [.a [lH 2,lI b.1.2.1,lH 3,lH 4],.h 5,.i b.2.2]) [2,3,4,5] [(0,rwI b.1.1),(1,rwI b.1.2.2.1),(2,ROW qT 124 b.1.2.2.2),(3,ROW (rL qI) 32 b.2.1)] (some 6) (y6H w) cf32 R R Z R R R R ⟨⟨_,R,I4⟩,⟨_,R,I4⟩,⟨_,R,I4⟩,⟨_,R,I4⟩,trivial⟩ I3 R) R (.mv R (.ex R (.ex R (.ex R (.al 6 zz35 R (.st ag35.sz R (.sa R (.an R (.seq (.sr (.mv R (.bi R (.ns ?_)))))))))))))))))));refine .cc hm R (fun hm=>?_) fun hm=>?_
      ·refine .sr (.mv R (.sa R (.an R (.ret (.seqR (.cnt 6 R (.c (.pn (r:=rE221) (T:=221)) .n) R ?_))))));cases hm;exact .rr [] Tryz.results138 (.tmp R (.tmp R .nil)) R I3 trivial
      ·refine .skip (.seqN (.seq ?_));refine .sub (τ:=⟨[(13,.h 5),(12,.q 6 0),(4,.q 0 0),(3,.q 1 0),(2,.f qI p2)],[(5,ROW (rL qI) 32 b.2.1),(6,.bx 35 [lH 2,lI b.1.2.1,lH 3,lH 4]),(2,rwI b.1.1),(3,rwI b.1.2.2.1),(4,ROW qT 124 b.1.2.2.2),(0,.bx 35 (lx35 p1)),(1,.bx 35 (lx35 p0))],7⟩) ?_ [] R;refine bS hm fun g x hm=>bS hm fun j y hm=>bS hm fun s D hm=>?_;refine .drw [(7,[]),(7,[oT]),(7,[]),(7,tT 3),(7,[]),(7,[oF,oF,oF,oF,oT]),(7,[]),(7,[]),(7,[oF,oF,oF,oF,oF,oF,oF,oT]),(7,tA 4 (fA 2 (tT 3))),(7,[]),(7,[]),(8,tT 12),(8,tT 13),(9,tT 14),(9,tT 15)] [_,_,_,_,_,_,_,_,_,_,_,_,_,_,_,_] ⟨[(7,.i 0),(6,.q 8 0)],[(8,.bx 221 [lM kvP qI g,lM kvP qI j,lF qI p1.1,lH 7,lH 2,lI b.1.2.1,lH 3,lH 4,lH 5]),(7,rwI s),(2,rwI b.1.1),(3,rwI b.1.2.2.1),(4,ROW qT 124 b.1.2.2.2),(5,ROW (rL qI) 32 b.2.1)],9⟩ ⟨O.lg (l':=(lx35 p0)) ag35 Z R (.B R) R R R,O.ca0 (y8f x) cf193 R R Z R R R,O.lg (l':=(lx35 p1)) ag35 Z R (.B R) R R R,O.ca0 (y8f y) cf193 R R Z R R R,O.faP yz Z R R,O.ld nag32 Z R (.B R) R R,O.mv Z R R,O.faP yz Z R R,O.ld nag32 Z R (.B R) R R,O.ca (r':= .h 7) [7] [(0,rwI s)] (some 8) (y6V D) cf145 R R Z R R R R ⟨⟨_,R,I4⟩,trivial⟩ I3 R,O.lg (l':=[lH 2,lI b.1.2.1,lH 3,lH 4]) ag35 Z R (.B R) R R R,O.mv Z R R,O.bu (l:=[lM kvP qI g,lM kvP qI j,lF qI p1.1,lH 7,lH 2,lI b.1.2.1,lH 3,lH 4,lH 5]) pl221 R Z R R R,O.box 8 R Z R R R,O.as Z R R,O.as Z R R,trivial⟩ (by kernel_rfl) R ?_;refine .seqN (.ret (.fz 7 [] [8] R R fR R R (.fz 2 [] [8] R R fR R R (.fz 3 [] [8] R R fR R R (.fz 4 [] [8] R R fR R R (.fz 5 [] [8] R R fR R R (.fz 8 [6] [] R R fB R R (.cnt 6 R (.c (.pk (r:=rE221) (.p .m (.p .m (.p .l (.p .l (.p (.p .l (.p .k (.p .l .l))) .l)))))) .n) R ?_))))))));cases hm;exact .rr [] Tryz.results138 (.tmp R (.tmp R .nil)) R I3 trivial
  refine .cutU (z:= .ret) (fun d=> .inr (d)=M) (fun (d:Int)=>⟨[(7,.i d),(6,.o (lV (.pointer none)))],[],0⟩) ?_ fun I=>?_
  · rintro d rfl;dsimp only at hm;refine .blkR (.seqR (.cnt 6 R (.c (.pn (r:=rE221) (T:=221)) .n) R ?_));cases hm;exact .rr [] Tryz.results138 (.tmp R (.tmp R .nil)) R I3 trivial
  refine .iter (fun (t:Int)=>⟨[(19,.i t),(18,.i (([p0,p1]:List AutT).length:Int)),(17,.f rE35 ([p0,p1]:List AutT)),(4,.q 0 0),(3,.q 1 0),(2,.f qI p2)],[(0,.bx 35 (lx35 p1)),(1,.bx 35 (lx35 p0))],2⟩) J [(0,1),(1,0)] R ?_;intro t N hm L e;refine .sr (.bi R (.ns (.seq ?_)));refine .cc hm R (fun hm=>?_) fun hm=> .exit (.seqX (.seqX ((K8 _ (e _ (oj hm))).sub [] R)));refine .skip (.seqN (.seq (.block (.sr (bS hm fun u G hm=> .ix sl66 G R (.lg (lx35 u) ag35 R (.E lv35) R (.al 2 zz35 R (.st ag35.sz R (.nr (.lg (lx35 u) ag35 R (.B R) R (bS hm fun Q F hm=> .c0 (y4R F) cf101 R (.an R (.sr (.mv R (.bi R (.ns ?_))))))))))))))));exact .cc hm R (fun hm=> .sr (.mv R (.sa R (.an R (.ret (.blkR (.seqR (.seqR ((I _ (e _ (oj hm))).sub [] R))))))))) fun hm=> .skip (.blkN (.seqN (.reg (.bi R (.mv R (.nil ((L _ (oj hm)).sub [] R)))))))
def y1V(p0:(List KeyT)×(List KeyT)×List Int×List Int×AutT×List (List Int))(p1:Int)(a:Int):Option (Int⊕(Unit⊕Int)):=
 if decide (a<(p0.2.2.2.1.length:Int)) then
  (idx p0.2.2.2.1 a).bind fun b=>
  (idx p0.2.2.2.2.2 p1).bind fun e=>
  (idx e 0).bind fun f=>
  (idx p0.2.2.2.2.2 p1).bind fun g=>
  (idx g 1).bind fun h=>
  (if (((kget p0.1 (f,b)).isSome)&&(!((kget p0.2.1 (h,b)).isSome))) then
   (y1m p0.2.2.1 b).bind fun d=>
   some d
  else
   some false).bind fun c=>
  if c then
   some (.inr (.inr (b)))
  else
   some (.inl (W (a+1)))
 else
  some (.inr (.inl ()))
def y2H(p0:(List KeyT)×(List KeyT)×List Int×List Int×AutT×List (List Int))(p1:Int):Option Int:=
 (iter (y1V p0 p1) 0).bind fun a=>
 match a with
 | .inl c=>
  some (-1)
 | .inr (b)=>
  some b
theorem y8n{p0:(List KeyT)×(List KeyT)×List Int×List Int×AutT×List (List Int)}{p1:Int}{r:Int}(hm:y2H p0 p1=some r):
  F0 139 [.o (lQ 221 (lx221 p0) 0),.i p1] [] (.i r) []:=by
 refine Fw.mk2 Tryz.func139 Tryz.ntmps139 R (fun C=>?_) R;refine .sr (.an R (.seq (.sr (.mv R (.op (O.nc .Q Z R R) R (.fq yjG R (.lq nag32 R (.ln sl32 R (.mv R (.ns (.block (bS hm fun u v hm=>?_))))))))))));refine .cutU (z:= .exit 0) (fun n=> .inl n=u) (fun (n:Unit)=>⟨[],[],0⟩) ?_ fun H=>?_
 ·rintro n rfl;dsimp only at hm;refine .blkE (.seqN (.sr (.an R (.ret ?_))));cases hm;exact .rr [] Tryz.results139 (.tmp R .nil) R I3 trivial
 refine .cutU (z:= .ret) (fun j=> .inr (j)=u) (fun (j:Int)=>⟨[(4,.i j)],[],0⟩) ?_ fun I=>?_
 ·rintro j rfl;dsimp only at hm;refine .blkR (.seqR ?_);cases hm;exact .rr [] Tryz.results139 (.tmp R .nil) R I3 trivial
 refine .iter (fun (e:Int)=>⟨[(16,.i e),(15,.i p0.2.2.2.1.length),(14,.f qI p0.2.2.2.1),(0,.o (lQ 221 (lx221 p0) 0)),(1,.i p1)],[],0⟩) v [] R ?_;intro e L hm G m;refine .sr (.bi R (.ns (.seq ?_)));refine .cc hm R (fun hm=>?_) fun hm=> .exit (.seqX (.seqX ((H _ (m _ (oj hm))).sub [] R)));refine .skip (.seqN (.seq (.block (.sr (bS hm fun c x hm=> .ix sl32 x R (.le nag3 lv3 R (.an R (.seq ?_))))))));refine .sub (τ:=⟨[(6,.i c),(16,.i e),(15,.i p0.2.2.2.1.length),(14,.f qI p0.2.2.2.1),(0,.o (lQ 221 (lx221 p0) 0)),(1,.i p1)],[],0⟩) ?_ [] R;refine bS hm fun M y hm=>bS hm fun g B hm=>?_;refine .drw [(0,[]),(0,[oT]),(0,[oT,oT]),(0,tT 3),(0,[]),(0,[oF,oF,oF,oF,oT]),(0,[oF,oF,oF,oF,oT,oT]),(0,fA 4 (tT 3)),(0,[]),(0,fA 4 (tT 5)),(0,fA 4 (tT 6)),(0,fA 4 (tT 7)),(0,fA 4 (tT 8)),(0,[]),(0,fA 4 (tT 10)),(0,tT 15),(0,tT 16),(0,tT 17),(0,tT 17),(0,tT 18),(0,tT 20)] [_,_,_,_,_,_,_,_,_,_,_,_,_,_,_,_,_,_,_,_,_] ⟨[(8,.b ((kget p0.1 (g,c)).isSome)),(6,.i c),(16,.i e),(15,.i p0.2.2.2.1.length),(14,.f qI p0.2.2.2.1),(0,.o (lQ 221 (lx221 p0) 0)),(1,.i p1)],[],0⟩ ⟨O.mv Z R R,O.nc .Q Z R R,O.faQ yjD Z R R,O.ld ybT Z R .Q R R,O.mv Z R R,O.nc .Q Z R R,O.faQ yg2 Z R R,O.ld nag53 Z R .Q R R,O.mv Z R R,O.ix sl53 Z R R y R,O.ld nag32 Z R (.E lv32) R R,O.ix sl32 Z R R B R,O.ld nag3 Z R (.E lv3) R R,O.mv Z R R,O.bu (l:=[lI g,lI c]) pl241 R Z R R R,O.mi2 (k:=(g,c)) md139 Z (.fr R) (.a R R) R,O.mv Z R R,O.ex Z R R R,O.ex Z R R R,O.as Z R R,O.as Z R R,trivial⟩ (by kernel_rfl) R ?_;refine .seqN (.seq ?_);refine .sub (τ:=⟨[(8,.b ((kget p0.1 (g,c)).isSome)),(6,.i c),(16,.i e),(15,.i p0.2.2.2.1.length),(14,.f qI p0.2.2.2.1),(0,.o (lQ 221 (lx221 p0) 0)),(1,.i p1)],[],0⟩) ?_ [] R;refine bS hm fun N D hm=>bS hm fun h F hm=>?_;refine .drw [(0,[]),(0,[oT]),(0,[oT,oT]),(0,tT 3),(0,[]),(0,[oF,oF,oF,oF,oT]),(0,[oF,oF,oF,oF,oT,oT]),(0,fA 4 (tT 3)),(0,[]),(0,fA 4 (tT 5)),(0,fA 4 (tT 6)),(0,fA 4 (tT 7)),(0,fA 4 (tT 8)),(0,[]),(0,fA 4 (tT 10)),(0,tT 15),(0,tT 16),(0,tT 17),(0,tT 17),(0,tT 18),(0,tT 20)] [_,_,_,_,_,_,_,_,_,_,_,_,_,_,_,_,_,_,_,_,_] ⟨[(10,.b ((kget p0.2.1 (h,c)).isSome)),(8,.b ((kget p0.1 (g,c)).isSome)),(6,.i c),(16,.i e),(15,.i p0.2.2.2.1.length),(14,.f qI p0.2.2.2.1),(0,.o (lQ 221 (lx221 p0) 0)),(1,.i p1)],[],0⟩ ⟨O.mv Z R R,O.nc .Q Z R R,O.faQ yjE Z R R,O.ld ybT Z R .Q R R,O.mv Z R R,O.nc .Q Z R R,O.faQ yg2 Z R R,O.ld nag53 Z R .Q R R,O.mv Z R R,O.ix sl53 Z R R D R,O.ld nag32 Z R (.E lv32) R R,O.ix sl32 Z R R F R,O.ld nag3 Z R (.E lv3) R R,O.mv Z R R,O.bu (l:=[lI h,lI c]) pl241 R Z R R R,O.mi2 (k:=(h,c)) md139 Z (.fr R) (.a R R) R,O.mv Z R R,O.ex Z R R R,O.ex Z R R R,O.as Z R R,O.as Z R R,trivial⟩ (by kernel_rfl) R ?_;refine .seqN (.sr (.mv R (.mv R ?_)));refine .cut 3 (fun (p:Bool)=>(((kget p0.1 (g,c)).isSome)&&(!((kget p0.2.1 (h,c)).isSome)))=p) (fun p=>⟨[(62,.b p),(6,.i c),(16,.i e),(15,.i p0.2.2.2.1.length),(14,.f qI p0.2.2.2.1),(0,.o (lQ 221 (lx221 p0) 0)),(1,.i p1)],[],0⟩) ?_ ?_
 ·rintro _ rfl;refine .mv R (bS hm fun J eb27 hm=>?_);refine .cut 7 (fun (q:Bool)=>J=q) (fun q=>⟨[(70,.b q),(6,.i c),(16,.i e),(15,.i p0.2.2.2.1.length),(14,.f qI p0.2.2.2.1),(0,.o (lQ 221 (lx221 p0) 0)),(1,.i p1)],[],0⟩) ?_ ?_
  ·rintro _ rfl;exact .ns (.cc hm R (fun hm=> .sr (.mv R (.an R (.ret (.blkR (.seqR (.seqR ((I _ (m _ (oj hm))).sub [] R)))))))) fun hm=> .skip (.blkN (.seqN (.reg (.bi R (.mv R (.nil ((G _ (oj hm)).sub [] R))))))))
  ·intro t;rcases ifS eb27 with ⟨hc,hm⟩|⟨hc,hm⟩
   ·refine .know (d:=63) R hc ?_;exact .mg R (.op (O.nc .Q (Gu.mk R R) R R) R (.op (O.faQ yjF (Gu.mk R R) R R) R (.op (O.ld nag32 (Gu.mk R R) R .Q R R) R (.mg R (bS hm fun K w hm=> .op (O.ca0 (y3S w) cf94 R R (Gu.mk R R) R R R) R (.pT R ((t K (oj hm)).sub [] R)))))))
   ·refine .know (d:=63) R hc ?_;exact .sk R (.sk R (.sk R (.sk R (.sk R (.sk R (.pF R ((t false (oj hm)).sub [] R)))))))
 ·intro s;rcases yEt ((kget p0.1 (g,c)).isSome) with hc|hc
  ·refine .know (d:=59) R hc ?_;exact .mg R (.op (O.not (Gu.mk R R) R R) R (.pT R ((s (!((kget p0.2.1 (h,c)).isSome)) (andT hc).symm).sub [] R)))
  ·refine .know (d:=59) R hc ?_;exact .sk R (.sk R (.pF R ((s false (andF hc).symm).sub [] R)))
def y6X(a:Int)(p0:Int×Int×Int):Option Bool:=
 some (p0.2.2==a)
theorem yac{c:Int}{p0:Int×Int×Int}{r:Bool}(hm:y6X c p0=some r):
  F0 141 [.a [lI p0.1,lI p0.2.1,lI p0.2.2],.o (lQ 3 [lI c] 0)] [] (.b r) []:=by
 refine Fw.mk2 Tryz.func141 Tryz.ntmps141 R (fun C=>?_) R;refine .sr (.bo 0 R (.an R (.sr (.fa y2J R (.lb nag3 R (.lq nag3 R (.bi R (.an R (.ret ?_)))))))));cases hm;exact .rr [] Tryz.results141 (.tmp R .nil) R I3 trivial
def y3m(c:(List KeyT)×(List KeyT)×List Int×List Int×AutT×List (List Int))(a:Int×List Int):Option ((Int×List Int)⊕(List Int)):=
 if decide (a.1>0) then
  (yv c.2.2.2.2.1.2.2.2 (y6X a.1)).bind fun b=>
  (idx c.2.2.2.2.1.2.2.2 b).bind fun d=>
  (app a.2 ([d.2.1]:List Int)).bind fun e=>
  (idx c.2.2.2.2.1.2.2.2 b).bind fun f=>
  some (.inl (f.1,e))
 else
  some (.inr a.2)
def y4O(c:(List KeyT)×(List KeyT)×List Int×List Int×AutT×List (List Int))(a:Int):Option (Int⊕(Unit⊕(Int×List Int))):=
 if decide (a<c.2.2.2.2.1.2.1) then
  (y2H c a).bind fun b=>
  if decide (b<0) then
   some (.inl (W (a+1)))
  else
   (iter (y3m c) (a,([]:List Int))).bind fun d=>
   (y1w d).bind fun e=>
   some (.inr (.inr ((b,e))))
 else
  some (.inr (.inl ()))
def y6p(p0:AutT)(p1:AutT)(p2:List Int):Option (List Int×Int×Bool×Int):=
 (y6F p0 p1 p2).bind fun b=>
 if(b.2 != 0) then
  some (([]:List Int),0,false,b.2)
 else
  b.1.bind fun d=>
  (iter (y4O d) 0).bind fun c=>
  match c with
  | .inl e=>
   some (([]:List Int),0,true,0)
  | .inr (a)=>
   some (a.2,a.1,false,0)
theorem yaw{p0:AutT}{p1:AutT}{p2:List Int}{r:List Int×Int×Bool×Int}(hm:y6p p0 p1 p2=some r):
    F0 66 [.a (lx35 p0),.a (lx35 p1),.f qI p2] [] (.tp [.h 0,.i r.2.1,.b r.2.2.1,.i r.2.2.2]) [rwI r.1]:=by
  refine Fw.mk2 Tryz.func66 Tryz.ntmps66 R (fun C=>?_) R;refine .sr (.bo 0 R (.bo 1 R (.sa R (.sa R (.sa R (.an R (.sr (.lg (lx35 p0) ag35 R (.B R) R (.lg (lx35 p1) ag35 R (.B R) R (.mv R (bS hm fun r1 S hm=> .c0 (yb4 S) cf138 R (.mv R (.ex R (.ex R (.sa R (.an R (.seq (.sr (.mv R (.bi R (.ns ?_)))))))))))))))))))));refine .cc hm R (fun hm=>?_) fun hm=>?_
  ·refine .sr (.mv R (.sa R (.sa R (.sa R (.an R (.ret (.seqR (.nlg qI 3 6 0 R R ?_))))))));cases hm;exact .rr [2] Tryz.results66 (.tmp R (.tmp R (.tmp R (.tmp R .nil)))) R I3 ⟨⟨_,R,I4⟩,trivial⟩
  ·refine .skip (.seqN (.seq (.sr (.mv R (bS hm fun L g hm=> .cnt 24 R (.c (.pd g lv221) .n) R (.cnt 10 R (.c (.pd g lv221) .n) R (.cnt 19 R (.c (.pd g lv221) .n) R (.op (O.nc .Q Z R R) R (.fq ycm R (.fq y1W R (.lq nag3 R (.mv R (.ns (.block (bS hm fun t v hm=>?_)))))))))))))));refine .cutU (z:= .exit 0) (fun s=> .inl s=t) (fun (s:Unit)=>⟨[],[],0⟩) ?_ fun M=>?_
   · rintro s rfl;dsimp only at hm;refine .blkE (.seqN (.sr (.sa R (.sa R (.sa R (.an R (.ret (.nlg qI 3 6 0 R R ?_))))))));cases hm;exact .rr [0] Tryz.results66 (.tmp R (.tmp R (.tmp R (.tmp R .nil)))) R I3 ⟨⟨_,R,I4⟩,trivial⟩
   refine .cutU (z:= .ret) (fun e=> .inr (e)=t) (fun (e:Int×List Int)=>⟨[(9,.i 0),(8,.b false),(7,.i e.1),(6,.h 0)],[(0,rwI e.2)],1⟩) ?_ fun N=>?_
   · rintro e rfl;dsimp only at hm;refine .blkR (.seqR ?_);cases hm;exact .rr [0] Tryz.results66 (.tmp R (.tmp R (.tmp R (.tmp R .nil)))) R I3 ⟨⟨_,R,I4⟩,trivial⟩
   refine .iter (fun (p:Int)=>⟨[(29,.i p),(28,.i L.2.2.2.2.1.2.1),(10,.o (lQ 221 (lx221 L) 0)),(6,.o (lN))],[],0⟩) v [] R ?_;intro p V hm J j;refine .sr (.bi R (.ns (.seq ?_)));refine .cc hm R (fun hm=>?_) fun hm=> .exit (.seqX (.seqX ((M _ (j _ (oj hm))).sub [] R)));refine .skip (.seqN (.seq (.block (.sr (.mv R (.al 0 zz3 R (.st nag3.sz R (.nr (.mv R (.lb nag3 R (bS hm fun u y hm=> .c0 (y8n y) cf139 R (.an R (.seq (.sr (.mv R (.bi R (.ns ?_)))))))))))))))));refine .cc hm R (fun hm=> .exit (.seqX (.blkE (.seqN (.reg (.bi R (.mv R (.nil ((J _ (oj hm)).sub [] R))))))))) fun hm=>?_;refine .skip (.seqN (.seq (.block (bS hm fun m w hm=>?_))));refine .cut1 (z:= .exit 2) m (fun (m:List Int)=>⟨[(12,.i u),(6,.h 0)],[(0,rwI m)],1⟩) ?_ fun P=>?_
   · skip
     exact .blkE (.seqN (.sr (.mv R (bS hm fun T D hm=> .op (O.ca (r':= .tp []) [0] [(0,rwI T)] none (y8a D) cf142 R R Z R R R R ⟨⟨_,R,I4⟩,trivial⟩ I3 R) R (.nr (.mv R (.mv R (.sa R (.sa R (.sa R (.an R (.ret (.blkR (.seqR (.seqR ((N _ (j _ (oj hm))).sub [] R))))))))))))))))
   refine .nlg qI 3 6 0 R R (.iter (fun (d:Int×List Int)=>⟨[(12,.i u),(11,.q 0 0),(10,.o (lQ 221 (lx221 L) 0)),(6,.h 1)],[(0,.bx 3 [lI d.1]),(1,rwI d.2)],2⟩) w [] R ?_);intro d W hm K I;refine .seq (.sr (.lb nag3 R (.bi R (.ns ?_))));refine .cc hm R (fun hm=>?_) fun hm=> .exit (.seqX (.seqX ((P _ (I _ (oj hm))).sub [(0,1)] R)));refine .skip (.seqN (.block (.sr (.mv R (.op (O.nc .Q Z R R) R (.fq ycm R (.fq yB R (.lq nag33 R (.op (O.mz (l:=[lP 0 0]) Z R R) R (bS hm fun X E hm=> .op (O.caZ (y2C E) cf140 R R Z R ⟨⟨R,LnL.rf⟩,⟨R,(.z (l':=[lQ 3 [lI d.1] 0]) cf141 (fun x r h=>yac h) (fun _=>R) R ⟨(.q R LnL.rf),trivial⟩),trivial⟩,trivial⟩ (fun _ _ _ _ _ h=>h) R) R (.an R (.sr (.mv R (.mv R (.op (O.nc .Q Z R R) R (.fq ycm R (.fq yB R (.lq nag33 R (.mv R (bS hm fun U F hm=> .ix sl33 F R (.fe y2I R (.le nag3 lv124 R (.bf (r:=qI) ([U.2.1]:List Int) bs32 R (.c .k .n) R (bS hm fun Y G hm=> .op (O.ap 2 Tryz.underlying32 el3 R R Z R R (.fr R) G R) R (.an R (.reg (.mv R (.op (O.nc .Q Z R R) R (.fq ycm R (.fq yB R ?_))))))))))))))))))))))))))))));exact .lq nag33 R (.mv R (bS hm fun a0 H hm=> .ix sl33 H R (.fe y1A R (.le nag3 lv124 R (.st nag3.sz R (.nil (.blkN ((K _ (oj hm)).sub [(1,2)] R))))))))
def y3b(b:Int×Int)(a:Int):Option ((Int×Int)⊕Int):=
 some (.inl (W (b.1+1),a))
def y3c(p0:AutT)(p2:List Int)(a:Int×Int):Option ((Int×Int)⊕Int):=
 if decide (a.1<(p2.length:Int)) then
  (idx p2 a.1).bind fun c=>
  (y1x p0 a.2 c).bind fun b=>
  if decide (b≥0) then
   y3b a b
  else
   y3b a a.2
 else
  some (.inr a.2)
def y5M(p0:AutT)(p1:Int)(p2:List Int):Option Int:=
 (iter (y3c p0 p2) (0,p1)).bind fun a=>
 some a
theorem yak{p0:AutT}{p1:Int}{p2:List Int}{r:Int}(hm:y5M p0 p1 p2=some r):
  F0 68 [.a (lx35 p0),.i p1,.f qI p2] [] (.i r) []:=by
 refine Fw.mk2 Tryz.func68 Tryz.ntmps68 R (fun C=>?_) R;refine .sr (.bo 0 R (.an R (.seq (.sr (.an R (.block (bS hm fun h m hm=>?_)))))));refine .cut1 (z:= .exit 0) h (fun (h:Int)=>⟨[(1,.i h)],[],0⟩) ?_ fun k=>?_
 ·skip
  refine .blkE (.seqN (.sr (.mv R (.an R (.ret ?_)))));cases hm;exact .rr [] Tryz.results68 (.tmp R .nil) R I3 trivial
 refine .iter (fun (b:Int×Int)=>⟨[(7,.i b.1),(3,.q 0 0),(1,.i b.2),(2,.f qI p2)],[(0,.bx 35 (lx35 p0))],1⟩) m [] R ?_;intro b j hm o n;refine .seq (.sr (.mv R (.mv R (.ln sl32 R (.bi R (.ns ?_))))));refine .cc hm R (fun hm=>?_) fun hm=> .exit (.seqX (.seqX ((k _ (n _ (oj hm))).sub [] R)));refine .skip (.seqN ?_);refine .join1 (fun (c:Int)=>y3b b c=some j) (fun c=>⟨[(1,.i c),(7,.i b.1),(3,.q 0 0),(2,.f qI p2)],[(0,.bx 35 (lx35 p0))],1⟩) ?_ ?_
 ·intro c hm;exact .reg (.mv R (.bi R (.sa R (.nil ((o _ (oj hm)).sub [] R)))))
 ·intro d;refine .block (.seq ?_);refine .sub (τ:=⟨[(7,.i b.1),(3,.q 0 0),(1,.i b.2),(2,.f qI p2)],[(0,.bx 35 (lx35 p0))],1⟩) ?_ [] R;refine bS hm fun s g hm=>bS hm fun p e hm=>?_;refine .drw [(1,[]),(1,[]),(1,[]),(1,[]),(1,[oF,oF,oT,oT]),(1,fA 2 (tT 3)),(1,tT 6),(1,tT 7)] [_,_,_,_,_,_,_,_] ⟨[(8,.i p),(7,.i b.1),(3,.q 0 0),(1,.i b.2),(2,.f qI p2)],[(0,.bx 35 (lx35 p0))],1⟩ ⟨O.lg (l':=(lx35 p0)) ag35 Z R (.B R) R R R,O.mv Z R R,O.mv Z R R,O.mv Z R R,O.ix sl32 Z R R g R,O.ld nag3 Z R (.E lv3) R R,O.ca0 (y5k e) cf55 R R Z R R R,O.as Z R R,trivial⟩ (by kernel_rfl) R ?_;refine .seqN (.sr (.mv R (.bi R (.ns ?_))));exact .cc hm R (fun hm=> .reg (.mv R (.sa R (.nil (.blkN ((d _ hm).sub [] R)))))) fun hm=> .skip (.blkN ((d _ hm).sub [] R))
def yQ(a:Int×List Int)(b:List Int):Option ((Int×List Int)⊕(List Int)):=
 some (.inl (W (a.1+1),b))
def yR(d:PbT)(h:Int)(a:Int×List Int):Option ((Int×List Int)⊕(List Int)):=
 if decide (a.1<5) then
  (y1n d.2.1.1 a.1).bind fun i=>
  (if i then
   (y1n d.2.2 a.1).bind fun c=>
   some (!c)
  else
   some false).bind fun f=>
  (if f then
   (y1x d.2.1 h a.1).bind fun b=>
   some (decide (b≥0))
  else
   some false).bind fun g=>
  if g then
   (app a.2 ([a.1]:List Int)).bind fun e=>
   yQ a e
  else
   yQ a a.2
 else
  some (.inr a.2)
def y1L(d:PbT)(b:(List StpT)×Int)(a:Int×Int):Option ((Int×Int)⊕(Unit⊕Unit)):=
 if decide (a.1<(b.1.length:Int)) then
  (idx b.1 a.1).bind fun g=>
  (y5M d.2.1 a.2 g.1).bind fun e=>
  (iter (yR d e) (0,([]:List Int))).bind fun c=>
  (idx b.1 a.1).bind fun h=>
  (y3a h.2.2.1 c).bind fun f=>
  if(!f) then
   some (.inr (.inr (())))
  else
   (idx b.1 a.1).bind fun i=>
   some (.inl (W (a.1+1),i.2.2.2.2.2.1))
 else
  some (.inr (.inl ()))
def y4i(p0:((Int×y1d)×(Int×y1d)×Int)×Bool)(p1:List (Int×Int×Int×Int)):Option Bool:=
 (y7h).bind fun i=>
 if(!i) then
  some false
 else
  (y4h p0).bind fun a=>
  (yD a).bind fun j=>
  if(j != 0) then
   some true
  else
   (y4B a).bind fun k=>
   (y6p a.1 a.2.1 k).bind fun f=>
   (y7v a 3).bind fun g=>
   (y8h a).bind fun h=>
   if(((f.2.2.2 != 0)||(g.2.2 != 0))||(h.2.2 != 0)) then
    some false
   else
    if(((!f.2.2.1)||(!g.2.1))||(!h.2.1)) then
     some true
    else
     (y3M p1 a).bind fun e=>
     (y5e a e).bind fun b=>
     (y2o a b.1).bind fun c=>
     if(((b.2 != 0)||(c.2.2.2 != 0))||c.2.2.1) then
      some false
     else
      (iter (y1L a b) (0,0)).bind fun d=>
      match d with
      | .inl l=>
       some true
      | .inr (m)=>
       some false
theorem y8g{p0:((Int×y1d)×(Int×y1d)×Int)×Bool}{p1:List (Int×Int×Int×Int)}{r:Bool}(hm:y4i p0 p1=some r):
    F0 13 [.a (lx84 p0),.f rE209 p1] [] (.b r) []:=by
  refine Fw.mk2 Tryz.func13 Tryz.ntmps13 R (fun C=>?_) R;refine .sr (.bo 0 R (.an R (.seq (.sr (bS hm fun r1 c4 hm=> .c0 (yaj c4) cf46 R (.no R (.ns ?_)))))));refine .cc hm R (fun hm=>?_) fun hm=>?_
  ·refine .sr (.an R (.ret (.seqR ?_)));cases hm;exact .rr [] Tryz.results13 (.tmp R .nil) R I3 trivial
  ·refine .skip (.seqN (.sr (.lg (lx84 p0) ag84 R (.B R) R (bS hm fun e c5 hm=> .op (O.ca (r':= .g [lF qI e.1.1,lI e.1.2.1,lF qI e.1.2.2.1,lF qT e.1.2.2.2,lH 1,lI e.2.1.2.1,lH 2,lH 3,lH 4]) [1,2,3,4] [(0,rwI e.2.1.1),(1,rwI e.2.1.2.2.1),(2,ROW qT 124 e.2.1.2.2.2),(3,rwI e.2.2)] (some 5) (y9x c5) cf47 R R Z R R R R ⟨⟨_,R,I4⟩,⟨_,R,I4⟩,⟨_,R,I4⟩,⟨_,R,I4⟩,trivial⟩ I3 R) R (.al 5 zz37 R (.st ag37.sz R (.ns (.seq (.sr (.lg [lF qI e.1.1,lI e.1.2.1,lF qI e.1.2.2.1,lF qT e.1.2.2.2,lH 1,lI e.2.1.2.1,lH 2,lH 3,lH 4] ag37 R (.B R) R (bS hm fun r3 c6 hm=> .op (O.caZ (y7m c6) cf62 R R Z R ⟨⟨R,.rf,.rf,.rf,.rf,.hr R,.rf,.hr R,.hr R,.hr R,trivial⟩,trivial⟩ (fun _ _ _ _ _ h=>h) R) R (.bi R (.ns ?_)))))))))))));refine .cc hm R (fun hm=>?_) fun hm=>?_
   ·refine .sr (.an R (.ret (.seqR ?_)));cases hm;exact .rr [] Tryz.results13 (.tmp R .nil) R I3 trivial
   ·refine .skip (.seqN (.seq (.fz 1 [30,29] [5] R R fR R R (.fz 2 [30,29] [5] R R fR R R (.fz 3 [30,29] [5] R R fR R R (.fz 4 [30,29] [5] R R fR R R ?_))))));refine .sub (τ:=⟨[(5,.q 5 0),(1,.f rE209 p1)],[(5,.bx 37 (lx37 e))],6⟩) ?_ [] R;refine bS hm fun r4 c7 hm=>bS hm fun p c8 hm=>?_;refine .drw [(6,[]),(6,[oT]),(6,[]),(6,[oF,oF,oT]),(6,[]),(6,[oF,oF,oF,oF,oT]),(6,tT 6),(7,tT 7),(7,tT 8),(7,tT 8),(7,tT 8),(7,tT 8),(7,tT 9),(7,tA 10 (fA 2 (tT 1))),(7,tA 11 (fA 1 (tT 2))),(7,tT 15)] [_,_,_,_,_,_,_,_,_,_,_,_,_,_,_,_] ⟨[(9,.i p.2.2.2),(8,.b p.2.2.1),(5,.q 5 0),(1,.f rE209 p1)],[(5,.bx 37 (lx37 e))],7⟩ ⟨O.faP y3Q Z R R,O.lg (l':=(lx35 e.1)) ag35 Z R (.B R) R R R,O.faP y5Z Z R R,O.lg (l':=(lx35 e.2.1)) ag35 Z R (.B R) R R R,O.lg (l':=(lx37 e)) ag37 Z R (.B R) R R R,O.ca0 (y8m c7) cf67 R R Z R R R,O.ca (r':= .tp [.h 6,.i p.2.1,.b p.2.2.1,.i p.2.2.2]) [6] [(0,rwI p.1)] (some 7) (yaw c8) cf66 R R Z R R R R ⟨⟨_,R,I4⟩,trivial⟩ I3 R,O.mv Z R R,O.ex Z R R R,O.ex Z R R R,O.ex Z R R R,O.ex Z R R R,O.as Z R R,O.as Z R R,O.as Z R R,O.as Z R R,trivial⟩ (by kernel_rfl) R ?_;refine .seqN (.sr (.lg (lx37 e) ag37 R (.B R) R (bS hm fun s c9 hm=> .op (O.ca (r':= .tp [.a [lI s.1.1,lH 7,lF qI s.1.2.2],.b s.2.1,.i s.2.2]) [7] [(0,rwI s.1.2.1)] (some 8) (ydi c9) cf36 R R Z R R R R ⟨⟨_,R,I4⟩,trivial⟩ I3 R) R (.mv R (.ex R (.ex R (.ex R (.al 8 zz44 R (.st ag44.sz R (.sa R (.an R (.sr (.lg (lx37 e) ag37 R (.B R) R (bS hm fun t d0 hm=> .op (O.ca (r':= .tp [.a [lI t.1.1,lH 9,lF qI t.1.2.2],.b t.2.1,.i t.2.2]) [9] [(0,rwI t.1.2.1)] (some 10) (ydj d0) cf30 R R Z R R R R ⟨⟨_,R,I4⟩,trivial⟩ I3 R) R (.mv R (.ex R (.ex R (.ex R (.al 10 zz44 R (.st ag44.sz R (.sa R (.an R (.seq (.sr (.mv R (.bi R (.mv R ?_)))))))))))))))))))))))))));refine .cut 3 (fun (v8:Bool)=>((p.2.2.2 != 0)||(s.2.2 != 0))=v8) (fun v8=>⟨[(62,.b v8),(15,.i t.2.2),(14,.b t.2.1),(11,.b s.2.1),(8,.b p.2.2.1),(5,.q 5 0),(1,.f rE209 p1)],[(5,.bx 37 (lx37 e))],11⟩) ?_ ?_
    · rintro _ rfl;refine .mv R ?_;refine .cut 3 (fun (K:Bool)=>(((p.2.2.2 != 0)||(s.2.2 != 0))||(t.2.2 != 0))=K) (fun K=>⟨[(66,.b K),(14,.b t.2.1),(11,.b s.2.1),(8,.b p.2.2.1),(5,.q 5 0),(1,.f rE209 p1)],[(5,.bx 37 (lx37 e))],11⟩) ?_ ?_
      · rintro _ rfl;refine .ns ?_;refine .cc hm R (fun hm=>?_) fun hm=>?_
        ·refine .sr (.an R (.ret (.seqR ?_)));cases hm;exact .rr [] Tryz.results13 (.tmp R .nil) R I3 trivial
        ·refine .skip (.seqN (.seq (.sr (.mv R (.no R (.mv R ?_))))));refine .cut 3 (fun (L:Bool)=>((!p.2.2.1)||(!s.2.1))=L) (fun L=>⟨[(72,.b L),(14,.b t.2.1),(5,.q 5 0),(1,.f rE209 p1)],[(5,.bx 37 (lx37 e))],11⟩) ?_ ?_
         · rintro _ rfl;refine .mv R ?_;refine .cut 3 (fun (M:Bool)=>(((!p.2.2.1)||(!s.2.1))||(!t.2.1))=M) (fun M=>⟨[(76,.b M),(5,.q 5 0),(1,.f rE209 p1)],[(5,.bx 37 (lx37 e))],11⟩) ?_ ?_
           · rintro _ rfl;refine .ns ?_;refine .cc hm R (fun hm=>?_) fun hm=>?_
             ·refine .sr (.an R (.ret (.seqR ?_)));cases hm;exact .rr [] Tryz.results13 (.tmp R .nil) R I3 trivial
             ·refine .skip (.seqN (.seq ?_));refine .sub (τ:=⟨[(5,.q 5 0),(1,.f rE209 p1)],[(5,.bx 37 (lx37 e))],11⟩) ?_ [] R;refine bS hm fun d1 a7 hm=>bS hm fun j a8 hm=>?_;refine .drw [(11,[]),(11,[]),(11,[]),(11,[oF,oT,oT]),(11,tT 4),(12,tT 5),(12,tT 6),(12,tT 6),(12,tT 7),(12,tT 9)] [_,_,_,_,_,_,_,_,_,_] ⟨[(17,.i j.2),(16,.h 11),(5,.q 5 0)],[(11,ROW rE100 100 j.1),(5,.bx 37 (lx37 e))],12⟩ ⟨O.lg (l':=(lx37 e)) ag37 Z R (.B R) R R R,O.mv Z R R,O.lg (l':=(lx37 e)) ag37 Z R (.B R) R R R,O.ca0 (r:= .f rE114 d1) (Fw.fz (y9i a7)) cf52 R R Z R R R,O.ca (r':= .tp [.h 11,.i j.2]) [11] [(0,ROW rE100 100 j.1)] (some 12) (y7O a8) cf57 R R Z R R R R ⟨⟨_,R,I4⟩,trivial⟩ I3 R,O.mv Z R R,O.ex Z R R R,O.ex Z R R R,O.as Z R R,O.as Z R R,trivial⟩ (by kernel_rfl) R ?_;refine .seqN (.sr (.lg (lx37 e) ag37 R (.B R) R (.mv R (bS hm fun u a9 hm=> .op (O.caZ (y6o a9) cf49 R R Z R ⟨⟨R,LnL.rf⟩,⟨R,.hr R,trivial⟩,trivial⟩ (fun _ _ _ _ _ h=>h) R) R (.mv R (.ex R (.ex R (.ex R (.ex R (.sa R (.sa R (.sa R (.an R (.seq (.sr (.mv R (.bi R (.mv R ?_))))))))))))))))));refine .cut 3 (fun (N:Bool)=>((j.2 != 0)||(u.2.2.2 != 0))=N) (fun N=>⟨[(98,.b N),(20,.b u.2.2.1),(16,.h 11),(5,.q 5 0)],[(11,ROW rE100 100 j.1),(5,.bx 37 (lx37 e))],12⟩) ?_ ?_
              · rintro _ rfl;refine .mv R ?_;refine .cut 2 (fun (P:Bool)=>(((j.2 != 0)||(u.2.2.2 != 0))||u.2.2.1)=P) (fun P=>⟨[(101,.b P),(16,.h 11),(5,.q 5 0)],[(11,ROW rE100 100 j.1),(5,.bx 37 (lx37 e))],12⟩) ?_ ?_
                · rintro _ rfl;refine .ns ?_;refine .cc hm R (fun hm=>?_) fun hm=>?_
                  ·refine .sr (.an R (.ret (.seqR ?_)));cases hm;exact .rr [] Tryz.results13 (.tmp R .nil) R I3 trivial
                  ·refine .skip (.seqN (.sr (.an R (.seq (.sr (.an R (.block (bS hm fun a4 a5 hm=>?_))))))));refine .cutU (z:= .exit 0) (fun I=> .inl I=a4) (fun (I:Unit)=>⟨[],[],0⟩) ?_ fun b8=>?_
                   · rintro I rfl;dsimp only at hm;refine .blkE (.seqN (.sr (.an R (.ret ?_))));cases hm;exact .rr [] Tryz.results13 (.tmp R .nil) R I3 trivial
                   refine .cutU (z:= .ret) (fun J=> .inr (J)=a4) (fun (J:Unit)=>⟨[(4,.b false)],[],0⟩) ?_ fun b9=>?_
                   · rintro J rfl;dsimp only at hm;refine .blkR (.seqR ?_);cases hm;exact .rr [] Tryz.results13 (.tmp R .nil) R I3 trivial
                   refine .iter (fun (m:Int×Int)=>⟨[(23,.i m.1),(22,.i m.2),(16,.h 0),(5,.q 1 0)],[(0,ROW rE100 100 j.1),(1,.bx 37 (lx37 e))],2⟩) a5 [(0,11),(1,5)] R ?_;intro m d2 hm b4 G;refine .seq (.sr (.mv R (.mv R (.lh sl91 R (.bi R (.ns ?_))))));refine .cc hm R (fun hm=>?_) fun hm=> .exit (.seqX (.seqX ((b8 _ (G _ (oj hm))).sub [] R)));refine .skip (.seqN (.seq (.block (.seq ?_))));refine .sub (τ:=⟨[(23,.i m.1),(22,.i m.2),(16,.h 0),(5,.q 1 0)],[(0,ROW rE100 100 j.1),(1,.bx 37 (lx37 e))],2⟩) ?_ [] R;refine bS hm fun d6 D hm=>bS hm fun v b0 hm=>?_;refine .drg 2 [(2,[]),(2,[oT]),(2,[]),(2,[]),(2,[]),(2,[oF,oF,oF,oT,oT]),(2,fA 3 (tT 3)),(2,fA 3 (tT 4)),(2,tT 8),(2,tT 9)] [_,_,_,_,_,_,_,_,_,_] ⟨[(22,.i v),(23,.i m.1),(16,.h 0),(5,.q 1 0)],[(0,ROW rE100 100 j.1),(1,.bx 37 (lx37 e))],2⟩ ⟨O.faP y5Z Z R R,O.lg (l':=(lx35 e.2.1)) ag35 Z R (.B R) R R R,O.mv Z R R,O.mv Z R R,O.mv Z R R,O.ir sl91 Z R R R D R,O.faR yaT Z R R,O.ld nag32 Z R (.R R D lv100) R R,O.ca0 (yak b0) cf68 R R Z R R R,O.as Z R R,trivial⟩ (by kernel_rfl) R ?_;refine .seqN (.sr (.an R (.seq (.sr (.an R (.block (bS hm fun H a6 hm=>?_)))))));refine .cut1 (z:= .exit 2) H (fun (H:List Int)=>⟨[(24,.h 0),(23,.i m.1),(16,.h 1),(5,.q 2 0)],[(0,rwI H),(1,ROW rE100 100 j.1),(2,.bx 37 (lx37 e))],3⟩) ?_ fun c1=>?_
                   · skip
                     refine .blkE (.seqN (.seq (.sr (.mv R (.mv R (bS hm fun d7 E hm=> .op (O.ir sl91 Z R R R E R) R (.op (O.faR ycl Z R R) R (.op (O.ld nag32 Z R (.R R E lv100) R R) R (.mv R (bS hm fun d4 b1 hm=> .op (O.caZ (y7w b1) cf59 R R Z R ⟨⟨R,LnL.rf⟩,⟨R,.hr R,trivial⟩,trivial⟩ (fun _ _ _ _ _ h=>h) R) R (.no R (.ns ?_))))))))))));exact .cc hm R (fun hm=> .sr (.an R (.ret (.seqR (.blkR (.seqR (.seqR ((b9 _ (G _ (oj hm))).sub [] R)))))))) fun hm=> .skip (.seqN (.reg (.mv R (.mv R (bS hm fun d8 F hm=> .op (O.ir sl91 Z R R R F R) R (.op (O.faR ydO Z R R) R (.op (O.ld nag3 Z R (.R R F lv100) R R) R (.sa R (.nil (.blkN (.seqN (.reg (.mv R (.bi R (.sa R (.nil ((b4 _ (oj hm)).sub [(0,1),(1,2)] R)))))))))))))))))
                   refine .nlg qI 3 24 0 R R (.iter (fun (o:Int×List Int)=>⟨[(25,.i o.1),(24,.h 0),(22,.i v),(23,.i m.1),(16,.h 1),(5,.q 2 0)],[(0,rwI o.2),(1,ROW rE100 100 j.1),(2,.bx 37 (lx37 e))],3⟩) a6 [(0,2),(1,0),(2,1)] R ?_);intro o W hm b5 b3;refine .seq (.sr (.mv R (.bi R (.ns ?_))));refine .cc hm R (fun hm=>?_) fun hm=> .exit (.seqX (.seqX ((c1 _ (b3 _ (oj hm))).sub [] R)));refine .skip (.seqN ?_);refine .join1 (fun (w:List Int)=>yQ o w=some W) (fun w=>⟨[(24,.h 0),(25,.i o.1),(22,.i v),(23,.i m.1),(16,.h 1),(5,.q 2 0)],[(0,rwI w),(1,ROW rE100 100 j.1),(2,.bx 37 (lx37 e))],3⟩) ?_ ?_
                   · intro w hm;exact .reg (.mv R (.bi R (.sa R (.nil ((b5 _ (oj hm)).sub [] R)))))
                   · intro y;refine .block (.sr (.fa y5Z R (.fa yz R (.lb nag32 R (.mv R (bS hm fun d5 b2 hm=> .c0 (y5K b2) cf54 R (.mv R (bS hm fun c2 eb95 hm=>?_))))))));refine .cut 6 (fun (Q:Bool)=>c2=Q) (fun Q=>⟨[(132,.b Q),(25,.i o.1),(24,.h 0),(22,.i v),(23,.i m.1),(16,.h 1),(5,.q 2 0)],[(0,rwI o.2),(1,ROW rE100 100 j.1),(2,.bx 37 (lx37 e))],3⟩) ?_ ?_
                     · rintro _ rfl;refine .mv R (bS hm fun c3 eb98 hm=>?_);refine .cut 7 (fun (S:Bool)=>c3=S) (fun S=>⟨[(140,.b S),(25,.i o.1),(24,.h 0),(22,.i v),(23,.i m.1),(16,.h 1),(5,.q 2 0)],[(0,rwI o.2),(1,ROW rE100 100 j.1),(2,.bx 37 (lx37 e))],3⟩) ?_ ?_
                       · rintro _ rfl;exact .ns (.cc hm R (fun hm=> .reg (.mv R (.mv R (.bf (r:=qI) ([o.1]:List Int) bs32 R (.c .k .n) R (bS hm fun d3 V hm=> .op (O.ap 3 Tryz.underlying32 el3 R R Z R R (.fr R) V R) R (.sa R (.nil (.blkN ((y _ hm).sub [(0,3)] R))))))))) fun hm=> .skip (.blkN ((y _ hm).sub [] R)))
                       · intro x;rcases ifS eb98 with ⟨hc,hm⟩|⟨hc,hm⟩
                         · refine .know (d:=133) R hc ?_;exact .fag y5Z R (.op (O.lg (l':=(lx35 e.2.1)) ag35 (Gu.mk R R) R (.B R) R R R) R (.mg R (.mg R (bS hm fun b6 T hm=> .op (O.ca0 (y5k T) cf55 R R (Gu.mk R R) R R R) R (.bg R (.pT R ((x (decide (b6≥0)) (oj hm)).sub [] R)))))))
                         · refine .know (d:=133) R hc ?_;exact .sk R (.sk R (.sk R (.sk R (.sk R (.sk R (.pF R ((x false (oj hm)).sub [] R)))))))
                     · intro a3;rcases ifS eb95 with ⟨hc,hm⟩|⟨hc,hm⟩
                       · refine .know (d:=126) R hc ?_;exact .fag y8y R (.lbg nag32 R (.mg R (bS hm fun b7 U hm=> .op (O.ca0 (y5K U) cf54 R R (Gu.mk R R) R R R) R (.op (O.not (Gu.mk R R) R R) R (.pT R ((a3 (!b7) (oj hm)).sub [] R))))))
                       · refine .know (d:=126) R hc ?_;exact .sk R (.sk R (.sk R (.sk R (.sk R (.pF R ((a3 false (oj hm)).sub [] R))))))
                · intro a2;rcases yEt ((j.2 != 0)||(u.2.2.2 != 0)) with hc|hc
                  · refine .know (d:=99) R hc ?_;exact .sk R (.pT R ((a2 true (orT hc).symm).sub [] R))
                  · refine .know (d:=99) R hc ?_;exact .mg R (.pF R ((a2 u.2.2.1 (orF hc).symm).sub [] R))
              · intro a1;rcases yEt (j.2 != 0) with hc|hc
                · refine .know (d:=95) R hc ?_;exact .sk R (.sk R (.pT R ((a1 true (orT hc).symm).sub [] R)))
                · refine .know (d:=95) R hc ?_;exact .mg R (.bg R (.pF R ((a1 (u.2.2.2 != 0) (orF hc).symm).sub [] R)))
           · intro a0;rcases yEt ((!p.2.2.1)||(!s.2.1)) with hc|hc
             · refine .know (d:=73) R hc ?_;exact .sk R (.sk R (.pT R ((a0 true (orT hc).symm).sub [] R)))
             · refine .know (d:=73) R hc ?_;exact .mg R (.op (O.not (Gu.mk R R) R R) R (.pF R ((a0 (!t.2.1) (orF hc).symm).sub [] R)))
         · intro Y;rcases yEt (!p.2.2.1) with hc|hc
           · refine .know (d:=69) R hc ?_;exact .sk R (.sk R (.pT R ((Y true (orT hc).symm).sub [] R)))
           · refine .know (d:=69) R hc ?_;exact .mg R (.op (O.not (Gu.mk R R) R R) R (.pF R ((Y (!s.2.1) (orF hc).symm).sub [] R)))
      · intro X;rcases yEt ((p.2.2.2 != 0)||(s.2.2 != 0)) with hc|hc
        · refine .know (d:=63) R hc ?_;exact .sk R (.sk R (.pT R ((X true (orT hc).symm).sub [] R)))
        · refine .know (d:=63) R hc ?_;exact .mg R (.bg R (.pF R ((X (t.2.2 != 0) (orF hc).symm).sub [] R)))
    · intro J9;rcases yEt (p.2.2.2 != 0) with hc|hc
      · refine .know (d:=59) R hc ?_;exact .sk R (.sk R (.pT R ((J9 true (orT hc).symm).sub [] R)))
      · refine .know (d:=59) R hc ?_;exact .mg R (.bg R (.pF R ((J9 (s.2.2 != 0) (orF hc).symm).sub [] R)))
end
end Go.Proofs.YtecmobjeeonmaaaGreatDoor
namespace Go.Proofs.YtecmobjeeonmaaaGreatDoor
open Go.RowKit Go.Shelf
structure St where
 s:Int
 p:Int
 e:Int
def St.cells(x:St):List Value:=[.int .i64 x.s,.int .i64 x.p,.int .i64 x.e]
end Go.Proofs.YtecmobjeeonmaaaGreatDoor
namespace Go.Proofs.YtecmobjeeonmaaaGreatDoor
def wval(u:List Int):Int:=u.foldl (fun acc e=>33*acc+e+1) 0
theorem yam(u:List Int)(e:Int):wval (u++[e])=33*wval u+e+1:=by simp [wval,List.foldl_append]
def Evs(u:List Int):Prop:=∀e∈u,0≤e∧e<32
theorem Evs.nil :Evs []:=fun e h=>by cases h
theorem Evs.snoc{u:List Int}{e:Int}(h:Evs u)(h0:0≤e)(h1:e<32):Evs (u++[e]):=by
 intro x hx;rcases yMa.1 hx with h2|h2
 ·exact h x h2
 ·rw [yMs.1 h2];exact⟨h0,h1⟩
theorem Evs.of_snoc{u:List Int}{e:Int}(h:Evs (u++[e])):Evs u∧0≤e∧e<32:=
 ⟨fun x hx=>h x (List.mem_append_left _ hx),h e (by simp)⟩
theorem yf2{α:Type}{P:List α→Prop}(h0:P [])(h1:∀u e,P u→P (u++[e]))(u:List α):P u:=by
 have h2:∀n (u:List α),u.length=n→P u:=by
  intro n
  induction n with
  | zero=>intro u hu;rw [List.eq_nil_of_length_eq_zero hu];exact h0
  | succ n ih=>
   intro u hu;rcases List.eq_nil_or_concat u with rfl|⟨l,b,rfl⟩
   ·cases hu
   ·have hl:l.length=n:=by simpa using hu
    simpa using h1 l b (ih l hl)
 exact h2 _ u rfl
theorem yfl(u:List Int):Evs u→0≤wval u:=by
 refine yf2 (P:=fun u=>Evs u→0≤wval u) (fun _=>Int.le_refl 0) (fun u e ih h=>?_) u;have h1:=h.of_snoc;have:=ih h1.1;rw [yam];omega
def Leads(es:List Ed)(perm:Ed→Bool)(s:Int):List Int→Int→Prop
 | [],t=>s=t
 | e::u,t=>∃x∈es,x.f=s∧x.e=e∧perm x=true∧Leads es perm x.t u t
theorem Leads.snoc{es:List Ed}{perm:Ed→Bool}:∀{u:List Int} {s t:Int},Leads es perm s u t→∀{x:Ed},x∈es→x.f=t→perm x=true→Leads es perm s (u++[x.e]) x.t
 | [],s,t,h,x,hx,hf,hp=>⟨x,hx,by rw [hf];exact h.symm,rfl,hp,rfl⟩
 | e::u,s,t,⟨y,hy,h1,h2,h3,h4⟩,x,hx,hf,hp=>⟨y,hy,h1,h2,h3,h4.snoc hx hf hp⟩
theorem Leads.of_snoc{es:List Ed}{perm:Ed→Bool}{e:Int}:∀{u:List Int} {s t:Int},Leads es perm s (u++[e]) t→∃x∈es,Leads es perm s u x.f∧x.e=e∧x.t=t∧perm x=true
 | [],s,t,⟨y,hy,h1,h2,h3,h4⟩=>⟨y,hy,h1.symm,h2,h4,h3⟩
 | a::u,s,t,⟨y,hy,h1,h2,h3,h4⟩=>by
  obtain⟨x,hx,g1,g2,g3,g4⟩:=Leads.of_snoc (u:=u) h4;exact⟨x,hx,⟨y,hy,h1,h2,h3,g1⟩,g2,g3,g4⟩
def EvEs(es:List Ed):Prop:=∀x∈es,0≤x.e∧x.e<32
structure Found (es:List Ed) (perm:Ed→Bool) (s:Int) (L:List (List Int×Int)) (b:Int):Prop where
 lead:∀r∈L,Leads es perm s r.1 r.2
 sorted:∀j k:Nat,j<k→∀r r':List Int×Int,L[j]? =some r→L[k]? =some r'→wval r.1<wval r'.1
 bd:∀r∈L,wval r.1≤b
section
variable{es:List Ed}{perm:Ed→Bool}{s:Int}{L:List (List Int×Int)}{b:Int}{m i:Nat}
theorem Found.mono(h:Found es perm s L b){j k:Nat}(hjk:j≤k){r r':List Int×Int}(hj:L[j]? =some r)(hk:L[k]? =some r'):wval r.1≤wval r'.1:=by
 by_cases e:j=k
 ·subst e;rw [hj] at hk;cases hk;exact Int.le_refl _
 ·exact Int.le_of_lt (h.sorted j k (by omega) r r' hj hk)
end
def edLt(x y:Ed):Prop:=x.f<y.f∨(x.f=y.f∧x.e<y.e)
def ydk(es:List Ed):Prop:=es.Pairwise edLt
def yco(es:List Ed)(tg:List Int):Nat→Int→Prop
 | 0,s=>s∈tg
 | k+1,s=>∃x∈es,x.f=s∧yco es tg k x.t
end Go.Proofs.YtecmobjeeonmaaaGreatDoor
namespace Go.Proofs.YtecmobjeeonmaaaGreatDoor
open Go Go.RowKit
theorem W_of{x:Int}(h0: -9223372036854775808≤x)(h1:x<9223372036854775808):W x=x:=IntWalk.i64_in _ (by omega)
theorem W_nat{k:Nat}(h:k<9223372036854775808):W (k:Int)=k:=W_of (by omega) (by omega)
theorem ya{α:Type}{xs:List α}{i:Nat}(h:i<xs.length):idx xs (i:Int)=some xs[i]:=by rw [y7d,yGe h]
theorem y2M{S O:Type}{f:S→Option (S⊕O)}{s:S}{o:O}{n:Nat}(hn:n≤18446744073709551616)(h:iterF f n s=some o):iter f s=some o:=by
 have mono:∀(n m:Nat) (s:S),n≤m→iterF f n s=some o→iterF f m s=some o:=by
  intro n
  induction n with
  | zero=>intro m s _ h;cases h
  | succ n ih=>
   intro m s hm h;obtain⟨k,rfl⟩:∃k,m=k+1:=⟨m-1,by omega⟩;rw [yc] at h ⊢;split at h
   ·cases h
   ·rename_i h1;exact ih k _ (by omega) h
   ·rename_i h1;exact h
 exact mono n _ s hn h
theorem ye{S O:Type}{f:S→Option (S⊕O)}(P:Nat→S→Prop)(Q:O→Prop):∀(n i:Nat),n<i+18446744073709551616→(∀i s,i<n→P i s→(∃s',f s=some (.inl s')∧P (i+1) s')∨∃o,f s=some (.inr o)∧Q o)→(∀s,P n s→∃o,f s=some (.inr o)∧Q o)→i≤n→
  ∀s,P i s→∃o,iter f s=some o∧Q o:=by
 have key:∀(n:Nat),(∀i s,i<n→P i s→(∃s',f s=some (.inl s')∧P (i+1) s')∨∃o,f s=some (.inr o)∧Q o)→(∀s,P n s→∃o,f s=some (.inr o)∧Q o)→∀(j i:Nat),i+j=n→∀s,P i s→∃o,iterF f (j+1) s=some o∧Q o:=by
  intro n step fin j
  induction j with
  | zero=>
   intro i hi s h;obtain rfl:i=n:=by omega
   obtain⟨o,h1,h2⟩:=fin s h;exact⟨o,by rw [yc,h1],h2⟩
  | succ j ih=>
   intro i hi s h;rcases step i s (by omega) h with ⟨s',h1,h2⟩|⟨o,h1,h2⟩
   ·obtain ⟨o,h3,h4⟩:=ih (i+1) (by omega) s' h2;exact⟨o,by rw [yc,h1];exact h3,h4⟩
   ·exact ⟨o,by rw [yc,h1],h2⟩
 intro n i hn step fin hi s h;obtain⟨o,h1,h2⟩:=key n step fin (n-i) i (by omega) s h;exact⟨o,y2M (by omega) h1,h2⟩
theorem nxt{i:Nat}(h:i<4611686018427387904):W ((i:Int)+1)=((i+1:Nat):Int):=by rw [show (i:Int)+1=((i+1:Nat):Int) by omega,W_nat (by omega)]
theorem ct_lt{i n:Nat}(h:i<n):decide ((i:Int)<(n:Int))=true:=by simp;omega
theorem ct_ge{n:Nat}:¬decide ((n:Int)<(n:Int))=true:=by simp
theorem y9y{α:Type}{xs:List α}{i:Nat}{y:α}(h:i<xs.length):upd xs (i:Int) y=some (xs.set i y):=by
 unfold upd;rw [if_pos ⟨by omega,by omega⟩,Int.toNat_natCast]
theorem y8o{xs:List Int}(h:xs.length≤4294967296):yT xs=some xs:=by
 rw [yT,yi (by simpa using h)];rfl
def errO(e:Int):Unit⊕Int:=if e=0 then .inl () else .inr e
theorem yfm{xs:List Int}{n:Int}(hl:xs.length<4611686018427387904):∀(j i:Nat),i+j=xs.length→
  iterF (y3h xs n) (j+1) (i:Int)=some (errO (yu n (y7G xs i) (xs.drop i))):=by
 intro j
 induction j with
 | zero=>
  intro i hi;have e:xs.drop i= []:=List.drop_of_length_le (by omega);rw [yc,y3h,if_neg (by simp;omega),e];rfl
 | succ j ih=>
  intro i hi;have hlt:i<xs.length:=by omega
  rw [yc,y3h,if_pos (by simp;omega),ya hlt,yOb];by_cases h1:xs[i]<0∨n≤xs[i]
  ·rw [if_pos (by simpa using h1),yi6 hlt h1];rfl
  ·rw [if_neg (by simpa using h1)];by_cases h0:0<i
   ·rw [if_pos (by simp;omega),show(i:Int)-1=((i-1:Nat):Int) by omega,W_nat (by omega),ya (show i-1<xs.length by omega),yOb,yOb];by_cases h2:xs[i]≤xs[i-1]
    ·rw [if_pos (by simpa using h2),yi7 hlt h1 h0 h2];rfl
    ·rw [if_neg (by simpa using h2),show(i:Int)+1=((i+1:Nat):Int) by omega,W_nat (by omega),ycA hlt h1 (fun _=>by omega)];exact ih (i+1) (by omega)
   ·rw [if_neg (by simp;omega),yOb,if_neg (by simp),show(i:Int)+1=((i+1:Nat):Int) by omega,W_nat (by omega),ycA hlt h1 (fun h=>absurd h h0)];exact ih (i+1) (by omega)
theorem y9l{xs:List Int}{n:Int}(hl:xs.length<4611686018427387904):y2p xs n=some (yu n none xs):=by
 have h:iter (y3h xs n) 0=some (errO (yu n none xs)):=y2M (by omega) (yfm (n:=n) hl xs.length 0 (by omega));rw [y2p,h,yOb];by_cases h0:yu n none xs=0
 ·rw [h0];rfl
 ·rw [errO,if_neg h0]
theorem yil{xs:List Int}{x:Int}(hl:xs.length<4611686018427387904):∀(j i:Nat),i+j=xs.length→
  ∃o,iterF (y3R xs x) (j+1) (i:Int)=some o∧((o= .inl ()∧x∉xs.drop i)∨∃k:Nat,i≤k∧o= .inr (k:Int)∧x∈xs.drop i):=by
 intro j
 induction j with
 | zero=>
  intro i hi;have e:xs.drop i= []:=List.drop_of_length_le (by omega);refine⟨.inl (),?_,.inl ⟨rfl,by rw [e];simp⟩⟩;rw [yc,y3R,if_neg (by simp;omega)]
 | succ j ih=>
  intro i hi;have hlt:i<xs.length:=by omega
  rw [yc,y3R,if_pos (by simp;omega),ya hlt,yOb];by_cases h1:x=xs[i]
  ·rw [if_pos (by simpa using h1)];exact⟨_,rfl,.inr ⟨i,Nat.le_refl _,rfl,by rw [List.drop_eq_getElem_cons hlt,h1];exact List.mem_cons_self⟩⟩
  ·rw [if_neg (by simpa using h1),show(i:Int)+1=((i+1:Nat):Int) by omega,W_nat (by omega)];obtain⟨o,h2,h3⟩:=ih (i+1) (by omega);refine⟨o,h2,?_⟩;rw [List.drop_eq_getElem_cons hlt];rcases h3 with ⟨h4,h5⟩|⟨k,h4,h5,h6⟩
   ·exact .inl ⟨h4,fun hc=>(List.mem_cons.1 hc).elim h1 h5⟩
   ·exact .inr ⟨k,by omega,h5,List.mem_cons_of_mem _ h6⟩
theorem y1b{xs:List Int}{x:Int}(hl:xs.length<4611686018427387904):yf xs x=some (hasB xs x):=by
 obtain⟨o,h1,h2⟩:=yil (x:=x) hl xs.length 0 (by omega);have h:iter (y3R xs x) 0=some o:=y2M (by omega) h1;rw [yf,y7L,h,yOb];rcases h2 with ⟨rfl,h4⟩|⟨k,_,rfl,h4⟩
 ·rw [y9L.2 (by simpa using h4)];rfl
 ·rw [yb.2 (by simpa using h4)];show some (decide ((k:Int)≥0))=some true;simp
def edP(x:Ed):Int×Int×Int:=(x.f,x.e,x.t)
def autP(a:Aut):List Int×Int×List Int×List (Int×Int×Int):=(a.al,a.n,a.ms,a.es.map edP)
def prevE(es:List Ed)(k:Nat):Option Ed:=if k=0 then none else es[k-1]?
theorem yfn{al:List Int}{n:Int}{es:List Ed}{k:Nat}(hk:k<es.length):edErr al n (prevE es k) (es.drop k)=
  if(es[k].f<0∨n≤es[k].f∨es[k].t<0∨n≤es[k].t) then 2 else if hasB al es[k].e=false then 9 else if(∃q,prevE es k=some q∧(es[k].f<q.f∨(es[k].f=q.f∧es[k].e≤q.e))) then 5 else edErr al n (prevE es (k+1)) (es.drop (k+1)):=by
 rw [List.drop_eq_getElem_cons hk,edErr];congr 3;simp [prevE,yGe hk]
theorem yim{a:Aut}(hl:a.es.length<4611686018427387904)(hal:a.al.length<4611686018427387904):∀(j i:Nat),i+j=a.es.length→
  iterF (y2A (autP a)) (j+1) (i:Int)=some (errO (edErr a.al a.n (prevE a.es i) (a.es.drop i))):=by
 have hlen:(autP a).2.2.2.length=a.es.length:=by simp [autP]
 have hat:∀(i:Nat) (h:i<a.es.length),idx (autP a).2.2.2 (i:Int)=some (edP a.es[i]):=fun i h=>by
  rw [ya (by rw [hlen];exact h)];simp [autP]
 intro j
 induction j with
 | zero=>
  intro i hi;have e:a.es.drop i= []:=List.drop_of_length_le (by omega);rw [yc,y2A,if_neg (by rw [hlen];simp;omega),e];rfl
 | succ j ih=>
  intro i hi;have hlt:i<a.es.length:=by omega
  have hnext:y2z (i:Int)=some (.inl ((i+1:Nat):Int)):=by
   rw [y2z,show(i:Int)+1=((i+1:Nat):Int) by omega,W_nat (by omega)]
  rw [yc,y2A,if_pos (by rw [hlen];simp;omega),hat i hlt,yOb,yfn hlt];by_cases h1:a.es[i].f<0∨a.n≤a.es[i].f∨a.es[i].t<0∨a.n≤a.es[i].t
  ·rw [if_pos (by simp only [Bool.or_eq_true,decide_eq_true_eq];show((a.es[i].f<0∨a.es[i].f≥a.n)∨a.es[i].t<0)∨a.es[i].t≥a.n;omega),if_pos h1];rfl
  ·rw [if_neg (by simp only [Bool.or_eq_true,decide_eq_true_eq];show ¬(((a.es[i].f<0∨a.es[i].f≥a.n)∨a.es[i].t<0)∨a.es[i].t≥a.n);omega),if_neg h1];rw [show yf (autP a).1 (edP a.es[i]).2.1=some (hasB a.al a.es[i].e) from y1b hal,yOb];cases h2:hasB a.al a.es[i].e with
   | false=>rfl
   | true=>
    rw [if_neg (show ¬(!true)=true by simp),if_neg (show ¬(true=false) by simp)];by_cases h0:i=0
    ·subst h0;rw [if_pos (by simp),hnext,if_neg (by rintro⟨q,hq,_⟩;simp [prevE] at hq)];exact ih 1 (by omega)
    ·have hp:prevE a.es i=some a.es[i-1]:=by rw [prevE,if_neg h0,yGe (by omega)]
     rw [if_neg (by simp;omega),show(i:Int)-1=((i-1:Nat):Int) by omega,W_nat (by omega),hat (i-1) (by omega),yOb];by_cases h3:a.es[i].f<a.es[i-1].f∨(a.es[i].f=a.es[i-1].f∧a.es[i].e≤a.es[i-1].e)
     ·rw [if_pos (by simp only [Bool.or_eq_true,Bool.and_eq_true,decide_eq_true_eq,beq_iff_eq];exact h3),if_pos ⟨_,hp,h3⟩];rfl
     ·rw [if_neg (by simp only [Bool.or_eq_true,Bool.and_eq_true,decide_eq_true_eq,beq_iff_eq];exact h3),hnext,if_neg (by rintro⟨q,hq,h4⟩;rw [hp] at hq;cases hq;exact h3 h4)];exact ih (i+1) (by omega)
theorem ybu{a:Aut}(hl:a.es.length<4611686018427387904)(hal:a.al.length<4611686018427387904)(hms:a.ms.length<4611686018427387904):y1p (autP a)=some a.err:=by
 have h:iter (y2A (autP a)) 0=some (errO (edErr a.al a.n none a.es)):=y2M (by omega) (yim hl hal a.es.length 0 (by omega));have he:y5i (autP a)=some (edErr a.al a.n none a.es):=by
  rw [y5i,h,yOb];by_cases h0:edErr a.al a.n none a.es=0
  ·rw [h0];rfl
  ·rw [errO,if_neg h0]
 rw [y1p,show y2p (autP a).1 32=some (yu 32 none a.al) from y9l hal,yOb,Aut.err];by_cases h1:(yu 32 none a.al != 0)=true
 ·rw [if_pos h1,if_pos h1]
 ·rw [if_neg h1,if_neg h1];by_cases h2:a.n<0
  ·rw [if_pos (show decide ((autP a).2.1<0)=true from decide_eq_true h2),if_pos h2]
  ·rw [if_neg (show ¬decide ((autP a).2.1<0)=true from fun e=>h2 (of_decide_eq_true e)),if_neg h2];by_cases h3:4096<a.n
   ·rw [if_pos (show decide ((autP a).2.1>4096)=true from decide_eq_true h3),if_pos h3]
   ·rw [if_neg (show ¬decide ((autP a).2.1>4096)=true from fun e=>h3 (of_decide_eq_true e)),if_neg h3,show y2p (autP a).2.2.1 (autP a).2.1=some (yu a.n none a.ms) from y9l hms,yOb];by_cases h4:(yu a.n none a.ms != 0)=true
    ·rw [if_pos h4,if_pos h4]
    ·rw [if_neg h4,if_neg h4,he];rfl
abbrev Inc(xs:List Int):Prop:=xs.Pairwise (· < ·)
theorem yjI{i j:Nat}(h:i+j<9223372036854775808):W ((IntKind.u64.wrap (W ((i:Int)+(j:Int)))).fdiv (2 ^ (min (1:Int).toNat 64)))=(((i+j)/2:Nat):Int):=by
 rw [W_of (x:=(i:Int)+j) (by omega) (by omega),IntWalk.u64_in _ (by omega),show(2:Int) ^ (min (1:Int).toNat 64)=2 from rfl,Int.fdiv_eq_ediv_of_nonneg _ (by omega),W_of (by omega) (by omega)];omega
theorem yjJ(x y:Int):y7W x y=some (decide (x<y)):=by
 rw [y7W,show y6M x=some false by rw [y6M];simp,yOb,if_neg (by simp),yOb,Bool.false_or]
theorem ykj{xs:List Int}{t:Int}(hl:xs.length<4294967296)(hs:Inc xs):∀(f i j:Nat),j≤i+f→i≤j→j≤xs.length→(∀k (h:k<xs.length),k<i→xs[k]<t)→(∀k (h:k<xs.length),j≤k→t≤xs[k])→
  ∃p:Nat,iterF (y1M xs t) (f+1) ((j:Int),(i:Int))=some (p:Int)∧p≤xs.length∧(∀k (h:k<xs.length),k<p→xs[k]<t)∧(∀k (h:k<xs.length),p≤k→t≤xs[k]):=by
 intro f
 induction f with
 | zero=>
  intro i j h1 h2 h3 h4 h5;refine⟨i,?_,by omega,h4,fun k h hk=>h5 k h (by omega)⟩;rw [yc,y1M,if_neg (by simp;omega)]
 | succ f ih=>
  intro i j h1 h2 h3 h4 h5;rw [yc,y1M];dsimp only;by_cases hij:i<j
  ·have hm:(i+j)/2<xs.length:=by omega
   rw [if_pos (by simp;omega),yjI (by omega),ya hm,yOb,yjJ,yOb];have mono:∀(a b:Nat) (ha:a<xs.length) (hb:b<xs.length),a≤b→xs[a]≤xs[b]:=fun a b ha hb hab=>by
    rcases Nat.lt_or_ge a b with h|h
    ·exact Int.le_of_lt (List.pairwise_iff_getElem.1 hs a b ha hb h)
    ·have:a=b:=by omega
     subst this;exact Int.le_refl _
   by_cases hc:xs[(i+j)/2]<t
   ·rw [if_pos (decide_eq_true hc),show(((i+j)/2:Nat):Int)+1=(((i+j)/2+1:Nat):Int) by omega,W_nat (by omega)];exact ih _ j (by omega) (by omega) h3 (fun k h hk=>by have:=mono k _ h hm (by omega);omega) h5
   ·rw [if_neg (by simpa using hc)];exact ih i _ (by omega) (by omega) (by omega) h4 (fun k h hk=>by have:=mono _ k hm h hk;omega)
  ·rw [if_neg (by simp;omega)];exact⟨i,rfl,by omega,h4,fun k h hk=>h5 k h (by omega)⟩
theorem y6x{xs:List Int}{t:Int}(hl:xs.length<4294967296)(hs:Inc xs):y1m xs t=some (hasB xs t):=by
 obtain⟨p,hp,hle,hlo,hhi⟩:=ykj (t:=t) hl hs xs.length 0 xs.length (by omega) (by omega) (by omega) (fun k h hk=>absurd hk (by omega)) (fun k h hk=>absurd hk (by omega));have hi:iter (y1M xs t) ((xs.length:Int),0)=some (p:Int):=y2M (by omega) hp;rw [y1m,y6e,hi,yOb];by_cases hlt:p<xs.length
 ·rw [if_pos (by simpa using hlt),ya hlt,yOb];by_cases he:xs[p]=t
  ·rw [if_pos (by simpa using he)];show some true=_;rw [yb.2 (he▸yGm hlt)]
  ·rw [if_neg (by simpa using he),yOb,show y5q xs[p]=some false by rw [y5q];simp,yOb,if_neg (by simp)];show some false=_;rw [y9L.2];intro hm;obtain⟨k,hk,hk2⟩:=List.getElem_of_mem hm;rcases Nat.lt_trichotomy k p with h|h|h
   ·have:=hlo k hk h;omega
   ·subst h;exact he hk2
   ·have:=hhi p hlt (Nat.le_refl _);have:=List.pairwise_iff_getElem.1 hs p k hlt hk h;omega
 ·rw [if_neg (by simpa using hlt)];show some false=_;rw [y9L.2];intro hm;obtain⟨k,hk,hk2⟩:=List.getElem_of_mem hm;have:=hlo k hk (by omega);omega
theorem y6S{n:Int}:∀{p:Option Int} {xs:List Int},xs.Pairwise (· < ·)→(∀x∈xs,0≤x∧x<n)→(∀q,p=some q→∀x∈xs,q<x)→yu n p xs=0
 | _,[],_,_,_=>rfl
 | p,x::xs,h,hr,hp=>by
  obtain⟨h1,h2⟩:=List.pairwise_cons.1 h;have h3:=hr x (List.mem_cons_self ..);rw [yu,if_neg (by omega),if_neg ?_]
  ·exact y6S h2 (fun y hy=>hr y (List.mem_cons_of_mem _ hy)) (fun q hq y hy=>by cases hq;exact h1 y hy)
  ·rintro ⟨q,hq,hle⟩;have:=hp q hq x (List.mem_cons_self ..);omega
theorem yf3{al:List Int}{n:Int}:∀{p:Option Ed} {es:List Ed},ydk es→(∀x∈es,0≤x.f∧x.f<n∧0≤x.t∧x.t<n∧hasB al x.e=true)→(∀q,p=some q→∀x∈es,edLt q x)→edErr al n p es=0
 | _,[],_,_,_=>rfl
 | p,x::xs,h,hr,hp=>by
  obtain⟨h1,h2⟩:=List.pairwise_cons.1 h;have h3:=hr x (List.mem_cons_self ..);rw [edErr,if_neg (by omega),if_neg (by rw [h3.2.2.2.2];simp),if_neg ?_]
  ·exact yf3 h2 (fun y hy=>hr y (List.mem_cons_of_mem _ hy)) (fun q hq y hy=>by cases hq;exact h1 y hy)
  ·rintro ⟨q,hq,hle⟩;have:=hp q hq x (List.mem_cons_self ..);unfold edLt at this;omega
theorem y9P(a:AutT):autP (toAut a)=a:=by
 obtain⟨x,y,z,es⟩:=a;simp only [autP,toAut,List.map_map];rw [show (edP∘toEd)=id from rfl,List.map_id]
structure Right (a:AutT) (n:Nat):Prop where
 nn:a.2.1=(n:Int)
 nl:n≤4096
 ali:Inc a.1
 alr:∀x∈a.1,0≤x∧x<32
 msi:Inc a.2.2.1
 msr:∀x∈a.2.2.1,0≤x∧x<(n:Int)
 es:∀x∈a.2.2.2,0≤x.1∧x.1<(n:Int)∧0≤x.2.2∧x.2.2<(n:Int)∧x.2.1∈a.1
 so:a.2.2.2.Pairwise fun x y=>x.1<y.1∨(x.1=y.1∧x.2.1<y.2.1)
 l1:a.1.length≤1000000
 l2:a.2.2.1.length≤1000000
 l3:a.2.2.2.length≤1000000
namespace Right
variable{a:AutT}{n:Nat}
theorem sorted(h:Right a n):ydk (a.2.2.2.map toEd):=by
 unfold ydk;rw [List.pairwise_map];exact h.so
theorem ein(h:Right a n):∀x∈a.2.2.2.map toEd,0≤x.f∧x.f<(n:Int)∧0≤x.t∧x.t<(n:Int):=fun x hx=>by
 obtain⟨y,hy,rfl⟩:=List.mem_map.1 hx;have:=h.es y hy;exact⟨this.1,this.2.1,this.2.2.1,this.2.2.2.1⟩
theorem evs(h:Right a n):EvEs (a.2.2.2.map toEd):=fun x hx=>by
 obtain⟨y,hy,rfl⟩:=List.mem_map.1 hx;exact h.alr _ (h.es y hy).2.2.2.2
theorem err(h:Right a n):(toAut a).err=0:=by
 have h1:yu 32 none (toAut a).al=0:=y6S h.ali h.alr (fun q hq=>by cases hq);have hn:(toAut a).n=n:=h.nn;have h2:yu (toAut a).n none (toAut a).ms=0:=by rw [hn];exact y6S h.msi h.msr (fun q hq=>by cases hq)
 have h3:edErr (toAut a).al (toAut a).n none (toAut a).es=0:=by
  rw [hn];refine yf3 h.sorted (fun x hx=>?_) (fun q hq=>by cases hq);obtain⟨y,hy,rfl⟩:=List.mem_map.1 hx;have:=h.es y hy;exact⟨this.1,this.2.1,this.2.2.1,this.2.2.2.1,yb.2 this.2.2.2.2⟩
 have:=h.nl;unfold Aut.err;rw [h1,if_neg (by decide),if_neg (by rw [hn];omega),if_neg (by rw [hn];omega),h2,if_neg (by decide),h3]
theorem check(h:Right a n):y1p a=some 0:=by
 have h1:=h.l1;have h2:=h.l2;have h3:=h.l3;have:=ybu (a:=toAut a) (by simp [toAut];omega) (by simp [toAut];omega) (by simp [toAut];omega);rwa [y9P,h.err] at this
end Right
theorem y5f{n:Nat}:∀{xs:List Int} {lo:Int},Inc xs→(∀x∈xs,lo≤x∧x<(n:Int))→0≤lo→xs.length≤n-lo.toNat
 | [],_,_,_,_=>yZl _
 | x::xs,lo,h,hr,h0=>by
  obtain⟨h1,h2⟩:=List.pairwise_cons.1 h;have hx:=hr x (List.mem_cons_self ..);have:=y5f (n:=n) (lo:=x+1) h2 (fun y hy=>⟨by have:=h1 y hy;omega,(hr y (List.mem_cons_of_mem _ hy)).2⟩) (by omega);rw [List.length_cons];omega
theorem y1s{α:Type}(a:α)(us:List α):idx (a::us) 0=some a:=rfl
theorem y4Y{α:Type}(a:α)(us:List α):slc (a::us) 1 ((a::us).length:Int)=some us:=by
 rw [slc,if_pos ⟨by omega,by simp;omega,by omega⟩];simp
structure Mrg (out us vs:List Int):Prop where
 o:Inc out
 u:Inc us
 v:Inc vs
 ou:∀x∈out,∀y∈us,x<y
 ov:∀x∈out,∀y∈vs,x<y
 ro:∀x∈out,0≤x∧x<32
 ru:∀x∈us,0≤x∧x<32
 rv:∀x∈vs,0≤x∧x<32
theorem Mrg.swap{out us vs:List Int}(h:Mrg out us vs):Mrg out vs us:=⟨h.o,h.v,h.u,h.ov,h.ou,h.ro,h.rv,h.ru⟩
theorem Mrg.push{out us vs:List Int}{a:Int}(h:Mrg out (a::us) vs)(hv:∀y∈vs,a<y):Mrg (out++[a]) us vs:=by
 obtain⟨u1,u2⟩:=List.pairwise_cons.1 h.u;refine⟨?_,u2,h.v,?_,?_,?_,fun x hx=>h.ru x (List.mem_cons_of_mem _ hx),h.rv⟩
 ·unfold Inc;rw [List.pairwise_append];exact⟨h.o,List.pairwise_singleton _ _,fun x hx y hy=>by rw [yMs.1 hy];exact h.ou x hx a (List.mem_cons_self ..)⟩
 ·intro x hx y hy;rcases yMa.1 hx with hx|hx
  ·exact h.ou x hx y (List.mem_cons_of_mem _ hy)
  ·rw [yMs.1 hx];exact u1 y hy
 ·intro x hx y hy;rcases yMa.1 hx with hx|hx
  ·exact h.ov x hx y hy
  ·rw [yMs.1 hx];exact hv y hy
 ·intro x hx;rcases yMa.1 hx with hx|hx
  ·exact h.ro x hx
  ·rw [yMs.1 hx];exact h.ru a (List.mem_cons_self ..)
theorem Mrg.tailv{out us vs:List Int}{a:Int}(h:Mrg out us (a::vs)):Mrg out us vs:=
 ⟨h.o,h.u,(List.pairwise_cons.1 h.v).2,h.ou,fun x hx y hy=>h.ov x hx y (List.mem_cons_of_mem _ hy),h.ro,h.ru,fun x hx=>h.rv x (List.mem_cons_of_mem _ hx)⟩
theorem Mrg.len{out us vs:List Int}(h:Mrg out us vs):out.length≤32:=by
 have:=y5f (n:=32) (lo:=0) h.o h.ro (Int.le_refl _);simpa using this
theorem Mrg.lt{out us vs:List Int}{a b:Int}(h:Mrg out us (b::vs))(hab:a<b):∀y∈b::vs,a<y:=fun y hy=>by
 rcases List.mem_cons.1 hy with rfl|hy
 ·exact hab
 ·have:=(List.pairwise_cons.1 h.v).1 y hy;omega
theorem ygq{out us vs:List Int}(h:Mrg out us vs)(hne:0<us.length+vs.length):
  ∃o u v,yg yC (out,us,vs)=some (.inl (o,u,v))∧Mrg o u v∧u.length+v.length+1≤us.length+vs.length:=by
 have hl:=h.len;have ho:∀a:Int,app out ([a]:List Int)=some (out++[a]):=fun a=>yi (by simp;omega);cases us with
 | nil=>
  cases vs with
  | nil=>simp at hne
  | cons b vs=>
   refine⟨out++[b],[],vs,?_,(h.swap.push (fun y hy=>by cases hy)).swap,by simp⟩;rw [yg];dsimp only;rw [if_pos (by simp),if_neg (by simp),yr];dsimp only;rw [if_pos (by simp),if_pos (by simp),ym,if_neg (by simp),yk,if_pos rfl];dsimp only;rw [y1s,yOb,y4Y,yOb,yq,show yC false true=some true from rfl,yOb,if_pos rfl];dsimp only;rw [ho,yOb]
 | cons a us=>
  cases vs with
  | nil=>
   refine⟨out++[a],us,[],?_,h.push (fun y hy=>by cases hy),by simp⟩;rw [yg];dsimp only;rw [if_pos (by simp),if_pos (by simp),if_pos (by simp),yr];dsimp only;rw [if_neg (by simp),ym,if_pos rfl];dsimp only;rw [y1s,yOb,y4Y,yOb,yk,if_neg (by simp),yq,show yC true false=some true from rfl,yOb,if_pos rfl];dsimp only;rw [ho,yOb]
  | cons b vs=>
   have e0:yg yC (out,a::us,b::vs)=ym yC (out,a::us,b::vs) (decide (a≤b)) (decide (b≤a)):=by
    rw [yg];dsimp only;rw [if_pos (by simp),if_pos (by simp),if_neg (by simp;omega),y1s,yOb,y1s,yOb,yr];dsimp only;rw [if_pos (by simp),if_neg (by simp;omega),y1s,yOb,y1s,yOb]
   rw [e0,ym];dsimp only;by_cases h1:a<b
   ·refine ⟨out++[a],us,b::vs,?_,h.push (h.lt h1),by simp;omega⟩;rw [if_pos (show decide (a≤b)=true by simp;omega),y1s,yOb,y4Y,yOb,yk,if_neg (by simp;omega),yq,show decide (a≤b)=true by simp;omega,show decide (b≤a)=false by simp;omega,
     show yC true false=some true from rfl,yOb,if_pos rfl]
    dsimp only;rw [ho,yOb]
   ·by_cases h2:b<a
    ·refine ⟨out++[b],a::us,vs,?_,(h.swap.push (h.swap.lt h2)).swap,by simp;omega⟩;rw [if_neg (show ¬decide (a≤b)=true by simp;omega),yk,if_pos (show decide (b≤a)=true by simp;omega)];dsimp only;rw [y1s,yOb,y4Y,yOb,yq,show decide (a≤b)=false by simp;omega,show decide (b≤a)=true by simp;omega,
      show yC false true=some true from rfl,yOb,if_pos rfl]
     dsimp only;rw [ho,yOb]
    ·obtain rfl:a=b:=by omega
     refine⟨out++[a],us,vs,?_,h.tailv.push ((List.pairwise_cons.1 h.v).1),by simp;omega⟩;rw [if_pos (show decide (a≤a)=true by simp),y1s,yOb,y4Y,yOb,yk,if_pos (show decide (a≤a)=true by simp)];dsimp only;rw [y1s,yOb,y4Y,yOb,yq,show decide (a≤a)=true by simp,
      show yC true true=some true from rfl,yOb,if_pos rfl]
     dsimp only;rw [ho,yOb]
def Alp(xs:List Int):Prop:=Inc xs∧∀x∈xs,0≤x∧x<32
theorem Alp.nil :Alp []:=⟨List.Pairwise.nil,fun x hx=>by cases hx⟩
theorem Alp.len{xs:List Int}(h:Alp xs):xs.length≤32:=by
 have:=y5f (n:=32) (lo:=0) h.1 h.2 (Int.le_refl _);simpa using this
theorem yin{us vs:List Int}(hu:Alp us)(hv:Alp vs):∃o,y5a us vs=some o∧Alp o:=by
 have h0:Mrg [] us vs:=⟨List.Pairwise.nil,hu.1,hv.1,fun x hx=>(by cases hx),fun x hx=>(by cases hx),fun x hx=>(by cases hx),hu.2,hv.2⟩;have l1:=hu.len;have l2:=hv.len;obtain⟨o,h1,h2⟩:=ye (f:=yg yC) (fun i s=>Mrg s.1 s.2.1 s.2.2∧s.2.1.length+s.2.2.length+i≤us.length+vs.length) (fun o=>Alp o) (us.length+vs.length) 0 (by omega) (fun i s hi ⟨g1,g2⟩=>by
   obtain⟨out,u,v⟩:=s;dsimp only at g1 g2;by_cases hne:0<u.length+v.length
   ·obtain ⟨o,u',v',e,g3,g4⟩:=ygq g1 hne;exact .inl ⟨_,e,g3,by dsimp only;omega⟩
   ·have e1:u= []:=List.eq_nil_of_length_eq_zero (by omega);have e2:v= []:=List.eq_nil_of_length_eq_zero (by omega);subst e1;subst e2;exact .inr ⟨out,rfl,g1.o,g1.ro⟩) (fun s ⟨g1,g2⟩=>by
   obtain⟨out,u,v⟩:=s;dsimp only at g1 g2;have e1:u= []:=List.eq_nil_of_length_eq_zero (by omega);have e2:v= []:=List.eq_nil_of_length_eq_zero (by omega);subst e1;subst e2;exact⟨out,rfl,g1.o,g1.ro⟩) (yZl _) ([],us,vs) ⟨h0,by dsimp only;omega⟩
 exact⟨o,by rw [y5a,y2R,h1];rfl,h2⟩
theorem yhi{l:List AutT}(hl:l.length≤1000)(h:∀a∈l,Alp a.1):∃ev,y5b l=some ev∧Alp ev:=by
 obtain⟨o,h1,h2⟩:=ye (f:=y1J l) (fun i s=>s.1=(i:Int)∧Alp s.2) (fun o=>Alp o) l.length 0 (by omega) (fun i s hi ⟨e1,g1⟩=>by
   obtain⟨k,out⟩:=s;dsimp only at e1 g1;subst e1;obtain⟨o,e,g2⟩:=yin g1 (h _ (yGm hi));refine .inl ⟨(((i+1:Nat):Int),o),?_,rfl,g2⟩;rw [y1J];dsimp only;rw [if_pos (ct_lt hi),ya hi,yOb,e,yOb,nxt (by omega)]) (fun s ⟨e1,g1⟩=>by
   obtain⟨k,out⟩:=s;dsimp only at e1 g1;subst e1;refine⟨out,?_,g1⟩;rw [y1J];dsimp only;rw [if_neg ct_ge]) (yZl _) (0,[]) ⟨rfl,Alp.nil⟩
 exact⟨o,by rw [y5b,h1];rfl,h2⟩
section
variable{κ β:Type}[BEq κ]
theorem yio{m:List (κ×β)}{k:κ}{v:β}(h:kget m k=some v):∃e∈m,e.2=v:=by
 unfold kget at h;rw [Option.map_eq_some_iff] at h;obtain⟨e,h1,h2⟩:=h;exact⟨e,List.mem_of_find?_eq_some h1,h2⟩
theorem yad{m:List (κ×β)}{k:κ}{v:β}{e:κ×β}(h:e∈kput m k v):e∈m∨e=(k,v):=by
 unfold kput at h;split at h
 ·exact List.mem_or_eq_of_mem_set h
 ·rcases yMa.1 h with h|h
  ·exact .inl h
  ·exact .inr (yMs.1 h)
theorem ycD{m:List (κ×β)}{k:κ}:(kget m k).isSome=m.any fun p=>k==p.1:=by
 unfold kget
 induction m with
 | nil=>rfl
 | cons p m ih=>
  rw [List.any_cons];cases h:k==p.1 with
  | true=>rw [List.find?_cons_of_pos (by simpa using h)];rfl
  | false=>rw [List.find?_cons_of_neg (by simp [h])];simpa using ih
end
theorem beqB(k:ByteArray):(k==k)=true:=by rw [beq_toListBytes];simp
theorem yeg{β:Type}{m:List (ByteArray×β)}{k:ByteArray}{v:β}:(kget (kput m k v) k).isSome=true:=by
 rw [ycD,List.any_eq_true];refine⟨(k,v),?_,beqB k⟩;unfold kput;split
 ·rename_i h;exact List.mem_set h _
 ·exact List.mem_append_right _ (yMs.2 rfl)
theorem yhj{β:Type}{m:List (ByteArray×β)}{k q:ByteArray}{v:β}(h:(kget m q).isSome=true):(kget (kput m k v) q).isSome=true:=by
 rw [ycD,List.any_eq_true] at h ⊢;obtain⟨e,h1,h2⟩:=h;have hq:=eqS h2;unfold kput;split
 ·rename_i hlt;obtain⟨i,hi,rfl⟩:=List.getElem_of_mem h1;by_cases e:kidx (m.map (·.1)) k=i
  ·refine ⟨(k,v),List.mem_set hlt _,?_⟩;have hk:(fun p=>k==p) ((m.map (·.1))[kidx (m.map (·.1)) k]'(by rw [List.length_map];exact hlt))=true:=List.findIdx_getElem (p:=fun p=>k==p) (w:=by rw [List.length_map];exact hlt);rw [List.getElem_map] at hk;have hk:=eqS hk;subst e;rw [hq,←hk];exact beqB k
  ·refine ⟨m[i],?_,h2⟩;have:=List.getElem_set_ne (l:=m) e (a:=(k,v)) (by rw [List.length_set];exact hi);rw [←this];exact yGm _
 ·exact ⟨e,List.mem_append_left _ h1,h2⟩
def InT(l:List AutT)(t:List Int):Prop:=t.length=l.length∧∀i (h:i<l.length) (h':i<t.length),0≤t[i]∧t[i]<l[i].2.1
theorem InT.set{l:List AutT}{t:List Int}(h:InT l t){i:Nat}(hi:i<l.length){v:Int}(h0:0≤v)(h1:v<l[i].2.1):InT l (t.set i v):=by
 refine⟨by rw [List.length_set];exact h.1,fun k hk hk'=>?_⟩;rw [List.getElem_set];split
 ·rename_i e;subst e;exact⟨h0,h1⟩
 ·exact h.2 k hk _
structure MOk (l:List AutT) (m:List AutT×List Int×List (List ((Int×Int)×Int))):Prop where
 ml:m.1=l
 ev:Alp m.2.1
 len:m.2.2.length=l.length
 edge:∀i (h:i<l.length) (h':i<m.2.2.length),∀e∈m.2.2[i],0≤e.2∧e.2<l[i].2.1
theorem yjK{a:AutT}{n:Nat}(hr:Right a n):∃o,iter (y1K a) (0,([]:List ((Int×Int)×Int)))=some o∧∀e∈o,0≤e.2∧e.2<(n:Int):=by
 have hl:=hr.l3;refine ye (f:=y1K a) (fun i s=>s.1=(i:Int)∧∀e∈s.2,0≤e.2∧e.2<(n:Int)) (fun o=>∀e∈o,0≤e.2∧e.2<(n:Int)) a.2.2.2.length 0 (by omega) (fun i s hi ⟨e1,g1⟩=>?_) (fun s ⟨e1,g1⟩=>?_) (yZl _) _ ⟨rfl,fun e he=>(by cases he)⟩
 ·obtain ⟨k,out⟩:=s;dsimp only at e1 g1;subst e1;have hx:=hr.es _ (yGm hi);refine .inl ⟨(((i+1:Nat):Int),kput out (a.2.2.2[i].1,a.2.2.2[i].2.1) a.2.2.2[i].2.2),?_,rfl,fun e he=>?_⟩
  ·rw [y1K];dsimp only;rw [if_pos (ct_lt hi),ya hi,yOb,nxt (by omega)]
  ·rcases yad he with he|he
   ·exact g1 e he
   ·rw [he];exact⟨hx.2.2.1,hx.2.2.2.1⟩
 ·obtain ⟨k,out⟩:=s;dsimp only at e1 g1;subst e1;refine⟨out,?_,g1⟩;rw [y1K];dsimp only;rw [if_neg ct_ge]
def keyK(t:List Int):ByteArray:=⟨(keyB t).toArray⟩
theorem y8s :∀(N:Nat) (l:List Nat),l.Nodup→(∀x∈l,x<N)→l.length≤N
 | 0,[],_,_=>Nat.le_refl _
 | 0,x::l,_,h=>absurd (h x (List.mem_cons_self ..)) (by omega)
 | N+1,l,hn,h=>by
  by_cases hm:N∈l
  ·have h1:=y8s N (l.erase N) (hn.erase N) (fun x hx=>by
    have h2:=(hn.mem_erase_iff).1 hx;have:=h x h2.2;omega)
   rw [List.length_erase_of_mem hm] at h1;omega
  ·have h1:=y8s N l hn (fun x hx=>by
    have:=h x hx;have:x≠N:=fun e=>hm (e▸hx);omega)
   omega
abbrev Kno :=List (ByteArray×Int)
structure SI (l:List AutT) (ev:List Int) (i j:Nat) (kn:Kno) (T:List (List Int)) (E:List (Int×Int×Int)):Prop where
 pos:0<T.length
 nd:T.Nodup
 inT:∀t∈T,InT l t
 key:∀t∈T,(kget kn (keyK t)).isSome=true
 val:∀e∈kn,0≤e.2∧e.2<(T.length:Int)
 er:∀x∈E,0≤x.1∧x.1≤(i:Int)∧0≤x.2.2∧x.2.2<(T.length:Int)∧x.2.1∈ev
 es:∀x∈E,x.1=(i:Int)→x.2.1∈ev.take j
 so:E.Pairwise fun x y=>x.1<y.1∨(x.1=y.1∧x.2.1<y.2.1)
 el:E.length≤32*i+j
 lk:∀k:Nat,0<k→k<T.length→∃x∈E,x.2.2=(k:Int)∧0≤x.1∧x.1<(k:Int)
section
variable{l:List AutT}{ev:List Int}{i j:Nat}{kn:Kno}{T:List (List Int)}{E:List (Int×Int×Int)}
theorem SI.skip(h:SI l ev i j kn T E):SI l ev i (j+1) kn T E:=
 ⟨h.pos,h.nd,h.inT,h.key,h.val,h.er,fun x hx e=>(List.take_subset_take_left ev (Nat.le_succ j)) (h.es x hx e),h.so,by have:=h.el;omega,h.lk⟩
theorem SI.next(h:SI l ev i j kn T E)(hj:j≤32):SI l ev (i+1) 0 kn T E:=
 ⟨h.pos,h.nd,h.inT,h.key,h.val,fun x hx=>by have:=h.er x hx;exact⟨this.1,by omega,this.2.2⟩,fun x hx e=>by have:=h.er x hx;omega,h.so,by have:=h.el;omega,h.lk⟩
theorem yg3(he:Inc ev)(hj:j<ev.length):∀x∈ev.take j,x<ev[j]:=fun x hx=>by
 obtain⟨k,hk,rfl⟩:=List.getElem_of_mem hx;rw [List.length_take] at hk;rw [List.getElem_take];exact List.pairwise_iff_getElem.1 he k j (by omega) hj (by omega)
theorem SI.edge(h:SI l ev i j kn T E)(he:Inc ev)(hi:i<T.length)(hj:j<ev.length){q:Int}(h0:0≤q)(h1:q<T.length):SI l ev i (j+1) kn T (E++[((i:Int),ev[j],q)]):=by
 refine⟨h.pos,h.nd,h.inT,h.key,h.val,fun x hx=>?_,fun x hx e=>?_,?_,by have:=h.el;rw [List.length_append,List.length_singleton];omega,fun k h2 h3=>?_⟩
 ·rcases yMa.1 hx with hx|hx
  ·exact h.er x hx
  ·rw [yMs.1 hx];exact⟨by dsimp only;omega,by dsimp only;omega,h0,h1,yGm _⟩
 ·rcases yMa.1 hx with hx|hx
  ·exact (List.take_subset_take_left ev (Nat.le_succ j)) (h.es x hx e)
  ·rw [yMs.1 hx,ybS ev j hj];exact List.mem_append_right _ (yMs.2 rfl)
 ·rw [List.pairwise_append];refine⟨h.so,List.pairwise_singleton _ _,fun a ha b hb=>?_⟩;rw [yMs.1 hb];have h2:=h.er a ha;by_cases e:a.1=(i:Int)
  ·exact .inr ⟨e,yg3 he hj _ (h.es a ha e)⟩
  ·exact .inl (by dsimp only;omega)
 ·obtain ⟨x,hx,h4⟩:=h.lk k h2 h3;exact⟨x,List.mem_append_left _ hx,h4⟩
theorem SI.new(h:SI l ev i j kn T E)(he:Inc ev)(hi:i<T.length)(hj:j<ev.length){t:List Int}(ht:InT l t)(hk:(kget kn (keyK t)).isSome=false):SI l ev i (j+1) (kput kn (keyK t) (T.length:Int)) (T++[t]) (E++[((i:Int),ev[j],(T.length:Int))]):=by
 have hlen:(T++[t]).length=T.length+1:=by simp
 have h0:SI l ev i j (kput kn (keyK t) (T.length:Int)) T E∨True:= .inr trivial;refine⟨by omega,?_,fun s hs=>?_,fun s hs=>?_,fun e hx=>?_,fun x hx=>?_,fun x hx e=>?_,?_,by have:=h.el;rw [List.length_append,List.length_singleton];omega,fun k h2 h3=>?_⟩
 ·rw [List.nodup_append];refine⟨h.nd,by simp,fun a ha b hb=>?_⟩;rw [yMs.1 hb];intro e;subst e;rw [h.key a ha] at hk;cases hk
 ·rcases yMa.1 hs with hs|hs
  ·exact h.inT s hs
  ·rw [yMs.1 hs];exact ht
 ·rcases yMa.1 hs with hs|hs
  ·exact yhj (h.key s hs)
  ·rw [yMs.1 hs];exact yeg
 ·rw [hlen];rcases yad hx with hx|hx
  ·have:=h.val e hx;omega
  ·rw [hx];dsimp only;omega
 ·rw [hlen];rcases yMa.1 hx with hx|hx
  ·have:=h.er x hx;exact⟨this.1,this.2.1,this.2.2.1,by omega,this.2.2.2.2⟩
  ·rw [yMs.1 hx];exact⟨by dsimp only;omega,by dsimp only;omega,by dsimp only;omega,by dsimp only;omega,yGm _⟩
 ·rcases yMa.1 hx with hx|hx
  ·exact (List.take_subset_take_left ev (Nat.le_succ j)) (h.es x hx e)
  ·rw [yMs.1 hx,ybS ev j hj];exact List.mem_append_right _ (yMs.2 rfl)
 ·rw [List.pairwise_append];refine⟨h.so,List.pairwise_singleton _ _,fun a ha b hb=>?_⟩;rw [yMs.1 hb];have h2:=h.er a ha;by_cases e:a.1=(i:Int)
  ·exact .inr ⟨e,yg3 he hj _ (h.es a ha e)⟩
  ·exact .inl (by dsimp only;omega)
 ·by_cases h4:k<T.length
  ·obtain ⟨x,hx,h5⟩:=h.lk k h2 h4;exact⟨x,List.mem_append_left _ hx,h5⟩
  ·have:k=T.length:=by omega
   subst this;exact⟨_,List.mem_append_right _ (yMs.2 rfl),rfl,by dsimp only;omega,by dsimp only;omega⟩
end
theorem yco.snoc{es:List Ed}:∀{k:Nat} {x:Int} {e:Ed},e∈es→yco es [e.f] k x→yco es [e.t] (k+1) x
 | 0,x,e,he,h=>⟨e,he,(yMs.1 h).symm,yMs.2 rfl⟩
 | k+1,x,e,he,⟨y,hy,h1,h2⟩=>⟨y,hy,h1,h2.snoc he⟩
abbrev edsOf(p:AutT):List Ed:=p.2.2.2.map toEd
theorem yhk{κ β:Type}[BEq κ]{m:List (κ×β)}{k:κ}{v:β}(h:kget m k=some v):∃e∈m,e.2=v∧(k==e.1)=true:=by
 unfold kget at h;rw [Option.map_eq_some_iff] at h;obtain⟨e,h1,h2⟩:=h;exact⟨e,List.mem_of_find?_eq_some h1,h2,List.find?_some (p:=fun p:κ×β=>k==p.1) h1⟩
section
variable{κ β:Type}[DecidableEq κ][BEq κ][LawfulBEq κ]
theorem y9z(p:κ×β)(m:List (κ×β))(q:κ):kget (p::m) q=if q=p.1 then some p.2 else kget m q:=by
 unfold kget;by_cases h:q=p.1
 ·rw [if_pos h,List.find?_cons_of_pos (by simp [h])];rfl
 ·rw [if_neg h,List.find?_cons_of_neg (by simp [h])]
omit [DecidableEq κ] [LawfulBEq κ] in
theorem yip(k:κ)(v:β):kput [] k v= [(k,v)]:=by
 unfold kput;rw [if_neg (by simp)];rfl
theorem yhl(p:κ×β)(m:List (κ×β))(k:κ)(v:β):kput (p::m) k v=if k=p.1 then(k,v)::m else p::kput m k v:=by
 unfold kput;rw [List.map_cons,y9o];by_cases h:k=p.1
 ·subst h;rw [if_pos (by simp),if_pos (by simp),if_pos rfl];rfl
 ·have e:(if (k==p.1)=true then 0 else kidx (m.map (·.1)) k+1)=kidx (m.map (·.1)) k+1:=if_neg (by simp [h]);rw [e,if_neg h];by_cases h2:kidx (m.map (·.1)) k<m.length
  ·rw [if_pos h2,if_pos (by rw [List.length_cons];omega),List.set_cons_succ]
  ·rw [if_neg h2,if_neg (by rw [List.length_cons];omega)];rfl
theorem y5A{k q:κ}{v:β}:∀(m:List (κ×β)),kget (kput m k v) q=if q=k then some v else kget m q
 | []=>by rw [yip,y9z]
 | p::m=>by
  rw [yhl];by_cases h:k=p.1
  ·rw [if_pos h,y9z,y9z];by_cases h2:q=k
   ·rw [if_pos h2,if_pos h2]
   ·rw [if_neg h2,if_neg h2,if_neg (by rw [←h];exact h2)]
  ·rw [if_neg h,y9z,y9z,y5A m];by_cases h2:q=p.1
   ·rw [if_pos h2,if_neg (by rw [h2];exact fun e=>h e.symm),if_pos h2]
   ·rw [if_neg h2,if_neg h2]
end
structure LOkB (B:Nat) (l:List AutT):Prop where
 len:l.length≤3
 right:∀a∈l,∃n:Nat,1≤n∧n≤B∧Right a n
 b99:B≤99
 pw:B ^ l.length≤4000
theorem ygr{l:List AutT}{B:Nat}(h:LOkB B l):y5C l=some 0:=by
 have hl:=h.len;have hb99:=h.b99;obtain⟨o,h1,rfl⟩:=ye (f:=y1X l) (fun i s=>s=(i:Int)) (fun o=>o= .inl ()) l.length 0 (by omega) (fun i s hi e1=>by
   subst e1;obtain⟨n,_,_,hr⟩:=h.right _ (yGm hi);refine .inl ⟨((i+1:Nat):Int),?_,rfl⟩;rw [y1X,if_pos (ct_lt hi),ya hi,yOb,hr.check,yOb,if_neg (by simp),nxt (by omega)]) (fun s e1=>by
   subst e1;exact⟨_,by rw [y1X,if_neg ct_ge],rfl⟩) (yZl _) 0 rfl
 rw [y5C,if_neg (by simp;omega),h1];rfl
theorem yiq{l:List AutT}{B:Nat}(h:LOkB B l):∃m,y5c l=some m∧MOk l m:=by
 have hl:=h.len;have hb99:=h.b99;obtain⟨ev,he,hev⟩:=yhi (l:=l) (by omega) (fun a ha=>by
  obtain⟨n,_,_,hr⟩:=h.right a ha;exact⟨hr.ali,hr.alr⟩)
 obtain⟨o,h1,h2⟩:=ye (f:=y2x l) (fun i s=>i≤l.length∧s.1=(i:Int)∧s.2.length=i∧∀k (h:k<l.length) (h':k<s.2.length),∀e∈s.2[k],0≤e.2∧e.2<l[k].2.1) (fun o=>o.length=l.length∧∀k (h:k<l.length) (h':k<o.length),∀e∈o[k],0≤e.2∧e.2<l[k].2.1) l.length 0 (by omega) (fun i s hi ⟨_,e1,g1,g2⟩=>by
   obtain⟨k,out⟩:=s;dsimp only at e1 g1 g2;subst e1;obtain⟨n,_,_,hr⟩:=h.right _ (yGm hi);obtain⟨o,e,g3⟩:=yjK hr;refine .inl ⟨(((i+1:Nat):Int),out++[o]),?_,by omega,rfl,by simp [g1],fun k hk hk' x hx=>?_⟩
   ·rw [y2x];dsimp only;rw [if_pos (ct_lt hi),ya hi,yOb,e,yOb,yi (by simp;omega),yOb,nxt (by omega)]
   ·dsimp only at hx;by_cases hki:k<out.length
    ·rw [List.getElem_append_left hki] at hx;exact g2 k hk hki x hx
    ·have hk2:k=i:=by simp at hk';omega
     subst hk2;rw [List.getElem_append_right (by omega)] at hx;simp only [g1,Nat.sub_self,List.getElem_cons_zero] at hx;rw [hr.nn];exact g3 x hx) (fun s ⟨_,e1,g1,g2⟩=>by
   obtain⟨k,out⟩:=s;dsimp only at e1 g1 g2;subst e1;refine⟨out,?_,g1,g2⟩;rw [y2x];dsimp only;rw [if_neg ct_ge]) (yZl _) (0,[]) ⟨yZl _,rfl,rfl,fun k hk hk'=>(by simp at hk')⟩
 exact⟨(l,ev,o),by rw [y5c,he,yOb,h1];rfl,rfl,hev,h2.1,h2.2⟩
theorem yfo{l:List AutT}{B:Nat}(h:LOkB B l){m:List AutT×List Int×List (List ((Int×Int)×Int))}(hm:MOk l m):∃t,yx m=some (t,true)∧InT l t:=by
 have hl:=h.len;have hb99:=h.b99;obtain⟨m1,m2,m3⟩:=m;obtain⟨rfl,hev,hlen,_⟩:=hm;dsimp only at *;obtain⟨o,h1,rfl⟩:=ye (f:=yl (m1,m2,m3)) (fun i s=>s=(i:Int)) (fun o=>o= .inl ()) m1.length 0 (by omega) (fun i s hi e1=>by
   subst e1;obtain⟨n,hn,_,hr⟩:=h.right _ (yGm hi);refine .inl ⟨((i+1:Nat):Int),?_,rfl⟩;rw [yl];dsimp only;rw [if_pos (ct_lt hi),ya hi,yOb,hr.nn,if_neg (by simp;omega),nxt (by omega)]) (fun s e1=>by
   subst e1;refine⟨_,?_,rfl⟩;rw [yl];dsimp only;rw [if_neg ct_ge]) (yZl _) 0 rfl
 have hmk:mkL (m1.length:Int) (0:Int)=some (List.replicate m1.length 0):=by unfold mkL;rw [if_pos ⟨by omega,by omega⟩,Int.toNat_natCast]
 refine⟨List.replicate m1.length 0,?_,by simp,fun i hi hi'=>?_⟩
 ·rw [yx,h1,yOb];dsimp only;rw [hmk,yOb]
 ·obtain ⟨n,hn,_,hr⟩:=h.right _ (yGm hi);rw [List.getElem_replicate,hr.nn];omega
theorem yir{l:List AutT}{B:Nat}(h:LOkB B l){m:List AutT×List Int×List (List ((Int×Int)×Int))}(hm:MOk l m){t:List Int}(ht:InT l t)(e:Int):∃r,yU m t e=some r∧(r.2=true→InT l r.1):=by
 have hl:=h.len;have hb99:=h.b99;obtain⟨m1,m2,m3⟩:=m;obtain⟨rfl,hev,hlen,hed⟩:=hm;dsimp only at *;obtain⟨o,h1,h2⟩:=ye (f:=yn (m1,m2,m3) t e) (fun i s=>s.1=(i:Int)∧InT m1 s.2) (fun o=>∀u,o= .inl u→InT m1 u) m1.length 0 (by omega) (fun i s hi ⟨e1,g1⟩=>by
   obtain⟨k,out⟩:=s;dsimp only at e1 g1;subst e1;obtain⟨n,hn,_,hr⟩:=h.right _ (yGm hi);have ha:m1[i].1.length<4294967296:=by have:=hr.l1;omega
   have hj:∀u:List Int,yy ((i:Int),out) u=some (.inl (((i+1:Nat):Int),u)):=fun u=>by
    rw [yy];dsimp only;rw [nxt (by omega)]
   rw [yn];dsimp only;rw [if_pos (ct_lt hi),ya hi,yOb,y6x ha hr.ali,yOb];cases hb:hasB m1[i].1 e with
   | false=>
    rw [if_pos (by simp),hj];exact .inl ⟨_,rfl,rfl,g1⟩
   | true=>
    rw [if_neg (by simp),ya (by omega),yOb,ya (by have:=ht.1;omega),yOb];cases hg:kget m3[i] (t[i]'(by have:=ht.1;omega),e) with
    | none=>
     rw [if_pos (by simp)];exact .inr ⟨_,rfl,fun u hu=>by cases hu⟩
    | some v=>
     obtain⟨x,hx,rfl⟩:=yio hg;have hv:=hed i hi (by omega) x hx;rw [if_neg (by simp),ya (by have:=g1.1;omega),yOb,y9y (by have:=g1.1;omega),yOb,hj];exact .inl ⟨_,rfl,rfl,g1.set hi hv.1 hv.2⟩) (fun s ⟨e1,g1⟩=>by
   obtain⟨k,out⟩:=s;dsimp only at e1 g1;subst e1;refine⟨.inl out,?_,fun u hu=>by cases hu;exact g1⟩;rw [yn];dsimp only;rw [if_neg ct_ge]) (yZl _) (0,t) ⟨rfl,ht⟩
 rw [yU,y8o (by have:=ht.1;omega),yOb,h1,yOb];cases o with
 | inl u=>exact⟨_,rfl,fun _=>h2 u rfl⟩
 | inr u=>exact⟨_,rfl,fun hb=>by cases hb⟩
theorem ygs{l:List AutT}{B:Nat}(h:LOkB B l){m:List AutT×List Int×List (List ((Int×Int)×Int))}(hm:MOk l m){t:List Int}(ht:InT l t):∃b,yG m t=some b:=by
 have hl:=h.len;have hb99:=h.b99;obtain⟨m1,m2,m3⟩:=m;obtain⟨rfl,hev,hlen,hed⟩:=hm;dsimp only at *;obtain⟨o,h1,h2⟩:=ye (f:=y3n (m1,m2,m3) t) (fun i s=>s=(i:Int)) (fun _=>True) m1.length 0 (by omega) (fun i s hi e1=>by
   subst e1;obtain⟨n,hn,_,hr⟩:=h.right _ (yGm hi);have ha:m1[i].2.2.1.length<4294967296:=by have:=hr.l2;omega
   rw [y3n];dsimp only;rw [if_pos (ct_lt hi),ya hi,yOb,ya (by have:=ht.1;omega),yOb,y6x ha hr.msi,yOb];cases hb:hasB m1[i].2.2.1 (t[i]'(by have:=ht.1;omega)) with
   | false=>rw [if_pos (by simp)];exact .inr ⟨_,rfl,trivial⟩
   | true=>rw [if_neg (by simp),nxt (by omega)];exact .inl ⟨_,rfl,rfl⟩) (fun s e1=>by
   subst e1;refine⟨.inl (),?_,trivial⟩;rw [y3n];dsimp only;rw [if_neg ct_ge]) (yZl _) 0 rfl
 rw [yG,h1,yOb];cases o with
 | inl u=>exact⟨_,rfl⟩
 | inr u=>exact⟨_,rfl⟩
theorem yg4{l:List AutT}{B:Nat}(h:LOkB B l){t:List Int}(ht:InT l t):y4H t=some (keyK t):=by
 have hl:=h.len;have hb99:=h.b99;have hc:(t.all fun x=>decide (0≤x∧x<100))=true:=by
  rw [yAt];intro x hx;obtain⟨i,hi,rfl⟩:=List.getElem_of_mem hx;have hi':i<l.length:=by have:=ht.1;omega
  obtain⟨n,hn,hn6,hr⟩:=h.right _ (yGm hi');have:=ht.2 i hi' hi;rw [hr.nn] at this;simp;omega
 rw [y4H,if_pos ⟨hc,by have:=ht.1;omega⟩];rfl
def y7Q(B:Nat):List Int→Nat
 | []=>0
 | x::t=>x.toNat+B*y7Q B t
theorem ydl{B:Nat}:∀{s t:List Int},s.length=t.length→(∀x∈s,0≤x∧x<B)→(∀x∈t,0≤x∧x<B)→y7Q B s=y7Q B t→s=t
 | [],[],_,_,_,_=>rfl
 | [],_::_,h,_,_,_=>by simp at h
 | _::_,[],h,_,_,_=>by simp at h
 | x::s,y::t,h,hs,ht,e=>by
  have h1:=hs x (List.mem_cons_self ..);have h2:=ht y (List.mem_cons_self ..);simp only [y7Q] at e;have e2:x.toNat=y.toNat:=by
   have h3:=congrArg (· % B) e;simp only [Nat.add_mul_mod_self_left] at h3;rwa [Nat.mod_eq_of_lt (by omega),Nat.mod_eq_of_lt (by omega)] at h3
  have hxy:x=y:=by omega
  subst hxy;have e3:B*y7Q B s=B*y7Q B t:=by omega
  rw [ydl (s:=s) (t:=t) (by simpa using h) (fun z hz=>hs z (List.mem_cons_of_mem _ hz)) (fun z hz=>ht z (List.mem_cons_of_mem _ hz)) (Nat.eq_of_mul_eq_mul_left (by omega) e3)]
theorem yeh{B:Nat}:∀{t:List Int},(∀x∈t,0≤x∧x<B)→y7Q B t<B ^ t.length
 | [],_=>by simp [y7Q]
 | x::t,h=>by
  have h1:=h x (List.mem_cons_self ..);have h2:=yeh (t:=t) (fun z hz=>h z (List.mem_cons_of_mem _ hz));rw [List.length_cons,Nat.pow_succ,y7Q];have h3:B*(y7Q B t+1)≤B*B ^ t.length:=Nat.mul_le_mul_left B h2;rw [Nat.mul_add,Nat.mul_one] at h3;rw [Nat.mul_comm (B ^ t.length) B];omega
theorem InT.smallB{l:List AutT}{B:Nat}(h:LOkB B l){t:List Int}(ht:InT l t):∀x∈t,0≤x∧x<B:=by
 intro x hx;obtain⟨i,hi,rfl⟩:=List.getElem_of_mem hx;have hi':i<l.length:=by have:=ht.1;omega
 obtain⟨n,hn,hn6,hr⟩:=h.right _ (yGm hi');have:=ht.2 i hi' hi;rw [hr.nn] at this;omega
theorem y9m{l:List AutT}{B:Nat}(h:LOkB B l){T:List (List Int)}(hn:T.Nodup)(hT:∀t∈T,InT l t):T.length≤4000:=by
 have h1:=y8s (B ^ l.length) (T.map (y7Q B)) ?_ ?_
 ·rw [List.length_map] at h1;have h2:=h.pw;omega
 ·rw [List.Nodup,List.pairwise_map];refine List.Pairwise.imp_of_mem (fun {a b} ha hb hab e=>hab ?_) hn;exact ydl ((hT a ha).1.trans (hT b hb).1.symm) ((hT a ha).smallB h) ((hT b hb).smallB h) e
 ·intro x hx;obtain⟨t,ht,rfl⟩:=List.mem_map.1 hx;rw [←(hT t ht).1];exact yeh ((hT t ht).smallB h)
end Go.Proofs.YtecmobjeeonmaaaGreatDoor
namespace Go.Proofs.YtecmobjeeonmaaaGreatDoor
structure Num (es:List Ed) (n:Nat):Prop where
 so:es.Pairwise fun x y=>x.f<y.f∨(x.f=y.f∧x.e<y.e)
 rng:∀x∈es,0≤x.f∧x.f<(n:Int)∧0≤x.t∧x.t<(n:Int)∧0≤x.e∧x.e<32
 cov:∀k:Nat,0<k→k<n→∃x∈es,x.t=(k:Int)
 ear:∀i (hi:i<es.length) (k:Int),0<k→k<es[i].t→∃j,∃hj:j<es.length,j<i∧es[j].t=k
 fst:∀i (hi:i<es.length),(∀j (hj:j<es.length),j<i→es[j].t≠es[i].t)→es[i].t=0∨es[i].f<es[i].t
theorem ycW{es:List Ed}{k:Int}{x:Ed}(h:es.find? (fun y=>y.t==k)=some x):∃i,∃hi:i<es.length,es[i]=x∧x.t=k∧∀j (hj:j<es.length),j<i→es[j].t≠k:=by
 rw [List.find?_eq_some_iff_getElem] at h;obtain⟨h1,i,hi,h2,h3⟩:=h;refine⟨i,hi,h2,by simpa using h1,fun j hj hji e=>?_⟩;have:=h3 j hji;simp [e] at this
def wordN(es:List Ed):Nat→Int→List Int
 | 0,_=> []
 | f+1,k=>if k≤0 then [] else match es.find? (fun y=>y.t==k) with
  | none=> []
  | some x=>wordN es f x.f++[x.e]
def wN(es:List Ed)(k:Int):List Int:=wordN es k.toNat k
namespace Num
variable{es:List Ed}{n:Nat}
theorem find(h:Num es n){k:Nat}(h0:0<k)(h1:k<n):∃x,es.find? (fun y=>y.t==(k:Int))=some x∧x∈es∧x.t=(k:Int)∧0≤x.f∧x.f<(k:Int):=by
 obtain⟨y,hy,ht⟩:=h.cov k h0 h1;cases hf:es.find? (fun y=>y.t==(k:Int)) with
 | none=>exact absurd (by simpa using ht) (by simpa using List.find?_eq_none.1 hf y hy)
 | some x=>
  obtain⟨i,hi,e1,e2,e3⟩:=ycW hf;have hm:x∈es:=e1▸yGm hi;refine⟨x,rfl,hm,e2,(h.rng x hm).1,?_⟩;have:=h.fst i hi (fun j hj hji=>by rw [e1,e2];exact e3 j hj hji);rw [e1,e2] at this;omega
theorem fuel(h:Num es n):∀(f:Nat) (k:Int),k<(n:Int)→k.toNat≤f→wordN es f k=wN es k:=by
 have key:∀(m:Nat) (k:Int),k.toNat=m→k<(n:Int)→∀f g,m≤f→m≤g→wordN es f k=wordN es g k:=by
  intro m
  induction m using Nat.strongRecOn with
  | ind m ih=>
   intro k hk hn f g hf hg;by_cases h0:k≤0
   ·have e:∀f,wordN es f k= []:=fun f=>by
     cases f with
     | zero=>rfl
     | succ f=>rw [wordN,if_pos h0]
    rw [e,e]
   ·obtain ⟨f,rfl⟩:∃f',f=f'+1:=⟨f-1,by omega⟩;obtain⟨g,rfl⟩:∃g',g=g'+1:=⟨g-1,by omega⟩;obtain⟨k',rfl⟩:∃k':Nat,k=(k':Int):=⟨k.toNat,by omega⟩;obtain⟨x,hx,_,ht,hf0,hfk⟩:=h.find (k:=k') (by omega) (by omega);rw [wordN,wordN,if_neg h0,if_neg h0,hx];dsimp only;rw [ih x.f.toNat (by omega) x.f rfl (by omega) f g (by omega) (by omega)]
 intro f k hn hf;exact key k.toNat k rfl hn f k.toNat hf (Nat.le_refl _)
theorem step(h:Num es n){k:Nat}(h0:0<k)(h1:k<n):∃x∈es,es.find? (fun y=>y.t==(k:Int))=some x∧x.t=(k:Int)∧0≤x.f∧x.f<(k:Int)∧wN es (k:Int)=wN es x.f++[x.e]:=by
 obtain⟨x,hx,hm,ht,hf0,hfk⟩:=h.find h0 h1;refine⟨x,hm,hx,ht,hf0,hfk,?_⟩;obtain⟨k,rfl⟩:∃k',k=k'+1:=⟨k-1,by omega⟩;unfold wN;rw [Int.toNat_natCast,wordN,if_neg (by omega),hx];dsimp only;rw [h.fuel k x.f (by omega) (by omega)];rfl
theorem zero :wN es 0= []:=rfl
theorem evs(h:Num es n):∀(k:Nat),k<n→Evs (wN es (k:Int)):=by
 intro k
 induction k using Nat.strongRecOn with
 | ind k ih=>
  intro hk;by_cases h0:k=0
  ·subst h0;exact Evs.nil
  ·obtain ⟨x,hm,_,_,hf0,hfk,e⟩:=h.step (k:=k) (by omega) hk;rw [e];have hx:=h.rng x hm;have:=ih x.f.toNat (by omega) (by omega);rw [Int.toNat_of_nonneg hf0] at this;exact this.snoc hx.2.2.2.2.1 hx.2.2.2.2.2
theorem mono(h:Num es n):∀(k' k:Nat),k<k'→k'<n→wval (wN es (k:Int))<wval (wN es (k':Int)):=by
 intro k'
 induction k' using Nat.strongRecOn with
 | ind k' ih=>
  intro k hkk hk';obtain⟨x',hm',hf',ht',hf0',hfk',e'⟩:=h.step (k:=k') (by omega) hk';have hx':=h.rng x' hm';have hw':0≤wval (wN es x'.f):=by
   have:=h.evs x'.f.toNat (by omega);rw [Int.toNat_of_nonneg hf0'] at this;exact yfl _ this
  rw [e',yam];by_cases h0:k=0
  ·subst h0;show wval []<_;show(0:Int)<_;omega
  ·obtain ⟨x,hm,hf,ht,hf0,hfk,e⟩:=h.step (k:=k) (by omega) (by omega);have hx:=h.rng x hm;rw [e,yam];obtain⟨i,hi,a1,a2,a3⟩:=ycW hf;obtain⟨i',hi',b1,b2,b3⟩:=ycW hf';obtain⟨j,hj,hji,hjt⟩:=h.ear i' hi' (k:Int) (by omega) (by rw [b1,b2];omega);have hij:i≤j:=Nat.le_of_not_lt fun hlt=>a3 j hj hlt hjt;have hlt:=List.pairwise_iff_getElem.1 h.so i i' hi hi' (by omega);rw [a1,b1] at hlt;rcases hlt with hlt|⟨hlt,hle⟩
   ·have:=ih x'.f.toNat (by omega) x.f.toNat (by omega) (by omega);rw [Int.toNat_of_nonneg hf0,Int.toNat_of_nonneg hf0'] at this;omega
   ·rw [hlt];omega
end Num
end Go.Proofs.YtecmobjeeonmaaaGreatDoor
namespace Go.Proofs.YtecmobjeeonmaaaGreatDoor
open Go Go.RowKit
variable{α:Type}{e:Int}{r us vs:List Int}{P S:AutT}{n1 n2:Nat}
structure Disc {τ:Type} (st:τ→Int→Option τ) (al:List Int) (T:List τ) (E:List (Int×Int×Int)):Prop where
 nd:T.Nodup
 so:E.Pairwise fun x y=>x.1<y.1∨(x.1=y.1∧x.2.1<y.2.1)
 sn:∀x∈E,∃(a q:Nat) (t r:τ),x.1=(a:Int)∧x.2.2=(q:Int)∧T[a]? =some t∧T[q]? =some r∧x.2.1∈al∧st t x.2.1=some r
 ed:∀(a:Nat) (t:τ) (e:Int) (r:τ),T[a]? =some t→e∈al→st t e=some r→∃q:Nat,((a:Int),e,(q:Int))∈E∧T[q]? =some r
 cov:∀k:Nat,0<k→k<T.length→∃x∈E,x.2.2=(k:Int)
 ear:∀n (hn:n<E.length) (k:Int),0<k→k<E[n].2.2→∃p,∃hp:p<E.length,p<n∧E[p].2.2=k
 fst:∀n (hn:n<E.length),(∀p (hp:p<E.length),p<n→E[p].2.2≠E[n].2.2)→E[n].2.2=0∨E[n].1<E[n].2.2
 evr:∀e∈al,0≤e∧e<32
section
variable{τ:Type}{st:τ→Int→Option τ}{al:List Int}{T T':List τ}{E E':List (Int×Int×Int)}
def stw(st:τ→Int→Option τ)(t:τ):List Int→Option τ
 | []=>some t
 | e::u=>(st t e).bind fun r=>stw st r u
theorem y9Q{lt:τ→τ→Prop}(hir:∀a b,lt a b→lt b a→False):∀{xs ys:List τ},xs.Pairwise lt→ys.Pairwise lt→(∀x,x∈xs↔x∈ys)→xs=ys
 | [],[],_,_,_=>rfl
 | [],y::ys,_,_,h=>by have:=(h y).2 (List.mem_cons_self ..);cases this
 | x::xs,[],_,_,h=>by have:=(h x).1 (List.mem_cons_self ..);cases this
 | x::xs,y::ys,hx,hy,h=>by
  obtain⟨x1,x2⟩:=List.pairwise_cons.1 hx;obtain⟨y1,y2⟩:=List.pairwise_cons.1 hy;have hxy:x=y:=by
   rcases List.mem_cons.1 ((h x).1 (List.mem_cons_self ..)) with e|e
   ·exact e
   ·rcases List.mem_cons.1 ((h y).2 (List.mem_cons_self ..)) with e'|e'
    ·exact e'.symm
    ·exact (hir x y (x1 y e') (y1 x e)).elim
  subst hxy;have hne1:∀z∈xs,z≠x:=fun z hz e=>by subst e;exact hir z z (x1 z hz) (x1 z hz)
  have hne2:∀z∈ys,z≠x:=fun z hz e=>by subst e;exact hir z z (y1 z hz) (y1 z hz)
  rw [y9Q hir x2 y2 fun z=>?_];constructor
  ·intro hz;exact(List.mem_cons.1 ((h z).1 (List.mem_cons_of_mem _ hz))).resolve_left (hne1 z hz)
  ·intro hz;exact(List.mem_cons.1 ((h z).2 (List.mem_cons_of_mem _ hz))).resolve_left (hne2 z hz)
end
theorem y7R{xs:List α}{x:α}{n:Nat}(hn:n<(xs++[x]).length):(∃h:n<xs.length,(xs++[x])[n]=xs[n])∨(n=xs.length∧(xs++[x])[n]=x):=by
 by_cases h:n<xs.length
 ·exact .inl ⟨h,List.getElem_append_left h⟩
 ·have h2:n=xs.length:=by simp at hn;omega
  subst h2;exact .inr ⟨rfl,by rw [List.getElem_append_right (Nat.le_refl _)];simp⟩
structure Fnd {τ:Type} (st:τ→Int→Option τ) (ev:List Int) (i j:Nat) (T:List τ) (E:List (Int×Int×Int)):Prop where
 sn:∀x∈E,∃(a q:Nat) (t r:τ),x.1=(a:Int)∧x.2.2=(q:Int)∧T[a]? =some t∧T[q]? =some r∧st t x.2.1=some r
 ed:∀(a b:Nat) (t:τ) (e:Int) (r:τ),(a<i∨(a=i∧b<j))→T[a]? =some t→ev[b]? =some e→st t e=some r→∃q:Nat,((a:Int),e,(q:Int))∈E∧T[q]? =some r
 cov:∀k:Nat,0<k→k<T.length→∃x∈E,x.2.2=(k:Int)
 ear:∀n (hn:n<E.length) (k:Int),0<k→k<E[n].2.2→∃p,∃hp:p<E.length,p<n∧E[p].2.2=k
 fst:∀n (hn:n<E.length),(∀p (hp:p<E.length),p<n→E[p].2.2≠E[n].2.2)→E[n].2.2=0∨E[n].1<E[n].2.2
section
variable{τ:Type}{st:τ→Int→Option τ}{ev:List Int}{i j:Nat}{T:List τ}{E:List (Int×Int×Int)}
theorem Fnd.skip(h:Fnd st ev i j T E){t:τ}(ht:T[i]? =some t)(he:ev[j]? =some e)(hs:st t e=none):Fnd st ev i (j+1) T E:=by
 refine⟨h.sn,fun a b t' e' r hab ha hb hst=>?_,h.cov,h.ear,h.fst⟩;by_cases hx:a=i∧b=j
 ·obtain ⟨rfl,rfl⟩:=hx;rw [ht] at ha;rw [he] at hb;cases ha;cases hb;rw [hs] at hst;cases hst
 ·exact h.ed a b t' e' r (by omega) ha hb hst
theorem Fnd.next(h:Fnd st ev i j T E)(hj:ev.length≤j):Fnd st ev (i+1) 0 T E:=
 ⟨h.sn,fun a b t e r hab ha hb hst=>h.ed a b t e r (by have:=(List.getElem?_eq_some_iff.1 hb).1;omega) ha hb hst,h.cov,h.ear,h.fst⟩
theorem Fnd.edge(h:Fnd st ev i j T E){t r:τ}{q:Nat}(ht:T[i]? =some t)(he:ev[j]? =some e)(hs:st t e=some r)(hq:T[q]? =some r):Fnd st ev i (j+1) T (E++[((i:Int),e,(q:Int))]):=by
 have hql:=(List.getElem?_eq_some_iff.1 hq).1;refine⟨fun x hx=>?_,fun a b t' e' r' hab ha hb hst=>?_,fun k h0 h1=>?_,fun n hn k h0 h1=>?_,fun n hn hf=>?_⟩
 ·rcases yMa.1 hx with hx|hx
  ·exact h.sn x hx
  ·rw [yMs.1 hx];exact⟨i,q,t,r,rfl,rfl,ht,hq,hs⟩
 ·by_cases hx:a=i∧b=j
  ·obtain ⟨rfl,rfl⟩:=hx;rw [ht] at ha;rw [he] at hb;cases ha;cases hb;rw [hs] at hst;cases hst;exact⟨q,List.mem_append_right _ (yMs.2 rfl),hq⟩
  ·obtain ⟨q',g1,g2⟩:=h.ed a b t' e' r' (by omega) ha hb hst;exact⟨q',List.mem_append_left _ g1,g2⟩
 ·obtain ⟨x,hx,h2⟩:=h.cov k h0 h1;exact⟨x,List.mem_append_left _ hx,h2⟩
 ·rcases y7R hn with ⟨hn2,e2⟩|⟨hn2,e2⟩
  ·rw [e2] at h1;obtain⟨p,hp,h3,h4⟩:=h.ear n hn2 k h0 h1;exact⟨p,by simp;omega,h3,by rw [List.getElem_append_left hp];exact h4⟩
  ·rw [e2] at h1;dsimp only at h1;obtain⟨x,hx,h3⟩:=h.cov k.toNat (by omega) (by omega);obtain⟨p,hp,rfl⟩:=List.getElem_of_mem hx;exact⟨p,by simp;omega,by omega,by rw [List.getElem_append_left hp,h3];omega⟩
 ·rcases y7R hn with ⟨hn2,e2⟩|⟨hn2,e2⟩
  ·rw [e2];refine h.fst n hn2 fun p hp hpn=>?_;have:=hf p (by simp;omega) hpn;rwa [List.getElem_append_left hp,e2] at this
  ·rw [e2];dsimp only;by_cases hz:q=0
   ·left;omega
   ·exfalso;obtain⟨x,hx,h3⟩:=h.cov q (by omega) hql;obtain⟨p,hp,rfl⟩:=List.getElem_of_mem hx;have:=hf p (by simp;omega) (by omega);rw [List.getElem_append_left hp,e2,h3] at this;exact this rfl
theorem Fnd.new(h:Fnd st ev i j T E){t r:τ}(hi:i<T.length)(ht:T[i]? =some t)(he:ev[j]? =some e)(hs:st t e=some r):Fnd st ev i (j+1) (T++[r]) (E++[((i:Int),e,(T.length:Int))]):=by
 have hup:∀{a:Nat} {u:τ},T[a]? =some u→(T++[r])[a]? =some u:=fun {a u} hu=>by rw [List.getElem?_append_left (List.getElem?_eq_some_iff.1 hu).1];exact hu
 have hnew:(T++[r])[T.length]? =some r:=by rw [List.getElem?_append_right (Nat.le_refl _)];simp
 have hto:∀x∈E,0≤x.2.2∧x.2.2<(T.length:Int):=fun x hx=>by
  obtain⟨a,q,u,v,_,h2,_,h4,_⟩:=h.sn x hx;have:=(List.getElem?_eq_some_iff.1 h4).1;omega
 refine⟨fun x hx=>?_,fun a b t' e' r' hab ha hb hst=>?_,fun k h0 h1=>?_,fun n hn k h0 h1=>?_,fun n hn hf=>?_⟩
 ·rcases yMa.1 hx with hx|hx
  ·obtain ⟨a,q,u,v,h1,h2,h3,h4,h5⟩:=h.sn x hx;exact⟨a,q,u,v,h1,h2,hup h3,hup h4,h5⟩
  ·rw [yMs.1 hx];exact⟨i,T.length,t,r,rfl,rfl,hup ht,hnew,hs⟩
 ·have hal:a<T.length:=by omega
  rw [List.getElem?_append_left hal] at ha;by_cases hx:a=i∧b=j
  ·obtain ⟨rfl,rfl⟩:=hx;rw [ht] at ha;rw [he] at hb;cases ha;cases hb;rw [hs] at hst;cases hst;exact⟨T.length,List.mem_append_right _ (yMs.2 rfl),hnew⟩
  ·obtain ⟨q',g1,g2⟩:=h.ed a b t' e' r' (by omega) ha hb hst;exact⟨q',List.mem_append_left _ g1,hup g2⟩
 ·by_cases hk:k<T.length
  ·obtain ⟨x,hx,h2⟩:=h.cov k h0 hk;exact⟨x,List.mem_append_left _ hx,h2⟩
  ·have:k=T.length:=by simp at h1;omega
   subst this;exact⟨_,List.mem_append_right _ (yMs.2 rfl),rfl⟩
 ·rcases y7R hn with ⟨hn2,e2⟩|⟨hn2,e2⟩
  ·rw [e2] at h1;obtain⟨p,hp,h3,h4⟩:=h.ear n hn2 k h0 h1;exact⟨p,by simp;omega,h3,by rw [List.getElem_append_left hp];exact h4⟩
  ·rw [e2] at h1;dsimp only at h1;obtain⟨x,hx,h3⟩:=h.cov k.toNat (by omega) (by omega);obtain⟨p,hp,rfl⟩:=List.getElem_of_mem hx;exact⟨p,by simp;omega,by omega,by rw [List.getElem_append_left hp,h3];omega⟩
 ·rcases y7R hn with ⟨hn2,e2⟩|⟨hn2,e2⟩
  ·rw [e2];refine h.fst n hn2 fun p hp hpn=>?_;have:=hf p (by simp;omega) hpn;rwa [List.getElem_append_left hp,e2] at this
  ·rw [e2];dsimp only;right;omega
end
theorem Fnd.start{τ:Type}{st:τ→Int→Option τ}{ev:List Int}{T:List τ}(h:T.length≤1):Fnd st ev 0 0 T []:=
 ⟨fun x hx=>(by cases hx),fun a b t e r hab=>by omega,fun k h0 h1=>by omega,fun n hn=>by simp at hn,fun n hn=>by simp at hn⟩
theorem Fnd.disc{τ:Type}{st:τ→Int→Option τ}{ev:List Int}{T:List τ}{E:List (Int×Int×Int)}(h:Fnd st ev T.length 0 T E)(nd:T.Nodup)(so:E.Pairwise fun x y=>x.1<y.1∨(x.1=y.1∧x.2.1<y.2.1))(hal:∀x∈E,x.2.1∈ev)(evr:∀e∈ev,0≤e∧e<32):Disc st ev T E:=by
 refine⟨nd,so,fun x hx=>?_,fun a t e r ha he hs=>?_,h.cov,h.ear,h.fst,evr⟩
 ·obtain ⟨a,q,t,r,h1,h2,h3,h4,h5⟩:=h.sn x hx;exact⟨a,q,t,r,h1,h2,h3,h4,hal x hx,h5⟩
 ·obtain ⟨b,hb,hbe⟩:=List.getElem_of_mem he;exact h.ed a b t e r (.inl (List.getElem?_eq_some_iff.1 ha).1) ha (by rw [yGe hb,hbe]) hs
theorem yg5{u:Nat}(hu:u<100):(32:UInt8)∉dig2 u:=by
 have h:∀v:_root_.Fin 100,(32:UInt8)∉dig2 v.val:=by decide +kernel
 exact h ⟨u,hu⟩
theorem yis{u v:Nat}(hu:u<100)(hv:v<100)(e:dig2 u=dig2 v):u=v:=by
 have h:∀v:_root_.Fin 100,((dig2 v.val).foldl (fun acc d=>10*acc+(d.toNat-48)) 0)=v.val:=by decide +kernel
 have h1:=h ⟨u,hu⟩;have h2:=h ⟨v,hv⟩;dsimp only at h1 h2;rw [e] at h1;omega
theorem yf4{c:α}:∀{l1 l2 r1 r2:List α},c∉l1→c∉l2→l1++c::r1=l2++c::r2→l1=l2∧r1=r2
 | [],[],_,_,_,_,h=>⟨rfl,(List.cons.inj h).2⟩
 | [],b::l2,_,_,_,h2,h=>absurd (List.cons.inj h).1 (fun e=>h2 (e▸List.mem_cons_self ..))
 | a::l1,[],_,_,h1,_,h=>absurd (List.cons.inj h).1 (fun e=>h1 (e▸List.mem_cons_self ..))
 | a::l1,b::l2,_,_,h1,h2,h=>by
  obtain⟨e1,e2⟩:=List.cons.inj h;obtain⟨e3,e4⟩:=yf4 (fun hm=>h1 (List.mem_cons_of_mem _ hm)) (fun hm=>h2 (List.mem_cons_of_mem _ hm)) e2;exact⟨by rw [e1,e3],e4⟩
theorem yf5 :∀{t u:List Int},(∀x∈t,0≤x∧x<100)→(∀x∈u,0≤x∧x<100)→keyB t=keyB u→t=u
 | [],[],_,_,_=>rfl
 | [],y::u,_,_,h=>by simp [keyB] at h
 | x::t,[],_,_,h=>by simp [keyB] at h
 | x::t,y::u,ht,hu,h=>by
  have h1:=ht x (List.mem_cons_self ..);have h2:=hu y (List.mem_cons_self ..);obtain⟨e1,e2⟩:=yf4 (yg5 (by omega)) (yg5 (by omega)) h;have e3:=yis (u:=x.toNat) (v:=y.toNat) (by omega) (by omega) e1;rw [show x=y by omega,yf5 (fun z hz=>ht z (List.mem_cons_of_mem _ hz)) (fun z hz=>hu z (List.mem_cons_of_mem _ hz)) e2]
theorem yit{t u:List Int}(ht:∀x∈t,0≤x∧x<100)(hu:∀x∈u,0≤x∧x<100)(h:keyK t=keyK u):t=u:=by
 refine yf5 ht hu ?_;have:=congrArg ByteArray.data h;simpa [keyK] using this
theorem InT.hund{l:List AutT}{B:Nat}(h:LOkB B l){t:List Int}(ht:InT l t):∀x∈t,0≤x∧x<100:=fun x hx=>by
 have:=ht.smallB h x hx;have:=h.b99;omega
noncomputable def mst(m:List AutT×List Int×List (List ((Int×Int)×Int)))(t:List Int)(e:Int):Option (List Int):=match yU m t e with
 | some (u,true)=>some u
 | _=>none
theorem yiu{l:List AutT}{B:Nat}(h:LOkB B l){m:List AutT×List Int×List (List ((Int×Int)×Int))}(hm:MOk l m){t:List Int}(ht:InT l t)(e:Int):∃r,yU m t e=some r∧(r.2=true→InT l r.1∧mst m t e=some r.1)∧(r.2=false→mst m t e=none):=by
 obtain⟨⟨u,b⟩,h1,h2⟩:=yir h hm ht e;refine⟨(u,b),h1,fun hb=>⟨h2 hb,?_⟩,fun hb=>?_⟩
 ·have hb:b=true:=hb;unfold mst;rw [h1,hb]
 ·have hb:b=false:=hb;unfold mst;rw [h1,hb]
structure SZ (m:List AutT×List Int×List (List ((Int×Int)×Int))) (i j:Nat) (kn:Kno) (T:List (List Int)) (E:List (Int×Int×Int)):Prop where
 kv:∀e∈kn,∃(q:Nat) (t:List Int),e.2=(q:Int)∧T[q]? =some t∧e.1=keyK t
 sn:∀x∈E,∃(a q:Nat) (t r:List Int),x.1=(a:Int)∧x.2.2=(q:Int)∧T[a]? =some t∧T[q]? =some r∧mst m t x.2.1=some r
 ed:∀(a b:Nat) (t:List Int) (e:Int) (r:List Int),(a<i∨(a=i∧b<j))→T[a]? =some t→m.2.1[b]? =some e→mst m t e=some r→∃q:Nat,((a:Int),e,(q:Int))∈E∧T[q]? =some r
 cov:∀k:Nat,0<k→k<T.length→∃x∈E,x.2.2=(k:Int)
 ear:∀n (hn:n<E.length) (k:Int),0<k→k<E[n].2.2→∃p,∃hp:p<E.length,p<n∧E[p].2.2=k
 fst:∀n (hn:n<E.length),(∀p (hp:p<E.length),p<n→E[p].2.2≠E[n].2.2)→E[n].2.2=0∨E[n].1<E[n].2.2
section
variable{m:List AutT×List Int×List (List ((Int×Int)×Int))}{i j:Nat}{kn:Kno}{T:List (List Int)}{E:List (Int×Int×Int)}
theorem SZ.skip(h:SZ m i j kn T E){t:List Int}(ht:T[i]? =some t)(he:m.2.1[j]? =some e)(hs:mst m t e=none):SZ m i (j+1) kn T E:=by
 refine⟨h.kv,h.sn,fun a b t' e' r hab ha hb hst=>?_,h.cov,h.ear,h.fst⟩;by_cases hx:a=i∧b=j
 ·obtain ⟨rfl,rfl⟩:=hx;rw [ht] at ha;rw [he] at hb;cases ha;cases hb;rw [hs] at hst;cases hst
 ·exact h.ed a b t' e' r (by omega) ha hb hst
theorem SZ.next(h:SZ m i j kn T E)(hj:m.2.1.length≤j):SZ m (i+1) 0 kn T E:=
 ⟨h.kv,h.sn,fun a b t e r hab ha hb hst=>h.ed a b t e r (by have:=(List.getElem?_eq_some_iff.1 hb).1;omega) ha hb hst,h.cov,h.ear,h.fst⟩
theorem SZ.edge(h:SZ m i j kn T E){t:List Int}{q:Nat}(ht:T[i]? =some t)(he:m.2.1[j]? =some e)(hs:mst m t e=some r)(hq:T[q]? =some r):SZ m i (j+1) kn T (E++[((i:Int),e,(q:Int))]):=by
 have hql:=(List.getElem?_eq_some_iff.1 hq).1;refine⟨h.kv,fun x hx=>?_,fun a b t' e' r' hab ha hb hst=>?_,fun k h0 h1=>?_,fun n hn k h0 h1=>?_,fun n hn hf=>?_⟩
 ·rcases yMa.1 hx with hx|hx
  ·exact h.sn x hx
  ·rw [yMs.1 hx];exact⟨i,q,t,r,rfl,rfl,ht,hq,hs⟩
 ·by_cases hx:a=i∧b=j
  ·obtain ⟨rfl,rfl⟩:=hx;rw [ht] at ha;rw [he] at hb;cases ha;cases hb;rw [hs] at hst;cases hst;exact⟨q,List.mem_append_right _ (yMs.2 rfl),hq⟩
  ·obtain ⟨q',g1,g2⟩:=h.ed a b t' e' r' (by omega) ha hb hst;exact⟨q',List.mem_append_left _ g1,g2⟩
 ·obtain ⟨x,hx,h2⟩:=h.cov k h0 h1;exact⟨x,List.mem_append_left _ hx,h2⟩
 ·rcases y7R hn with ⟨hn2,e2⟩|⟨hn2,e2⟩
  ·rw [e2] at h1;obtain⟨p,hp,h3,h4⟩:=h.ear n hn2 k h0 h1;exact⟨p,by simp;omega,h3,by rw [List.getElem_append_left hp];exact h4⟩
  ·rw [e2] at h1;dsimp only at h1;obtain⟨x,hx,h3⟩:=h.cov k.toNat (by omega) (by omega);obtain⟨p,hp,rfl⟩:=List.getElem_of_mem hx;exact⟨p,by simp;omega,by omega,by rw [List.getElem_append_left hp,h3];omega⟩
 ·rcases y7R hn with ⟨hn2,e2⟩|⟨hn2,e2⟩
  ·rw [e2];refine h.fst n hn2 fun p hp hpn=>?_;have:=hf p (by simp;omega) hpn;rwa [List.getElem_append_left hp,e2] at this
  ·rw [e2];dsimp only;by_cases hz:q=0
   ·left;omega
   ·exfalso;obtain⟨x,hx,h3⟩:=h.cov q (by omega) hql;obtain⟨p,hp,rfl⟩:=List.getElem_of_mem hx;have:=hf p (by simp;omega) (by omega);rw [List.getElem_append_left hp,e2,h3] at this;exact this rfl
theorem SZ.new(h:SZ m i j kn T E){t:List Int}(hi:i<T.length)(ht:T[i]? =some t)(he:m.2.1[j]? =some e)(hs:mst m t e=some r):SZ m i (j+1) (kput kn (keyK r) (T.length:Int)) (T++[r]) (E++[((i:Int),e,(T.length:Int))]):=by
 have hup:∀{a:Nat} {u:List Int},T[a]? =some u→(T++[r])[a]? =some u:=fun {a u} hu=>by rw [List.getElem?_append_left (List.getElem?_eq_some_iff.1 hu).1];exact hu
 have hnew:(T++[r])[T.length]? =some r:=by rw [List.getElem?_append_right (Nat.le_refl _)];simp
 have hto:∀x∈E,0≤x.2.2∧x.2.2<(T.length:Int):=fun x hx=>by
  obtain⟨a,q,u,v,_,h2,_,h4,_⟩:=h.sn x hx;have:=(List.getElem?_eq_some_iff.1 h4).1;omega
 refine⟨fun x hx=>?_,fun x hx=>?_,fun a b t' e' r' hab ha hb hst=>?_,fun k h0 h1=>?_,fun n hn k h0 h1=>?_,fun n hn hf=>?_⟩
 ·rcases yad hx with hx|hx
  ·obtain ⟨q,u,h1,h2,h3⟩:=h.kv x hx;exact⟨q,u,h1,hup h2,h3⟩
  ·rw [hx];exact⟨T.length,r,rfl,hnew,rfl⟩
 ·rcases yMa.1 hx with hx|hx
  ·obtain ⟨a,q,u,v,h1,h2,h3,h4,h5⟩:=h.sn x hx;exact⟨a,q,u,v,h1,h2,hup h3,hup h4,h5⟩
  ·rw [yMs.1 hx];exact⟨i,T.length,t,r,rfl,rfl,hup ht,hnew,hs⟩
 ·have hal:a<T.length:=by omega
  rw [List.getElem?_append_left hal] at ha;by_cases hx:a=i∧b=j
  ·obtain ⟨rfl,rfl⟩:=hx;rw [ht] at ha;rw [he] at hb;cases ha;cases hb;rw [hs] at hst;cases hst;exact⟨T.length,List.mem_append_right _ (yMs.2 rfl),hnew⟩
  ·obtain ⟨q',g1,g2⟩:=h.ed a b t' e' r' (by omega) ha hb hst;exact⟨q',List.mem_append_left _ g1,hup g2⟩
 ·by_cases hk:k<T.length
  ·obtain ⟨x,hx,h2⟩:=h.cov k h0 hk;exact⟨x,List.mem_append_left _ hx,h2⟩
  ·have:k=T.length:=by simp at h1;omega
   subst this;exact⟨_,List.mem_append_right _ (yMs.2 rfl),rfl⟩
 ·rcases y7R hn with ⟨hn2,e2⟩|⟨hn2,e2⟩
  ·rw [e2] at h1;obtain⟨p,hp,h3,h4⟩:=h.ear n hn2 k h0 h1;exact⟨p,by simp;omega,h3,by rw [List.getElem_append_left hp];exact h4⟩
  ·rw [e2] at h1;dsimp only at h1;obtain⟨x,hx,h3⟩:=h.cov k.toNat (by omega) (by omega);obtain⟨p,hp,rfl⟩:=List.getElem_of_mem hx;exact⟨p,by simp;omega,by omega,by rw [List.getElem_append_left hp,h3];omega⟩
 ·rcases y7R hn with ⟨hn2,e2⟩|⟨hn2,e2⟩
  ·rw [e2];refine h.fst n hn2 fun p hp hpn=>?_;have:=hf p (by simp;omega) hpn;rwa [List.getElem_append_left hp,e2] at this
  ·rw [e2];dsimp only;right;omega
end
theorem yiv{l:List AutT}{B:Nat}(h:LOkB B l){m:List AutT×List Int×List (List ((Int×Int)×Int))}(hm:MOk l m){i:Nat}{kn:Kno}{T:List (List Int)}{E:List (Int×Int×Int)}(z:Kno×List (List Int)×List Int×List (Int×Int×Int))(hS:SI l m.2.1 i 0 kn T E)(hZ:SZ m i 0 kn T E)(hi:i<T.length):
  ∃kn' T' E',iter (y2U m ((i:Int),z)) (0,kn,T,E)=some (.inl (kn',T',E'))∧SI l m.2.1 (i+1) 0 kn' T' E'∧SZ m (i+1) 0 kn' T' E'∧i<T'.length∧∃U,T'=T++U:=by
 have hal:=hm.ev.len;obtain⟨o,h1,h2⟩:=ye (f:=y2U m ((i:Int),z)) (fun j s=>s.1=(j:Int)∧j≤m.2.1.length∧SI l m.2.1 i j s.2.1 s.2.2.1 s.2.2.2∧SZ m i j s.2.1 s.2.2.1 s.2.2.2∧i<s.2.2.1.length∧∃U,s.2.2.1=T++U) (fun o=>∃kn' T' E',o= .inl (kn',T',E')∧SI l m.2.1 (i+1) 0 kn' T' E'∧SZ m (i+1) 0 kn' T' E'∧i<T'.length∧∃U,T'=T++U) m.2.1.length 0 (by omega) (fun j s hj ⟨e1,_,hS,hZ,hi,U,hU⟩=>by
   obtain⟨k,kn,T1,E⟩:=s;dsimp only at e1 hS hZ hi hU;subst e1;have hTl:=y9m h hS.nd hS.inT;have hj2:∀a b c,y2S ((j:Int),kn,T1,E) a b c=some (.inl (((j+1:Nat):Int),a,b,c)):=fun a b c=>by
    rw [y2S];dsimp only;rw [nxt (by omega)]
   have hj3:∀x b n c,y2T ((i:Int),z) ((j:Int),kn,T1,E) x b n c=some (.inl (((j+1:Nat):Int),c,b,E++[((i:Int),x,n)])):=fun x b n c=>by
    have he:=hS.el;have hi':i<4000:=by omega
    rw [y2T];dsimp only;rw [yi (by simp;omega),yOb,hj2]
   have hin:=hS.inT _ (yGm hi);obtain⟨r,hr,hrT,hrF⟩:=yiu h hm hin m.2.1[j];have hti:T1[i]? =some T1[i]:=yGe hi;have hej:m.2.1[j]? =some m.2.1[j]:=yGe hj;left;rw [y2U];dsimp only;rw [if_pos (ct_lt hj),ya hj,yOb,ya hi,yOb,hr,yOb];cases hb:r.2 with
   | false=>
    rw [if_pos (by simp),hj2];exact⟨_,rfl,rfl,by omega,hS.skip,hZ.skip hti hej (hrF hb),hi,U,hU⟩
   | true=>
    obtain⟨ht,hms⟩:=hrT hb;rw [if_neg (by simp),yg4 h ht,yOb];cases hg:kget kn (keyK r.1) with
    | none=>
     rw [if_pos (by simp),if_neg (by simp;omega),yOb,yi (by simp;omega),yOb,hj3];exact⟨_,rfl,rfl,by omega,hS.new hm.ev.1 hi hj ht (by rw [hg];rfl),hZ.new hi hti hej hms,by simp;omega,U++[r.1],by rw [hU,List.append_assoc]⟩
    | some v=>
     obtain⟨x,hx,hxv,hxk⟩:=yhk hg;obtain⟨q,u,g1,g2,g3⟩:=hZ.kv x hx;have hk:keyK r.1=keyK u:=(eqS hxk).trans g3;have hu:u∈T1:=List.mem_of_getElem? g2;have he:r.1=u:=yit (ht.hund h) ((hS.inT u hu).hund h) hk;rw [←he] at g2;have hql:=(List.getElem?_eq_some_iff.1 g2).1;have hvq:v=(q:Int):=by rw [←hxv];exact g1
     rw [if_neg (by simp),hj3,hvq];exact⟨_,rfl,rfl,by omega,hS.edge (q:=(q:Int)) hm.ev.1 hi hj (by omega) (by omega),hZ.edge (q:=q) hti hej hms g2,hi,U,hU⟩) (fun s ⟨e1,_,hS,hZ,hi,U,hU⟩=>by
   obtain⟨k,kn,T1,E⟩:=s;dsimp only at e1 hS hZ hi hU;subst e1;refine⟨.inl (kn,T1,E),?_,kn,T1,E,rfl,hS.next hal,hZ.next (Nat.le_refl _),hi,U,hU⟩;rw [y2U];dsimp only;rw [if_neg ct_ge]) (yZl _) (0,kn,T,E) ⟨rfl,yZl _,hS,hZ,hi,[],by simp⟩
 obtain⟨kn',T',E',rfl,h3,h4,h5,h6⟩:=h2;exact⟨kn',T',E',h1,h3,h4,h5,h6⟩
structure PrdZ (l:List AutT) (m:List AutT×List Int×List (List ((Int×Int)×Int))) (p:AutT) (T:List (List Int)) (n:Nat):Prop where
 right:Right p n
 pos:1≤n
 le:n≤4000
 tl:T.length=n
 nd:T.Nodup
 inT:∀t∈T,InT l t
 t0:∃t,T[0]? =some t∧yx m=some (t,true)
 ev:p.1=m.2.1
 sn:∀x∈p.2.2.2,∃(a q:Nat) (t r:List Int),x.1=(a:Int)∧x.2.2=(q:Int)∧T[a]? =some t∧T[q]? =some r∧mst m t x.2.1=some r
 ed:∀(a:Nat) (t:List Int) (e:Int) (r:List Int),T[a]? =some t→e∈p.1→mst m t e=some r→∃q:Nat,((a:Int),e,(q:Int))∈p.2.2.2∧T[q]? =some r
 num:Num (edsOf p) n
 mkd:∀(a:Nat) (t:List Int),T[a]? =some t→∃b,yG m t=some b∧(b=true↔(a:Int)∈p.2.2.1)
theorem yiw{l:List AutT}{B:Nat}(h:LOkB B l):∃m p T n,y5c l=some m∧MOk l m∧yo l=some (p,T,0)∧PrdZ l m p T n:=by
 obtain⟨m,hm,hM⟩:=yiq h;obtain⟨t0,ht0,hT0⟩:=yfo h hM;have hal:=hM.ev.len;have hS0:SI l m.2.1 0 0 (kput ([]:Kno) (keyK t0) 0) [t0] []:=by
  refine⟨by simp,by simp,fun t ht=>?_,fun t ht=>?_,fun e he=>?_,fun x hx=>(by cases hx),fun x hx=>(by cases hx),List.Pairwise.nil,by simp,fun k h0 h1=>?_⟩
  ·rw [yMs.1 ht];exact hT0
  ·rw [yMs.1 ht];exact yeg
  ·rcases yad he with he|he
   ·cases he
   ·rw [he];simp
  ·simp at h1;omega
 have hZ0:SZ m 0 0 (kput ([]:Kno) (keyK t0) 0) [t0] []:=by
  refine⟨fun e he=>?_,fun x hx=>(by cases hx),fun a b t e r hab=>by omega,fun k h0 h1=>by simp at h1;omega,fun n hn=>by simp at hn,fun n hn=>by simp at hn⟩;rcases yad he with he|he
  ·cases he
  ·rw [he];exact⟨0,t0,rfl,rfl,rfl⟩
 obtain⟨o,h1,h2⟩:=ye (f:=y2W m) (fun i s=>s.1=(i:Int)∧i≤s.2.2.1.length∧SI l m.2.1 i 0 s.2.1 s.2.2.1 s.2.2.2.2∧SZ m i 0 s.2.1 s.2.2.1 s.2.2.2.2∧Inc s.2.2.2.1∧(∀x∈s.2.2.2.1,0≤x∧x<(i:Int))∧s.2.2.1[0]? =some t0∧∀(a:Nat) (t:List Int),a<i→s.2.2.1[a]? =some t→∃b,yG m t=some b∧(b=true↔(a:Int)∈s.2.2.2.1)) (fun o=>∃T M E,o= .inl (T,M,E)∧∃kn,SI l m.2.1 T.length 0 kn T E∧SZ m T.length 0 kn T E∧Inc M∧(∀x∈M,0≤x∧x<(T.length:Int))∧T[0]? =some t0∧∀(a:Nat) (t:List Int),T[a]? =some t→∃b,yG m t=some b∧(b=true↔(a:Int)∈M)) 4000 0 (by omega) (fun i s _ ⟨e1,hle,hS,hZ,hi1,hi2,ht,hmk⟩=>by
   obtain⟨k,kn,T,M,E⟩:=s;dsimp only at e1 hle hS hZ hi1 hi2 ht hmk;subst e1;have hTl:=y9m h hS.nd hS.inT;by_cases hi:i<T.length
   ·left;obtain⟨b,hb⟩:=ygs h hM (hS.inT _ (yGm hi));obtain⟨kn',T',E',g1,g2,g3,g4,U,hU⟩:=yiv h hM (kn,T,M,E) hS hZ hi;have hj:∀M',y2V m ((i:Int),kn,T,M,E) M'=some (.inl (((i+1:Nat):Int),kn',T',M',E')):=fun M'=>by
     rw [y2V];dsimp only;rw [g1,yOb];dsimp only;rw [nxt (by omega)]
    have hTT:∀a,a<T.length→T'[a]? =T[a]? :=fun a ha=>by rw [hU,List.getElem?_append_left ha]
    have ht':T'[0]? =some t0:=by rw [hTT 0 (by omega)];exact ht
    have hmk':∀M':List Int,(∀x:Int,x≠(i:Int)→(x∈M'↔x∈M))→(b=true↔(i:Int)∈M')→∀(a:Nat) (t:List Int),a<i+1→T'[a]? =some t→∃b,yG m t=some b∧(b=true↔(a:Int)∈M'):=fun M' hM1 hM2 a t ha hat=>by
     rw [hTT a (by omega)] at hat;by_cases e:a=i
     ·subst e;rw [yGe hi] at hat;cases hat;exact⟨b,hb,hM2⟩
     ·obtain ⟨b',q1,q2⟩:=hmk a t (by omega) hat;exact⟨b',q1,by rw [q2,hM1 _ (by omega)]⟩
    rw [y2W];dsimp only;rw [if_pos (ct_lt hi),ya hi,yOb,hb,yOb];cases hbv:b with
    | false=>
     rw [if_neg (by simp),hj];exact⟨_,rfl,rfl,by dsimp only;omega,g2,g3,hi1,fun x hx=>by have:=hi2 x hx;omega,ht',hmk' M (fun x _=>Iff.rfl) ⟨fun e=>(by rw [hbv] at e;cases e),fun hx=>by have:=hi2 _ hx;omega⟩⟩
    | true=>
     have hMl:=y5f (n:=i) (lo:=0) hi1 hi2 (Int.le_refl _);rw [if_pos rfl,yi (by simp;omega),yOb,hj];refine⟨_,rfl,rfl,by dsimp only;omega,g2,g3,?_,fun x hx=>?_,ht',hmk' (M++[(i:Int)]) (fun x hx=>?_) ⟨fun _=>List.mem_append_right _ (yMs.2 rfl),fun _=>hbv⟩⟩
     ·dsimp only;unfold Inc at hi1 ⊢;rw [List.pairwise_append];exact⟨hi1,List.pairwise_singleton _ _,fun a ha b hb=>by rw [yMs.1 hb];exact(hi2 a ha).2⟩
     ·dsimp only at hx;rcases yMa.1 hx with hx|hx
      ·have:=hi2 x hx;omega
      ·rw [yMs.1 hx];omega
     ·rw [yMa,yMs];exact⟨fun h=>h.resolve_right hx,.inl⟩
   ·right;obtain rfl:i=T.length:=by omega
    refine⟨.inl (T,M,E),?_,T,M,E,rfl,kn,hS,hZ,hi1,hi2,ht,fun a t hat=>hmk a t (List.getElem?_eq_some_iff.1 hat).1 hat⟩;rw [y2W];dsimp only;rw [if_neg ct_ge]) (fun s ⟨e1,hle,hS,hZ,hi1,hi2,ht,hmk⟩=>by
   obtain⟨k,kn,T,M,E⟩:=s;dsimp only at e1 hle hS hZ hi1 hi2 ht hmk;subst e1;have hTl:=y9m h hS.nd hS.inT;have hT:4000=T.length:=by omega
   refine⟨.inl (T,M,E),?_,T,M,E,rfl,kn,by rw [←hT];exact hS,by rw [←hT];exact hZ,hi1,by rw [←hT];exact hi2,ht,fun a t hat=>hmk a t (by have:=(List.getElem?_eq_some_iff.1 hat).1;omega) hat⟩;rw [y2W];dsimp only;rw [hT,if_neg ct_ge]) (yZl _) (0,kput ([]:Kno) (keyK t0) 0,[t0],[],[]) ⟨rfl,by simp,hS0,hZ0,List.Pairwise.nil,fun x hx=>(by cases hx),rfl,fun a t ha=>by omega⟩
 obtain⟨T,M,E,rfl,kn,hS,hZ,hi1,hi2,ht,hmk⟩:=h2;have hTl:=y9m h hS.nd hS.inT;have hR:Right (m.2.1,(T.length:Int),M,E) T.length:=by
  refine⟨rfl,by omega,hM.ev.1,hM.ev.2,hi1,hi2,fun x hx=>?_,hS.so,by dsimp only;omega,?_,?_⟩
  ·have:=hS.er x hx;have h3:=hS.es x hx;refine⟨this.1,?_,this.2.2⟩;rcases Int.lt_or_le x.1 (T.length:Int) with h4|h4
   ·exact h4
   ·exact absurd (h3 (by omega)) (by simp)
  ·have:=y5f (n:=T.length) (lo:=0) hi1 hi2 (Int.le_refl _);dsimp only;omega
  ·have:=hS.el;dsimp only;omega
 have hel:(edsOf (m.2.1,(T.length:Int),M,E)).length=E.length:=List.length_map _;have hee:∀n (hn:n<(edsOf (m.2.1,(T.length:Int),M,E)).length) (hn':n<E.length),(edsOf (m.2.1,(T.length:Int),M,E))[n]=toEd E[n]:=fun n hn hn'=>by simp [edsOf]
 refine⟨m,(m.2.1,(T.length:Int),M,E),T,T.length,hm,hM,?_,hR,hS.pos,hTl,rfl,hS.nd,hS.inT,⟨t0,ht,ht0⟩,rfl,hZ.sn,fun a t e r ha he hst=>?_,⟨?_,fun x hx=>?_,fun k h0 h1=>?_,fun n hn k h0 h1=>?_,fun n hn hf=>?_⟩,hmk⟩
 ·rw [yo,ygr h,yOb,if_neg (by simp),hm,yOb,ht0,yOb,if_neg (by simp)];dsimp only;rw [yg4 h hT0,yOb,h1];rfl
 ·obtain ⟨b,hb,hbe⟩:=List.getElem_of_mem he;exact hZ.ed a b t e r (.inl (List.getElem?_eq_some_iff.1 ha).1) ha (by rw [yGe hb,hbe]) hst
 ·have:=hR.sorted;exact this
 ·have h3:=hR.ein x hx;have h4:=hR.evs x hx;exact⟨h3.1,h3.2.1,h3.2.2.1,h3.2.2.2,h4.1,h4.2⟩
 ·obtain ⟨x,hx,h3⟩:=hZ.cov k h0 h1;exact⟨toEd x,List.mem_map_of_mem hx,h3⟩
 ·have hn':n<E.length:=by omega
  rw [hee n hn hn'] at h1;obtain⟨p,hp,h3,h4⟩:=hZ.ear n hn' k h0 h1;exact⟨p,by omega,h3,by rw [hee p (by omega) hp];exact h4⟩
 ·have hn':n<E.length:=by omega
  rw [hee n hn hn'];refine hZ.fst n hn' fun p hp hpn=>?_;have:=hf p (by omega) hpn;rw [hee p (by omega) hp,hee n hn hn'] at this;exact this
def mg(kp:Bool→Bool→Bool):List Int→List Int→List Int
 | [],[]=> []
 | [],b::vs=>if kp false true=true then b::mg kp [] vs else mg kp [] vs
 | a::us,[]=>if kp true false=true then a::mg kp us [] else mg kp us []
 | a::us,b::vs=>if a<b then(if kp true false=true then a::mg kp us (b::vs) else mg kp us (b::vs)) else if b<a then(if kp false true=true then b::mg kp (a::us) vs else mg kp (a::us) vs) else(if kp true true=true then b::mg kp us vs else mg kp us vs)
termination_by us vs=>us.length+vs.length
theorem yb5{kp:Bool→Bool→Bool}{h:Int}{us' vs':List Int}{bu bv:Bool}(hr:Inc r∧∀x,x∈r↔((x∈us'∨x∈vs')∧kp (hasB us' x) (hasB vs' x)=true))
  (hu:∀x,x∈us↔(x=h∧bu=true)∨x∈us') (hv:∀x,x∈vs↔(x=h∧bv=true)∨x∈vs') (gu:∀x∈us',h<x) (gv:∀x∈vs',h<x) (hb:bu=true∨bv=true):
  Inc (if kp bu bv=true then h::r else r)∧∀x,x∈(if kp bu bv=true then h::r else r)↔((x∈us∨x∈vs)∧kp (hasB us x) (hasB vs x)=true):=by
 have e1:hasB us h=bu:=by
  rw [Bool.eq_iff_iff,yb,hu];exact⟨fun e=>e.elim (fun e=>e.2) (fun e=>by have:=gu _ e;omega),fun e=> .inl ⟨rfl,e⟩⟩
 have e2:hasB vs h=bv:=by
  rw [Bool.eq_iff_iff,yb,hv];exact⟨fun e=>e.elim (fun e=>e.2) (fun e=>by have:=gv _ e;omega),fun e=> .inl ⟨rfl,e⟩⟩
 have e3:∀x,x≠h→hasB us x=hasB us' x:=fun x hx=>by
  rw [Bool.eq_iff_iff,yb,yb,hu];exact⟨fun e=>e.elim (fun e=>absurd e.1 hx) id,.inr⟩
 have e4:∀x,x≠h→hasB vs x=hasB vs' x:=fun x hx=>by
  rw [Bool.eq_iff_iff,yb,yb,hv];exact⟨fun e=>e.elim (fun e=>absurd e.1 hx) id,.inr⟩
 have hgt:∀x∈r,h<x:=fun x hx=>((hr.2 x).1 hx).1.elim (gu x) (gv x);have hne:∀x,x≠h→(x∈r↔((x∈us∨x∈vs)∧kp (hasB us x) (hasB vs x)=true)):=fun x hx=>by
  rw [hr.2 x,e3 x hx,e4 x hx,hu,hv];constructor
  ·rintro ⟨h1|h1,h2⟩
   ·exact ⟨.inl (.inr h1),h2⟩
   ·exact ⟨.inr (.inr h1),h2⟩
  ·rintro ⟨(h1|h1)|(h1|h1),h2⟩
   ·exact absurd h1.1 hx
   ·exact ⟨.inl h1,h2⟩
   ·exact absurd h1.1 hx
   ·exact ⟨.inr h1,h2⟩
 have hh:(h∈us∨h∈vs):=hb.elim (fun e=> .inl ((hu h).2 (.inl ⟨rfl,e⟩))) (fun e=> .inr ((hv h).2 (.inl ⟨rfl,e⟩)));cases hk:kp bu bv with
 | true=>
  rw [if_pos rfl];refine⟨List.pairwise_cons.2 ⟨hgt,hr.1⟩,fun x=>?_⟩;rw [List.mem_cons];by_cases hx:x=h
  ·subst hx;exact⟨fun _=>⟨hh,by rw [e1,e2,hk]⟩,fun _=> .inl rfl⟩
  ·rw [←hne x hx];exact⟨fun e=>e.resolve_left hx,.inr⟩
 | false=>
  rw [if_neg (by simp)];refine⟨hr.1,fun x=>?_⟩;by_cases hx:x=h
  ·subst hx;refine⟨fun e=>absurd (hgt x e) (by omega),fun e=>?_⟩;rw [e1,e2,hk] at e;cases e.2
  ·exact hne x hx
theorem y4G(kp:Bool→Bool→Bool):∀(us vs:List Int),Inc us→Inc vs→Inc (mg kp us vs)∧∀x,x∈mg kp us vs↔((x∈us∨x∈vs)∧kp (hasB us x) (hasB vs x)=true)
 | [],[],_,_=>by
  rw [mg];exact⟨List.Pairwise.nil,fun x=>⟨fun h=>(by cases h),fun h=>(by rcases h.1 with h|h <;> cases h)⟩⟩
 | [],b::vs,_,hv=>by
  obtain⟨v1,v2⟩:=List.pairwise_cons.1 hv;rw [mg];exact yb5 (bu:=false) (bv:=true) (y4G kp [] vs List.Pairwise.nil v2) (fun x=>by simp) (fun x=>by simp) (fun x hx=>by cases hx) v1 (.inr rfl)
 | a::us,[],hu,_=>by
  obtain⟨u1,u2⟩:=List.pairwise_cons.1 hu;rw [mg];exact yb5 (bu:=true) (bv:=false) (y4G kp us [] u2 List.Pairwise.nil) (fun x=>by simp) (fun x=>by simp) u1 (fun x hx=>by cases hx) (.inl rfl)
 | a::us,b::vs,hu,hv=>by
  obtain⟨u1,u2⟩:=List.pairwise_cons.1 hu;obtain⟨v1,v2⟩:=List.pairwise_cons.1 hv;rw [mg];by_cases h1:a<b
  ·rw [if_pos h1];refine yb5 (bu:=true) (bv:=false) (y4G kp us (b::vs) u2 hv) (fun x=>by simp) (fun x=>by simp) u1 (fun x hx=>?_) (.inl rfl);rcases List.mem_cons.1 hx with rfl|hx
   ·exact h1
   ·have:=v1 x hx;omega
  ·rw [if_neg h1];by_cases h2:b<a
   ·rw [if_pos h2];refine yb5 (bu:=false) (bv:=true) (y4G kp (a::us) vs hu v2) (fun x=>by simp) (fun x=>by simp) (fun x hx=>?_) v1 (.inr rfl);rcases List.mem_cons.1 hx with rfl|hx
    ·exact h2
    ·have:=u1 x hx;omega
   ·obtain rfl:a=b:=by omega
    rw [if_neg h2];exact yb5 (bu:=true) (bv:=true) (y4G kp us vs u2 v2) (fun x=>by simp) (fun x=>by simp) u1 v1 (.inl rfl)
termination_by us vs=>us.length+vs.length
theorem ygt{kp:Bool→Bool→Bool}{f:Bool→Bool→Option Bool}(hf:∀a b,f a b=some (kp a b)){out:List Int}(hl:out.length≤4000000)(hne:0<us.length+vs.length):
  ∃o u v,yg f (out,us,vs)=some (.inl (o,u,v))∧o++mg kp u v=out++mg kp us vs∧o.length≤out.length+1∧u.length+v.length+1≤us.length+vs.length:=by
 have ho:∀a:Int,app out ([a]:List Int)=some (out++[a]):=fun a=>yi (by simp;omega);have fin:∀(bu bv:Bool) (h:Int) (u v:List Int),∃o,yq f (out,us,vs) bu bv u v h=some (.inl (o,u,v))∧o++mg kp u v=out++(if kp bu bv=true then h::mg kp u v else mg kp u v)∧o.length≤out.length+1:=fun bu bv h u v=>by
  rw [yq,hf,yOb];dsimp only;cases kp bu bv with
  | true=>rw [if_pos rfl,ho,yOb];exact⟨_,rfl,by simp,by simp⟩
  | false=>rw [if_neg (by simp)];exact⟨_,rfl,by simp,by omega⟩
 cases us with
 | nil=>
  cases vs with
  | nil=>simp at hne
  | cons b vs=>
   obtain⟨o,h1,h2,h3⟩:=fin false true b [] vs;refine⟨o,[],vs,?_,by rw [h2,mg],h3,by simp⟩;rw [yg];dsimp only;rw [if_pos (by simp),if_neg (by simp),yr];dsimp only;rw [if_pos (by simp),if_pos (by simp),ym,if_neg (by simp),yk,if_pos rfl];dsimp only;rw [y1s,yOb,y4Y,yOb];exact h1
 | cons a us=>
  cases vs with
  | nil=>
   obtain⟨o,h1,h2,h3⟩:=fin true false a us [];refine⟨o,us,[],?_,by rw [h2,mg],h3,by simp⟩;rw [yg];dsimp only;rw [if_pos (by simp),if_pos (by simp),if_pos (by simp),yr];dsimp only;rw [if_neg (by simp),ym,if_pos rfl];dsimp only;rw [y1s,yOb,y4Y,yOb,yk,if_neg (by simp)];exact h1
  | cons b vs=>
   have e0:yg f (out,a::us,b::vs)=ym f (out,a::us,b::vs) (decide (a≤b)) (decide (b≤a)):=by
    rw [yg];dsimp only;rw [if_pos (by simp),if_pos (by simp),if_neg (by simp;omega),y1s,yOb,y1s,yOb,yr];dsimp only;rw [if_pos (by simp),if_neg (by simp;omega),y1s,yOb,y1s,yOb]
   rw [e0,ym];dsimp only;by_cases h1:a<b
   ·obtain ⟨o,g1,g2,g3⟩:=fin true false a us (b::vs);refine⟨o,us,b::vs,?_,by rw [g2,mg,if_pos h1],g3,by simp;omega⟩;rw [show decide (a≤b)=true by simp;omega,show decide (b≤a)=false by simp;omega,if_pos rfl,y1s,yOb,y4Y,yOb,yk,if_neg (by simp)];exact g1
   ·by_cases h2:b<a
    ·obtain ⟨o,g1,g2,g3⟩:=fin false true b (a::us) vs;refine⟨o,a::us,vs,?_,by rw [g2,mg,if_neg h1,if_pos h2],g3,by simp;omega⟩;rw [show decide (a≤b)=false by simp;omega,show decide (b≤a)=true by simp;omega,if_neg (by simp),yk,if_pos rfl];dsimp only;rw [y1s,yOb,y4Y,yOb];exact g1
    ·obtain ⟨o,g1,g2,g3⟩:=fin true true b us vs;refine⟨o,us,vs,?_,by rw [g2,mg,if_neg h1,if_neg h2],g3,by simp;omega⟩;rw [show decide (a≤b)=true by simp;omega,show decide (b≤a)=true by simp;omega,if_pos rfl,y1s,yOb,y4Y,yOb,yk,if_pos rfl];dsimp only;rw [y1s,yOb,y4Y,yOb];exact g1
theorem ycX{kp:Bool→Bool→Bool}{f:Bool→Bool→Option Bool}(hf:∀a b,f a b=some (kp a b))(hu:us.length≤1000000)(hv:vs.length≤1000000):y2R us vs f=some (mg kp us vs):=by
 obtain⟨o,h1,h2⟩:=ye (f:=yg f) (fun i s=>s.1++mg kp s.2.1 s.2.2=mg kp us vs∧s.1.length≤i∧s.2.1.length+s.2.2.length+i≤us.length+vs.length) (fun o=>o=mg kp us vs) (us.length+vs.length) 0 (by omega) (fun i s hi ⟨g1,g0,g2⟩=>by
   obtain⟨out,u,v⟩:=s;dsimp only at g1 g0 g2;by_cases hne:0<u.length+v.length
   ·obtain ⟨o,u',v',e,g3,g5,g4⟩:=ygt hf (out:=out) (by omega) hne;exact .inl ⟨_,e,by rw [←g1];exact g3,by dsimp only;omega,by dsimp only;omega⟩
   ·have e1:u= []:=List.eq_nil_of_length_eq_zero (by omega);have e2:v= []:=List.eq_nil_of_length_eq_zero (by omega);subst e1;subst e2;rw [mg,List.append_nil] at g1;exact .inr ⟨out,rfl,g1⟩) (fun s ⟨g1,g0,g2⟩=>by
   obtain⟨out,u,v⟩:=s;dsimp only at g1 g2;have e1:u= []:=List.eq_nil_of_length_eq_zero (by omega);have e2:v= []:=List.eq_nil_of_length_eq_zero (by omega);subst e1;subst e2;rw [mg,List.append_nil] at g1;exact⟨out,rfl,g1⟩) (yZl _) ([],us,vs) ⟨rfl,by simp,by dsimp only;omega⟩
 rw [y2R,h1,h2];rfl
theorem yei(hu:us.length≤1000000)(hv:vs.length≤1000000):y5a us vs=some (mg (fun a b=>a||b) us vs):=by
 rw [y5a,ycX (f:=yC) (kp:=fun a b=>a||b) (fun a b=>rfl) hu hv];rfl
def st1(a:AutT)(s e:Int):Option Int:=(a.2.2.2.find? fun x=>x.1==s&&x.2.1==e).map fun x=>x.2.2
theorem y7q{a:AutT}{n:Nat}(hr:Right a n){s t:Int}:st1 a s e=some t↔(s,e,t)∈a.2.2.2:=by
 unfold st1;rw [Option.map_eq_some_iff];constructor
 ·rintro ⟨x,h1,rfl⟩;have h2:=List.find?_some h1;have h3:=List.mem_of_find?_eq_some h1;simp only [Bool.and_eq_true,beq_iff_eq] at h2;obtain⟨rfl,rfl⟩:=h2;exact h3
 ·intro h;cases hf:a.2.2.2.find? fun x=>x.1==s&&x.2.1==e with
  | none=>exact absurd (List.find?_eq_none.1 hf _ h) (by simp)
  | some x=>
   refine⟨x,rfl,?_⟩;have h2:=List.find?_some hf;have h3:=List.mem_of_find?_eq_some hf;simp only [Bool.and_eq_true,beq_iff_eq] at h2;obtain⟨i,hi,e1⟩:=List.getElem_of_mem h;obtain⟨j,hj,e2⟩:=List.getElem_of_mem h3;rcases Nat.lt_trichotomy i j with hij|hij|hij
   ·have:=List.pairwise_iff_getElem.1 hr.so i j hi hj hij;rw [e1,e2] at this;dsimp only at this;omega
   ·subst hij;rw [e1] at e2;rw [←e2]
   ·have:=List.pairwise_iff_getElem.1 hr.so j i hj hi hij;rw [e1,e2] at this;dsimp only at this;omega
theorem y7A{a:AutT}{n:Nat}(hr:Right a n){s t:Int}(h:st1 a s e=some t):0≤s∧s<(n:Int)∧0≤t∧t<(n:Int)∧e∈a.1:=hr.es _ ((y7q hr).1 h)
theorem yg6{es:List (Int×Int×Int)}(so:es.Pairwise fun x y=>x.1<y.1∨(x.1=y.1∧x.2.1<y.2.1)){i:Nat}(hi:i<es.length)(q:Int×Int):
  ((es.take (i+1)).find? fun x=>x.1==q.1&&x.2.1==q.2).map (fun x=>x.2.2)=if q=(es[i].1,es[i].2.1) then some es[i].2.2 else((es.take i).find? fun x=>x.1==q.1&&x.2.1==q.2).map fun x=>x.2.2:=by
 rw [yTs hi,List.find?_append];by_cases h:q=(es[i].1,es[i].2.1)
 ·rw [if_pos h];have hn:(es.take i).find? (fun x=>x.1==q.1&&x.2.1==q.2)=none:=by
   rw [List.find?_eq_none];intro x hx hx2;simp only [Bool.and_eq_true,beq_iff_eq] at hx2;obtain⟨k,hk,rfl⟩:=List.getElem_of_mem hx;rw [List.length_take] at hk;rw [List.getElem_take,h] at hx2;have:=List.pairwise_iff_getElem.1 so k i (by omega) hi (by omega);omega
  rw [hn,Option.none_or,List.find?_cons_of_pos (by rw [h];simp)];rfl
 ·rw [if_neg h,List.find?_cons_of_neg (by
   intro hx;simp only [Bool.and_eq_true,beq_iff_eq] at hx;exact h (by rw [hx.1,hx.2])),List.find?_nil,Option.or_none]
theorem yej{a:AutT}{n:Nat}(hr:Right a n):∃o,iter (y1K a) (0,([]:List ((Int×Int)×Int)))=some o∧∀q:Int×Int,kget o q=st1 a q.1 q.2:=by
 have hl:=hr.l3;refine ye (f:=y1K a) (fun i s=>s.1=(i:Int)∧∀q:Int×Int,kget s.2 q=((a.2.2.2.take i).find? fun x=>x.1==q.1&&x.2.1==q.2).map fun x=>x.2.2) (fun o=>∀q:Int×Int,kget o q=st1 a q.1 q.2) a.2.2.2.length 0 (by omega) (fun i s hi ⟨e1,g1⟩=>?_) (fun s ⟨e1,g1⟩=>?_) (yZl _) _ ⟨rfl,fun q=>rfl⟩
 ·obtain ⟨k,out⟩:=s;dsimp only at e1 g1;subst e1;refine .inl ⟨(((i+1:Nat):Int),kput out (a.2.2.2[i].1,a.2.2.2[i].2.1) a.2.2.2[i].2.2),?_,rfl,fun q=>?_⟩
  ·rw [y1K];dsimp only;rw [if_pos (ct_lt hi),ya hi,yOb,nxt (by omega)]
  ·dsimp only;rw [y5A,yg6 hr.so hi,g1]
 ·obtain ⟨k,out⟩:=s;dsimp only at e1 g1;subst e1;rw [List.take_length] at g1;refine⟨out,?_,g1⟩;rw [y1K];dsimp only;rw [if_neg ct_ge]
theorem ygu(hP:Alp P.1)(hS:Alp S.1):y5b [P,S]=some (mg (fun a b=>a||b) P.1 S.1):=by
 have l1:=hP.len;have l2:=hS.len;have h0:mg (fun a b=>a||b) [] P.1=P.1:=by
  have h:=y4G (fun a b=>a||b) [] P.1 List.Pairwise.nil hP.1;refine y9Q (lt:=fun a b:Int=>a<b) (fun a b h1 h2=>by omega) h.1 hP.1 fun x=>?_;rw [h.2];constructor
  ·rintro ⟨h1|h1,_⟩
   ·cases h1
   ·exact h1
  ·intro h1;refine⟨.inr h1,?_⟩;rw [yb.2 h1];simp
 have h:iter (y1J [P,S]) (0,[])=some (mg (fun a b=>a||b) P.1 S.1):=by
  refine y2M (n:=3) (by omega) ?_;rw [yc,y1J];dsimp only;rw [if_pos (by simp),show idx [P,S] 0=some P from rfl,yOb,yei (by simp) (by omega),yOb,h0];dsimp only;rw [yc,y1J];dsimp only;rw [show W (0+1)=1 from rfl,if_pos (by simp),show idx [P,S] 1=some S from rfl,yOb,yei (by omega) (by omega),yOb];dsimp only;rw [yc,y1J];dsimp only;rw [show W (1+1)=2 from rfl,if_neg (by simp)]
 rw [y5b,h];rfl
theorem yf6(hP:Right P n1)(hS:Right S n2):∃o1 o2,y5c [P,S]=some ([P,S],mg (fun a b=>a||b) P.1 S.1,[o1,o2])∧(∀q:Int×Int,kget o1 q=st1 P q.1 q.2)∧∀q:Int×Int,kget o2 q=st1 S q.1 q.2:=by
 obtain⟨o1,h1,g1⟩:=yej hP;obtain⟨o2,h2,g2⟩:=yej hS;refine⟨o1,o2,?_,g1,g2⟩;have h:iter (y2x [P,S]) (0,[])=some [o1,o2]:=by
  refine y2M (n:=3) (by omega) ?_;rw [yc,y2x];dsimp only;rw [if_pos (by simp),show idx [P,S] 0=some P from rfl,yOb,h1,yOb,yi (by simp),yOb];dsimp only;rw [yc,y2x];dsimp only;rw [show W (0+1)=1 from rfl,if_pos (by simp),show idx [P,S] 1=some S from rfl,yOb,h2,yOb,yi (by simp),yOb];dsimp only;rw [yc,y2x];dsimp only;rw [show W (1+1)=2 from rfl,if_neg (by simp)];rfl
 rw [y5c,ygu ⟨hP.ali,hP.alr⟩ ⟨hS.ali,hS.alr⟩,yOb,h];rfl
def pst(P S:AutT)(x y e:Int):Option (Int×Int):=(if hasB P.1 e=true then st1 P x e else some x).bind fun x'=>(if hasB S.1 e=true then st1 S y e else some y).map fun y'=>(x',y')
theorem yjL(hP:Right P n1)(hS:Right S n2){ev:List Int}{o1 o2:List ((Int×Int)×Int)}(g1:∀q:Int×Int,kget o1 q=st1 P q.1 q.2)(g2:∀q:Int×Int,kget o2 q=st1 S q.1 q.2)(x y e:Int):
  yU ([P,S],ev,[o1,o2]) [x,y] e=some (match pst P S x y e with
   | some u=>([u.1,u.2],true)
   | none=>([],false)):=by
 have l1:=hP.l1;have l2:=hS.l1;have f0:yn ([P,S],ev,[o1,o2]) [x,y] e (0,[x,y])=some (match (if hasB P.1 e=true then st1 P x e else some x) with
   | some x'=> .inl (1,[x',y])
   | none=> .inr (.inr ())):=by
  rw [yn];dsimp only;rw [if_pos (by simp),show idx [P,S] 0=some P from rfl,yOb,y6x (by omega) hP.ali,yOb];cases hb:hasB P.1 e with
  | false=>
   rw [if_pos (by simp),yy,if_neg (by simp)];rfl
  | true=>
   rw [if_neg (by simp),show idx [o1,o2] 0=some o1 from rfl,yOb,show idx [x,y] 0=some x from rfl,yOb,g1,if_pos rfl];dsimp only;cases st1 P x e with
   | none=>rw [if_pos (by simp)]
   | some v=>
    rw [if_neg (by simp),yOb,show upd [x,y] 0 ((some v).getD 0)=some [v,y] from rfl,yOb,yy];rfl
 have f1:∀x',yn ([P,S],ev,[o1,o2]) [x,y] e (1,[x',y])=some (match (if hasB S.1 e=true then st1 S y e else some y) with
   | some y'=> .inl (2,[x',y'])
   | none=> .inr (.inr ())):=fun x'=>by
  rw [yn];dsimp only;rw [if_pos (by simp),show idx [P,S] 1=some S from rfl,yOb,y6x (by omega) hS.ali,yOb];cases hb:hasB S.1 e with
  | false=>
   rw [if_pos (by simp),yy,if_neg (by simp)];rfl
  | true=>
   rw [if_neg (by simp),show idx [o1,o2] 1=some o2 from rfl,yOb,show idx [x,y] 1=some y from rfl,yOb,g2,if_pos rfl];dsimp only;cases st1 S y e with
   | none=>rw [if_pos (by simp)]
   | some v=>
    rw [if_neg (by simp),show idx [x',y] 1=some y from rfl,yOb,show upd [x',y] 1 ((some v).getD 0)=some [x',v] from rfl,yOb,yy];rfl
 have f2:∀u,yn ([P,S],ev,[o1,o2]) [x,y] e (2,u)=some (.inr (.inl u)):=fun u=>by
  rw [yn];dsimp only;rw [if_neg (by simp)]
 have h:iter (yn ([P,S],ev,[o1,o2]) [x,y] e) (0,[x,y])=some (match pst P S x y e with
   | some u=> .inl [u.1,u.2]
   | none=> .inr ()):=by
  refine y2M (n:=3) (by omega) ?_;rw [yc,f0];unfold pst;cases (if hasB P.1 e=true then st1 P x e else some x) with
  | none=>rfl
  | some x'=>
   dsimp only;rw [yc,f1,yOb];cases (if hasB S.1 e=true then st1 S y e else some y) with
   | none=>rfl
   | some y'=>
    dsimp only;rw [yc,f2];rfl
 rw [yU,y8o (by simp),yOb,h,yOb];cases pst P S x y e <;> rfl
structure Loop (P S p:AutT) (T:List (List Int)) (n:Nat):Prop where
 right:Right p n
 pos:1≤n
 le:n≤4000
 tl:T.length=n
 nd:T.Nodup
 tt:∀t∈T,∃x y,t= [x,y]∧0≤x∧x<P.2.1∧0≤y∧y<S.2.1
 t0:T[0]? =some [0,0]
 ev:∀e,e∈p.1↔e∈P.1∨e∈S.1
 no:∀(a:Nat) (x y e:Int),T[a]? =some [x,y]→e∈p.1→pst P S x y e=none→st1 p (a:Int) e=none
 yes:∀(a:Nat) (x y e x' y':Int),T[a]? =some [x,y]→e∈p.1→pst P S x y e=some (x',y')→∃q:Nat,st1 p (a:Int) e=some (q:Int)∧T[q]? =some [x',y']
 num:Num (edsOf p) n
theorem yjM(hP:Right P n1)(hS:Right S n2){ev:List Int}{o1 o2:List ((Int×Int)×Int)}(g1:∀q:Int×Int,kget o1 q=st1 P q.1 q.2)(g2:∀q:Int×Int,kget o2 q=st1 S q.1 q.2)(x y e:Int):
  mst ([P,S],ev,[o1,o2]) [x,y] e=(pst P S x y e).map fun u=> [u.1,u.2]:=by
 unfold mst;rw [yjL hP hS g1 g2];cases pst P S x y e <;> rfl
theorem yjN{B:Nat}(hP:Right P n1)(hS:Right S n2)(p1:1≤n1)(p2:1≤n2)(b1:n1≤B)(b2:n2≤B)(hB:B≤99)(hBB:B*B≤4000):∃p T n,yo [P,S]=some (p,T,0)∧Loop P S p T n:=by
 have hL:LOkB B [P,S]:=⟨by simp,fun a ha=>by
  rcases List.mem_cons.1 ha with rfl|ha
  ·exact ⟨n1,p1,b1,hP⟩
  ·rw [yMs.1 ha];exact⟨n2,p2,b2,hS⟩,hB,by
  show B ^ 2≤4000;rw [Nat.pow_two];exact hBB⟩
 obtain⟨m,p,T,n,h1,h2,h3,h⟩:=yiw hL;obtain⟨o1,o2,e1,g1,g2⟩:=yf6 hP hS;rw [h1] at e1;obtain rfl:=Option.some.inj e1;have htt:∀t∈T,∃x y,t= [x,y]∧0≤x∧x<P.2.1∧0≤y∧y<S.2.1:=fun t ht=>by
  obtain⟨hl,hr⟩:=h.inT t ht
  match t,hl,hr with
  | [x,y],_,hr=>
   have q1:=hr 0 (by simp) (by simp);have q2:=hr 1 (by simp) (by simp);exact⟨x,y,rfl,q1.1,q1.2,q2.1,q2.2⟩
 have hms:=yjM hP hS (ev:=mg (fun a b=>a||b) P.1 S.1) g1 g2;have hev:p.1=mg (fun a b=>a||b) P.1 S.1:=h.ev;refine⟨p,T,n,h3,h.right,h.pos,h.le,h.tl,h.nd,htt,?_,fun e=>?_,fun a x y e ha he hp=>?_,fun a x y e x' y' ha he hp=>?_,h.num⟩
 ·obtain ⟨t,q1,q2⟩:=h.t0;rw [q1];have hin:yx ([P,S],mg (fun a b=>a||b) P.1 S.1,[o1,o2])=some ([0,0],true):=by
   have hi:iter (yl ([P,S],mg (fun a b=>a||b) P.1 S.1,[o1,o2])) 0=some (.inl ()):=by
    refine y2M (n:=3) (by omega) ?_;rw [yc,yl];dsimp only;rw [if_pos (by simp),show idx [P,S] 0=some P from rfl,yOb,hP.nn,if_neg (by simp;omega)];dsimp only;rw [yc,yl];dsimp only;rw [show W (0+1)=1 from rfl,if_pos (by simp),show idx [P,S] 1=some S from rfl,yOb,hS.nn,if_neg (by simp;omega)];dsimp only;rw [yc,yl];dsimp only;rw [show W (1+1)=2 from rfl,if_neg (by simp)]
   rw [yx,hi,yOb];dsimp only;rw [y9n (by simp) (by simp),yOb];rfl
  rw [hin] at q2;cases q2;rfl
 ·have hsp:=y4G (fun a b=>a||b) P.1 S.1 hP.ali hS.ali;rw [hev,hsp.2];constructor
  ·exact fun q=>q.1
  ·intro q;refine⟨q,?_⟩;rcases q with q|q
   ·rw [yb.2 q];rfl
   ·rw [yb.2 q];simp
 ·cases hs:st1 p (a:Int) e with
  | none=>rfl
  | some t=>
   obtain⟨a',q,u,r,k1,k2,k3,k4,k5⟩:=h.sn _ ((y7q h.right).1 hs);dsimp only at k1 k2 k5;have:a'=a:=by omega
   subst this;rw [ha] at k3;cases k3;rw [hms,hp] at k5;cases k5
 ·have hm:mst ([P,S],mg (fun a b=>a||b) P.1 S.1,[o1,o2]) [x,y] e=some [x',y']:=by rw [hms,hp];rfl
  obtain⟨q,k1,k2⟩:=h.ed a [x,y] e [x',y'] ha he hm;exact⟨q,(y7q h.right).2 k1,k2⟩
theorem yax{n:Int}{xs:List Int}(h:yu n none xs=0):Inc xs∧∀x∈xs,0≤x∧x<n:=by
 have key:∀(xs:List Int) (p:Option Int),yu n p xs=0→Inc xs∧(∀x∈xs,0≤x∧x<n)∧∀q,p=some q→∀x∈xs,q<x:=by
  intro xs
  induction xs with
  | nil=>intro p _;exact⟨List.Pairwise.nil,fun x hx=>(by cases hx),fun q _ x hx=>(by cases hx)⟩
  | cons y xs ih=>
   intro p h;rw [yu] at h;split at h
   ·cases h
   ·rename_i h1;split at h
    ·cases h
    ·rename_i h2;obtain⟨g1,g2,g3⟩:=ih _ h;refine⟨List.pairwise_cons.2 ⟨fun z hz=>g3 y rfl z hz,g1⟩,fun x hx=>?_,fun q hq x hx=>?_⟩
     ·rcases List.mem_cons.1 hx with rfl|hx
      ·omega
      ·exact g2 x hx
     ·have hqy:q<y:=by
       have:¬y≤q:=fun hc=>h2 ⟨q,hq,hc⟩;omega
      rcases List.mem_cons.1 hx with rfl|hx
      ·exact hqy
      ·have:=g3 y rfl x hx;omega
 exact⟨(key xs none h).1,(key xs none h).2.1⟩
theorem ygv{a:Aut}(h:a.err=0):yu 32 none a.al=0∧0≤a.n∧a.n≤4096∧yu a.n none a.ms=0∧edErr a.al a.n none a.es=0:=by
 unfold Aut.err at h;split at h
 ·rename_i h1;rw [h] at h1;exact absurd h1 (by decide)
 ·rename_i h1;split at h
  ·cases h
  ·split at h
   ·cases h
   ·split at h
    ·rename_i h4;rw [h] at h4;exact absurd h4 (by decide)
    ·rename_i h2 h3 h4;exact⟨by simpa using h1,by omega,by omega,by simpa using h4,h⟩
theorem yg7{al:List Int}{n:Int}:∀(es:List Ed) (p:Option Ed),edErr al n p es=0→ydk es∧(∀q,p=some q→∀x∈es,edLt q x)∧∀x∈es,x.e∈al
 | [],_,_=>⟨List.Pairwise.nil,fun _ _ x hx=>(by cases hx),fun x hx=>(by cases hx)⟩
 | y::es,p,h=>by
  rw [edErr] at h;split at h
  ·cases h
  ·split at h
   ·cases h
   ·rename_i h2;split at h
    ·cases h
    ·rename_i h3;obtain⟨g1,g2,g4⟩:=yg7 es _ h;have g3:=g2 y rfl;refine⟨List.pairwise_cons.2 ⟨g3,g1⟩,fun q hq x hx=>?_,fun x hx=>?_⟩
     ·have hqy:edLt q y:=by
       have h4:¬(y.f<q.f∨(y.f=q.f∧y.e≤q.e)):=fun hc=>h3 ⟨q,hq,hc⟩;unfold edLt;omega
      rcases List.mem_cons.1 hx with rfl|hx
      ·exact hqy
      ·have h5:=g3 x hx;unfold edLt at hqy h5 ⊢;omega
     ·rcases List.mem_cons.1 hx with rfl|hx
      ·exact yb.1 (by simpa using h2)
      ·exact g4 x hx
theorem yek{a:AutT}(h:(toAut a).err=0)(h1:a.1.length≤1000000)(h2:a.2.2.1.length≤1000000)(h3:a.2.2.2.length≤1000000):Right a a.2.1.toNat:=by
 obtain⟨g1,g2,g3,g4,g5⟩:=ygv h;have hok:=Aut.ok_of h;obtain⟨e1,_,e3⟩:=yg7 _ _ g5;obtain⟨al1,al2⟩:=yax g1;obtain⟨ms1,ms2⟩:=yax g4;have hn:(toAut a).n=a.2.1:=rfl;rw [hn] at g2 g3;have hnn:((a.2.1.toNat:Nat):Int)=a.2.1:=Int.toNat_of_nonneg g2;refine⟨hnn.symm,by omega,al1,al2,ms1,fun x hx=>by rw [hnn];exact ms2 x hx,fun x hx=>?_,?_,h1,h2,h3⟩
 ·have:=hok.es (toEd x) (List.mem_map_of_mem hx);have h4:=e3 (toEd x) (List.mem_map_of_mem hx);rw [hnn];exact⟨this.1,this.2.1,this.2.2.1,this.2.2.2,h4⟩
 ·have e1:(a.2.2.2.map toEd).Pairwise edLt:=e1;rw [List.pairwise_map] at e1;exact e1
theorem yfp{a:AutT}(h1:a.1.length≤1000000)(h2:a.2.2.1.length≤1000000)(h3:a.2.2.2.length≤1000000):y1p a=some (toAut a).err:=by
 have:=ybu (a:=toAut a) (by simp [toAut];omega) (by simp [toAut];omega) (by simp [toAut];omega);rwa [y9P] at this
abbrev GrT :=AutT×List ((Int×Int)×Int)
abbrev TaskT :=GrT×GrT×GrT×List (List Int)×List Int×List Int
abbrev ProbT :=AutT×AutT×List Int
theorem ybv{a:AutT}{n:Nat}(hr:Right a n):∃o,y6q a=some (a,o)∧∀q:Int×Int,kget o q=st1 a q.1 q.2:=by
 have hl:=hr.l3;obtain⟨o,h1,h2⟩:=ye (f:=y7D a) (fun i s=>s.1=(i:Int)∧∀q:Int×Int,kget s.2 q=((a.2.2.2.take i).find? fun x=>x.1==q.1&&x.2.1==q.2).map fun x=>x.2.2) (fun o=>∀q:Int×Int,kget o q=st1 a q.1 q.2) a.2.2.2.length 0 (by omega) (fun i s hi ⟨e1,g1⟩=>by
   obtain⟨k,out⟩:=s;dsimp only at e1 g1;subst e1;refine .inl ⟨(((i+1:Nat):Int),kput out (a.2.2.2[i].1,a.2.2.2[i].2.1) a.2.2.2[i].2.2),?_,rfl,fun q=>?_⟩
   ·rw [y7D];dsimp only;rw [if_pos (ct_lt hi),ya hi,yOb,nxt (by omega)]
   ·dsimp only;rw [y5A,yg6 hr.so hi,g1]) (fun s ⟨e1,g1⟩=>by
   obtain⟨k,out⟩:=s;dsimp only at e1 g1;subst e1;rw [List.take_length] at g1;refine⟨out,?_,g1⟩;rw [y7D];dsimp only;rw [if_neg ct_ge]) (yZl _) (0,[]) ⟨rfl,fun q=>rfl⟩
 exact⟨o,by rw [y6q,h1];rfl,h2⟩
def GrOk(g:GrT)(a:AutT):Prop:=g.1=a∧∀q:Int×Int,kget g.2 q=st1 a q.1 q.2
theorem to_eq{g:GrT}{a:AutT}(h:GrOk g a)(s e:Int):y2B g s e=some ((st1 a s e).getD (-1)):=by
 rw [y2B,h.2 (s,e)];cases st1 a s e <;> rfl
structure LoopZ (P S p:AutT) (T:List (List Int)) (n:Nat):Prop where
 right:Right p n
 le:n≤4000
 tl:T.length=n
 nd:T.Nodup
 tt:∀t∈T,∃x y,t= [x,y]∧0≤x∧x<P.2.1∧0≤y∧y<S.2.1
 t0:0<n→T[0]? =some [0,0]
 zero:n=0↔P.2.1=0∨S.2.1=0
 ev:∀e,e∈p.1↔e∈P.1∨e∈S.1
 no:∀(a:Nat) (x y e:Int),T[a]? =some [x,y]→e∈p.1→pst P S x y e=none→st1 p (a:Int) e=none
 yes:∀(a:Nat) (x y e x' y':Int),T[a]? =some [x,y]→e∈p.1→pst P S x y e=some (x',y')→∃q:Nat,st1 p (a:Int) e=some (q:Int)∧T[q]? =some [x',y']
 num:Num (edsOf p) n
theorem yhm(hP:Right P n1)(hS:Right S n2):y5C [P,S]=some 0:=by
 have h1:iter (y1X [P,S]) 0=some (.inl ()):=by
  refine y2M (n:=3) (by omega) ?_;rw [yc,y1X,if_pos (by simp),show idx [P,S] 0=some P from rfl,yOb,hP.check,yOb,if_neg (by simp)];dsimp only;rw [yc,y1X,show W (0+1)=1 from rfl,if_pos (by simp),show idx [P,S] 1=some S from rfl,yOb,hS.check,yOb,if_neg (by simp)];dsimp only;rw [yc,y1X,show W (1+1)=2 from rfl,if_neg (by simp)]
 rw [y5C,if_neg (by simp),h1];rfl
theorem yix(hP:Right P n1)(hS:Right S n2)(b1:n1≤40)(b2:n2≤40):∃p T n,yo [P,S]=some (p,T,0)∧LoopZ P S p T n:=by
 by_cases h0:n1=0∨n2=0
 ·obtain ⟨o1,o2,h1,g1,g2⟩:=yf6 hP hS;have hi:∀ev,yx ([P,S],ev,[o1,o2])=some ([],false):=fun ev=>by
   have h2:iter (yl ([P,S],ev,[o1,o2])) 0=some (.inr ()):=by
    refine y2M (n:=2) (by omega) ?_;rw [yc,yl];dsimp only;rw [if_pos (by simp),show idx [P,S] 0=some P from rfl,yOb,hP.nn];by_cases h1:n1=0
    ·rw [if_pos (by simp [h1])]
    ·rw [if_neg (by simp;omega)];dsimp only;rw [yc,yl];dsimp only;rw [show W (0+1)=1 from rfl,if_pos (by simp),show idx [P,S] 1=some S from rfl,yOb,hS.nn,if_pos (by simp;omega)]
   rw [yx,h2];rfl
  have hsp:=y4G (fun a b=>a||b) P.1 S.1 hP.ali hS.ali;have hev:∀e,e∈mg (fun a b=>a||b) P.1 S.1↔e∈P.1∨e∈S.1:=fun e=>by
   rw [hsp.2];constructor
   ·exact fun q=>q.1
   ·intro q;refine⟨q,?_⟩;rcases q with q|q
    ·rw [yb.2 q];rfl
    ·rw [yb.2 q];simp
  have halr:∀e∈mg (fun a b=>a||b) P.1 S.1,0≤e∧e<32:=fun e he=>by
   rcases(hev e).1 he with h|h
   ·exact hP.alr e h
   ·exact hS.alr e h
  have hlen:=Alp.len ⟨hsp.1,halr⟩;refine⟨(mg (fun a b=>a||b) P.1 S.1,0,[],[]),[],0,?_,⟨⟨rfl,by omega,hsp.1,halr,List.Pairwise.nil,fun x hx=>(by cases hx),fun x hx=>(by cases hx),List.Pairwise.nil,by dsimp only;omega,by simp,by simp⟩,by omega,rfl,List.nodup_nil,fun t ht=>(by cases ht),fun h=>absurd h (by omega),?_,hev,fun a x y e ha=>(by simp at ha),fun a x y e x' y' ha=>(by simp at ha),?_⟩⟩
  ·rw [yo,yhm hP hS,yOb,if_neg (by simp),h1,yOb,hi,yOb,if_pos (by simp)]
  ·have e1:=hP.nn;have e2:=hS.nn;exact⟨fun _=>by omega,fun _=>rfl⟩
  ·exact ⟨List.Pairwise.nil,fun x hx=>(by cases hx),fun k h1 h2=>by omega,fun n hn=>(by simp [edsOf] at hn),fun n hn=>(by simp [edsOf] at hn)⟩
 ·obtain ⟨p,T,n,h1,h⟩:=yjN (B:=40) hP hS (by omega) (by omega) b1 b2 (by omega) (by omega);have e1:=hP.nn;have e2:=hS.nn;have:=h.pos;exact⟨p,T,n,h1,h.right,h.le,h.tl,h.nd,h.tt,fun _=>h.t0,⟨fun _=>by omega,fun _=>by omega⟩,h.ev,h.no,h.yes,h.num⟩
theorem ybw{xs:List Int}{n:Int}(hl:xs.length<4611686018427387904):y1l xs n=some (yu n none xs):=y9l hl
def errP(q:ProbT):Int:=
 if(toAut q.1).err≠0 then(toAut q.1).err
 else if(toAut q.2.1).err≠0 then(toAut q.2.1).err
 else if(mg (fun a b=>a && !b) q.2.1.1 q.1.1).length≠0 then 9
 else yu 32 none q.2.2
structure ShortP (q:ProbT):Prop where
 p1:q.1.1.length≤1000000
 p2:q.1.2.2.1.length≤1000000
 p3:q.1.2.2.2.length≤1000000
 s1:q.2.1.1.length≤1000000
 s2:q.2.1.2.2.1.length≤1000000
 s3:q.2.1.2.2.2.length≤1000000
 u1:q.2.2.length≤1000000
theorem yel(hu:us.length≤1000000)(hv:vs.length≤1000000):y3N us vs=some (mg (fun a b=>a && !b) us vs):=by
 rw [y3N,ycX (f:=yw) (kp:=fun a b=>a && !b) (fun a b=>rfl) hu hv];rfl
theorem yc1(hu:us.length≤1000000)(hv:vs.length≤1000000):y3d us vs=some (mg (fun a b=>a&&b) us vs):=by
 rw [y3d,ycX (f:=y6U) (kp:=fun a b=>a&&b) (fun a b=>rfl) hu hv];rfl
theorem ygw(hu:us.length≤1000000)(hv:vs.length≤1000000):yA us vs=some (decide ((mg (fun a b=>a && !b) us vs).length=0)):=by
 rw [yA,yel hu hv,yOb];congr 1;rw [Bool.eq_iff_iff];simp
structure TaskOk (q:ProbT) (t:TaskT) (p:AutT) (T:List (List Int)) (n1 n2 n:Nat):Prop where
 rP:Right q.1 n1
 rS:Right q.2.1 n2
 iu:Inc q.2.2
 ur:∀x∈q.2.2,0≤x∧x<32
 sub:∀x∈q.2.1.1,x∈q.1.1
 g1:GrOk t.1 q.1
 g2:GrOk t.2.1 q.2.1
 g3:GrOk t.2.2.1 p
 tt:t.2.2.2.1=T
 un:t.2.2.2.2.1=mg (fun a b=>a&&b) q.1.1 q.2.2
 co:t.2.2.2.2.2=mg (fun a b=>a && !b) q.1.1 (mg (fun a b=>a&&b) q.1.1 q.2.2)
 loop:LoopZ q.1 q.2.1 p T n
theorem yhn{q:ProbT}(h:ShortP q)(he:errP q=0)(b1:q.1.2.1≤40)(b2:q.2.1.2.1≤40):∃t p T n1 n2 n,y5j q=some (some t,0)∧TaskOk q t p T n1 n2 n∧yo [q.1,q.2.1]=some (p,T,0):=by
 unfold errP at he;by_cases h1:(toAut q.1).err=0
 ·rw [if_neg (by simpa using h1)] at he;by_cases h2:(toAut q.2.1).err=0
  ·rw [if_neg (by simpa using h2)] at he;by_cases h3:(mg (fun a b=>a && !b) q.2.1.1 q.1.1).length=0
   ·rw [if_neg (by simpa using h3)] at he;have rP:=yek h1 h.p1 h.p2 h.p3;have rS:=yek h2 h.s1 h.s2 h.s3;obtain⟨iu,ur⟩:=yax he;obtain⟨p,T,n,e1,hL⟩:=yix rP rS (by omega) (by omega);obtain⟨o1,i1,k1⟩:=ybv rP;obtain⟨o2,i2,k2⟩:=ybv rS;obtain⟨o3,i3,k3⟩:=ybv hL.right;have hit3:iter (y7g q) 0=some (.inl ()):=by
     refine y2M (n:=3) (by omega) ?_;rw [yc,y7g,if_pos (by simp),show idx [q.1,q.2.1] 0=some q.1 from rfl,yOb,rP.check,yOb,if_neg (by simp)];dsimp only;rw [yc,y7g,show W (0+1)=1 from rfl,if_pos (by simp),show idx [q.1,q.2.1] 1=some q.2.1 from rfl,yOb,rS.check,yOb,if_neg (by simp)];dsimp only;rw [yc,y7g,show W (1+1)=2 from rfl,if_neg (by simp)]
    have hin:∀x,x∈mg (fun a b=>a&&b) q.1.1 q.2.2→x∈q.1.1:=fun x hx=>by
     have:=((y4G (fun a b=>a&&b) q.1.1 q.2.2 rP.ali iu).2 x).1 hx;simp only [Bool.and_eq_true] at this;exact yb.1 this.2.1
    have hil:(mg (fun a b=>a&&b) q.1.1 q.2.2).length≤32:=Alp.len ⟨(y4G (fun a b=>a&&b) q.1.1 q.2.2 rP.ali iu).1,fun x hx=>rP.alr x (hin x hx)⟩;refine⟨((q.1,o1),(q.2.1,o2),(p,o3),T,mg (fun a b=>a&&b) q.1.1 q.2.2,mg (fun a b=>a && !b) q.1.1 (mg (fun a b=>a&&b) q.1.1 q.2.2)),p,T,_,_,n,?_,⟨rP,rS,iu,ur,fun x hx=>?_,⟨rfl,k1⟩,⟨rfl,k2⟩,⟨rfl,k3⟩,rfl,rfl,rfl,hL⟩,e1⟩
    ·rw [y5j,hit3,yOb];dsimp only;rw [ygw h.s1 h.p1,yOb,if_neg (by simpa using h3),ybw (by have:=h.u1;omega),yOb,he,if_neg (by simp),e1,yOb];dsimp only;rw [if_neg (by simp),yc1 h.p1 h.u1,yOb,i1,yOb,i2,yOb,i3,yOb,yel h.p1 (by omega),yOb]
    ·by_cases hh:x∈q.1.1
     ·exact hh
     ·have hm:x∈mg (fun a b=>a && !b) q.2.1.1 q.1.1:=by
       rw [(y4G (fun a b=>a && !b) q.2.1.1 q.1.1 rS.ali rP.ali).2];refine⟨.inl hx,?_⟩;rw [yb.2 hx];cases hb:hasB q.1.1 x
       ·rfl
       ·exact absurd (yb.1 hb) hh
      rw [List.eq_nil_of_length_eq_zero h3] at hm;cases hm
   ·rw [if_pos (by simpa using h3)] at he;cases he
  ·rw [if_pos (by simpa using h2)] at he;exact absurd he h2
 ·rw [if_pos (by simpa using h1)] at he;exact absurd he h1
def idxL1{α:Type}(xs:List α)(f:α→Option Bool)(st:Int):Option (Int⊕(Unit⊕Int)):=
 if decide (st<(xs.length:Int)) then
  (idx xs st).bind fun x=>
  (f x).bind fun r=>
  if r then some (.inr (.inr st)) else some (.inl (W (st+1)))
 else
  some (.inr (.inl ()))
theorem yjO{xs:List α}{f:α→Option Bool}{g:α→Bool}(hf:∀x∈xs,f x=some (g x))(hl:xs.length<4611686018427387904):
  ∃o,iter (idxL1 xs f) 0=some o∧((o= .inl ()∧∀x∈xs,g x=false)∨∃k:Nat,∃hk:k<xs.length,o= .inr (k:Int)∧g xs[k]=true∧∀j (hj:j<xs.length),j<k→g xs[j]=false):=by
 refine ye (f:=idxL1 xs f) (fun i s=>s=(i:Int)∧∀j (hj:j<xs.length),j<i→g xs[j]=false) (fun o=>(o= .inl ()∧∀x∈xs,g x=false)∨∃k:Nat,∃hk:k<xs.length,o= .inr (k:Int)∧g xs[k]=true∧∀j (hj:j<xs.length),j<k→g xs[j]=false) xs.length 0 (by omega) (fun i s hi ⟨e1,g1⟩=>?_) (fun s ⟨e1,g1⟩=>?_) (yZl _) 0 ⟨rfl,fun j hj h=>by omega⟩
 ·subst e1;rw [idxL1,if_pos (ct_lt hi),ya hi,yOb,hf _ (yGm hi),yOb];cases hg:g xs[i]
  ·rw [if_neg (by simp),nxt (by omega)];refine .inl ⟨_,rfl,rfl,fun j hj h=>?_⟩;by_cases e:j=i
   ·subst e;exact hg
   ·exact g1 j hj (by omega)
  ·rw [if_pos rfl];exact .inr ⟨_,rfl,.inr ⟨i,hi,rfl,hg,g1⟩⟩
 ·subst e1;rw [idxL1,if_neg ct_ge];refine⟨_,rfl,.inl ⟨rfl,fun x hx=>?_⟩⟩;obtain⟨j,hj,rfl⟩:=List.getElem_of_mem hx;exact g1 j hj hj
theorem yg8{xs:List (Int×Int×Int)}{f:Int×Int×Int→Option Bool}{g:Int×Int×Int→Bool}(hf:∀x∈xs,f x=some (g x))(hl:xs.length<4611686018427387904):
  ∃r,yv xs f=some r∧((r= -1∧∀x∈xs,g x=false)∨∃k:Nat,∃hk:k<xs.length,r=(k:Int)∧g xs[k]=true∧∀j (hj:j<xs.length),j<k→g xs[j]=false):=by
 obtain⟨o,h1,h2⟩:=yjO hf hl;have h1:iter (y1t xs f) 0=some o:=h1;rw [yv,h1,yOb];rcases h2 with ⟨rfl,h3⟩|⟨k,hk,rfl,h3,h4⟩
 ·exact ⟨_,rfl,.inl ⟨rfl,h3⟩⟩
 ·exact ⟨_,rfl,.inr ⟨k,hk,rfl,h3,h4⟩⟩
theorem yjP{g:GrT}{a:AutT}{n:Nat}(hg:GrOk g a)(hr:Right a n)(hn:Num (edsOf a) n){k:Nat}(hk:k<n)(hnl:n≤4096):y4F g (k:Int)=some (wN (edsOf a) (k:Int)):=by
 have hl3:=hr.l3;obtain⟨o,h1,h2,h3⟩:=ye (f:=y6f g) (fun i s=>∃k':Nat,s.2=(k':Int)∧k'+i≤k∧s.1.length≤i∧wN (edsOf a) (k:Int)=wN (edsOf a) (k':Int)++s.1.reverse) (fun o=>wN (edsOf a) (k:Int)=o.reverse∧o.length≤k) k 0 (by omega) (fun i s hi ⟨k',e1,g1,g2,g3⟩=>by
   obtain⟨out,c⟩:=s;dsimp only at e1 g2 g3;subst e1;rw [y6f];dsimp only;by_cases h0:0<k'
   ·left;rw [if_pos (by simp;omega),hg.1];obtain⟨x,hx,hf,ht,hx0,hxk,hw⟩:=hn.step h0 (by omega);obtain⟨r,q1,q2⟩:=yg8 (xs:=a.2.2.2) (f:=y7C (k':Int)) (g:=fun y=>y.2.2==(k':Int)) (fun y _=>rfl) (by omega);rw [q1,yOb];rcases q2 with ⟨_,q3⟩|⟨j,hj,rfl,q3,q4⟩
    ·obtain ⟨y,hy,rfl⟩:=List.mem_map.1 hx;have:=q3 y hy;have ht:y.2.2=(k':Int):=ht;simp [ht] at this
    ·have he:toEd a.2.2.2[j]=x:=by
      have:(edsOf a).find? (fun y=>y.t==(k':Int))=some (toEd a.2.2.2[j]):=by
       rw [List.find?_eq_some_iff_getElem];refine⟨q3,j,by simpa [edsOf] using hj,by simp [edsOf],fun i hi=>?_⟩;have:=q4 i (by omega) hi;have e2:(edsOf a)[i]'(by simp [edsOf];omega)=toEd a.2.2.2[i]:=by simp [edsOf]
       rw [e2];show(!(a.2.2.2[i].2.2==(k':Int)))=true;rw [this];rfl
      rw [hf] at this;exact(Option.some.inj this).symm
     rw [ya hj,yOb,yi (by simp;omega),yOb,yOb];refine⟨_,rfl,x.f.toNat,?_,by omega,by simp;omega,?_⟩
     ·dsimp only;rw [←he];rw [←he] at hx0;exact(Int.toNat_of_nonneg hx0).symm
     ·dsimp only;rw [g3,hw,Int.toNat_of_nonneg hx0,List.reverse_append,List.reverse_singleton,List.append_assoc,←he];rfl
   ·right;obtain rfl:k'=0:=by omega
    rw [if_neg (by simp)];exact⟨_,rfl,by rw [g3];rfl,by omega⟩) (fun s ⟨k',e1,g1,g2,g3⟩=>by
   obtain⟨out,c⟩:=s;dsimp only at e1 g2 g3;subst e1;rw [y6f];dsimp only;obtain rfl:k'=0:=by omega
   rw [if_neg (by simp)];exact⟨_,rfl,by rw [g3];rfl,by omega⟩) (yZl _) ([],(k:Int)) ⟨k,rfl,by omega,by simp,by simp⟩
 rw [y4F,h1,yOb,y1w,if_pos (by omega),yOb,h2]
def hdl(S:AutT):Int→List Int→Int×Nat
 | s,[]=>(s,0)
 | s,e::l=>if hasB S.1 e=true then(match st1 S s e with
   | none=>(s,0)
   | some u=>((hdl S u l).1,(hdl S u l).2+1)) else((hdl S s l).1,(hdl S s l).2+1)
theorem yem{q:ProbT}{t:TaskT}{p:AutT}{T:List (List Int)}{n:Nat}(h:TaskOk q t p T n1 n2 n)(s:Int){l:List Int}(hl:l.length≤1000000):y5s t s l=some ((hdl q.2.1 s l).1,((hdl q.2.1 s l).2:Int)):=by
 obtain⟨o,h1,h2⟩:=ye (f:=y5E t l) (fun i st=>st.1=(i:Int)∧hdl q.2.1 s l=((hdl q.2.1 st.2 (l.drop i)).1,i+(hdl q.2.1 st.2 (l.drop i)).2)) (fun o=>(match o with
   | .inl u=>(u,(l.length:Int))
   | .inr u=>(u.2,u.1))=((hdl q.2.1 s l).1,((hdl q.2.1 s l).2:Int))) l.length 0 (by omega) (fun i st hi ⟨e1,g1⟩=>by
   obtain⟨k,c⟩:=st;dsimp only at e1 g1;subst e1;rw [List.drop_eq_getElem_cons hi,hdl] at g1;rw [y5E];dsimp only;rw [if_pos (ct_lt hi),ya hi,yOb,h.g2.1,y6x (by have:=h.rS.l1;omega) h.rS.ali,yOb];cases hb:hasB q.2.1.1 l[i]
   ·left;rw [hb,if_neg (by simp)] at g1;rw [if_pos (by rfl),y3V];dsimp only;rw [nxt (by omega)];refine⟨_,rfl,rfl,?_⟩;dsimp only;rw [g1];congr 1;omega
   ·rw [hb,if_pos rfl] at g1;rw [if_neg (by simp),to_eq h.g2,yOb];cases hs:st1 q.2.1 c l[i] with
    | none=>
     right;rw [hs] at g1;rw [if_pos (by rfl)];refine⟨_,rfl,?_⟩;dsimp only at g1 ⊢;rw [g1];rfl
    | some u=>
     left;rw [hs] at g1;have:=y7A h.rS hs;rw [if_neg (by simp;omega),y3V];dsimp only [Option.getD];rw [nxt (by omega)];refine⟨_,rfl,rfl,?_⟩;dsimp only at g1 ⊢;rw [g1];congr 1;omega) (fun st ⟨e1,g1⟩=>by
   obtain⟨k,c⟩:=st;dsimp only at e1 g1;subst e1;rw [y5E];dsimp only;rw [if_neg ct_ge];refine⟨_,rfl,?_⟩;rw [List.drop_length,hdl] at g1;dsimp only at g1 ⊢;rw [g1];rfl) (yZl _) (0,s) ⟨rfl,by simp⟩
 rw [y5s,h1,yOb,←h2];cases o <;> rfl
theorem yg9 :∀(xs:List Int) (m k:Nat) (a:List Int),k+m=xs.length→a.length+m≤4294967296→rngF (fun k=>y1z (xs.getD k 0)) m k a=some (a++xs.drop k)
 | xs,0,k,a,e,hl=>by
  rw [rngF,List.drop_of_length_le (by omega),List.append_nil]
 | xs,m+1,k,a,e,hl=>by
  have hk:k<xs.length:=by omega
  rw [rngF,y1z,yi (by simp;omega),yOb,yOb,yg9 xs m (k+1) _ (by omega) (by simp;omega),List.drop_eq_getElem_cons hk,List.getD_eq_getElem?_getD,yGe hk];simp
theorem yho{l:List Int}(hl:l.length≤1000000):y3v l=some (isL l):=by
 have hlen:(isL l).length=l.length:=(y6T l).length_eq;rw [y3v,y6d,y5h,yg9 l l.length 0 [] (by omega) (by simp;omega),yOb,yOb,yOb,List.drop_zero,List.nil_append,y2w,if_pos (by omega),yOb,lenEq,if_pos hlen,yOb]
def okB(S:AutT)(y:Int)(l:List Int):Bool:=((((hdl S y l).2:Int)==(l.length:Int))&&(((hdl S y (isL l)).2:Int)==(l.length:Int)))&&((hdl S y l).1==(hdl S y (isL l)).1)
theorem ygx{q:ProbT}{t:TaskT}{p:AutT}{T:List (List Int)}{n:Nat}(h:TaskOk q t p T n1 n2 n){k:Nat}{x y:Int}(hk:T[k]? =some [x,y]){l:List Int}(hl:l.length≤1000000):y6z t (k:Int) l=some (okB q.2.1 y l):=by
 have hlen:(isL l).length=l.length:=(y6T l).length_eq;rw [y6z,h.tt,y7d,hk,yOb,show idx [x,y] 1=some y from rfl,yOb,yem h y hl,yOb,y4P,if_pos (by omega),yOb,yho hl,yOb,yem h y (by omega),yOb];rfl
def pot :Nat→Nat
 | 0=>1
 | f+1=>1+32*pot f
theorem yga :∀f,1≤pot f
 | 0=>Nat.le_refl _
 | _+1=>by rw [pot];omega
def potL(z:Nat)(l:List (Int×List Int)):Nat:=(l.map fun r=>pot (z-r.2.length)).sum
theorem ycY(z:Nat):∀l,l.length≤potL z l
 | []=>yZl _
 | r::l=>by
  have h1:=ycY z l;have h2:=yga (z-r.2.length);unfold potL at h1 ⊢;rw [List.map_cons,List.sum_cons,List.length_cons];omega
theorem yiy(z:Nat)(l m:List (Int×List Int)):potL z (l++m)=potL z l+potL z m:=by
 unfold potL;rw [List.map_append,List.sum_append]
theorem yiz(z:Nat)(r:Int×List Int):potL z [r]=pot (z-r.2.length):=by
 unfold potL;simp
section
variable{q:ProbT}{t:TaskT}{p:AutT}{T:List (List Int)}{n1 n2 n:Nat}
theorem TaskOk.uni(h:TaskOk q t p T n1 n2 n):Inc t.2.2.2.2.1∧t.2.2.2.2.1.length≤32∧∀x,x∈t.2.2.2.2.1↔x∈q.1.1∧x∈q.2.2:=by
 have hs:=y4G (fun a b=>a&&b) q.1.1 q.2.2 h.rP.ali h.iu;have hm:∀x,x∈mg (fun a b=>a&&b) q.1.1 q.2.2↔x∈q.1.1∧x∈q.2.2:=fun x=>by
  rw [hs.2];simp only [Bool.and_eq_true,yb];exact⟨fun h=>h.2,fun h=>⟨.inl h.1,h⟩⟩
 rw [h.un];exact⟨hs.1,Alp.len ⟨hs.1,fun x hx=>h.rP.alr x ((hm x).1 hx).1⟩,hm⟩
theorem TaskOk.con(h:TaskOk q t p T n1 n2 n):Inc t.2.2.2.2.2∧t.2.2.2.2.2.length≤32∧∀x,x∈t.2.2.2.2.2↔x∈q.1.1∧x∉q.2.2:=by
 obtain⟨ui,ul,um⟩:=h.uni;have hs:=y4G (fun a b=>a && !b) q.1.1 t.2.2.2.2.1 h.rP.ali ui;have hm:∀x,x∈mg (fun a b=>a && !b) q.1.1 t.2.2.2.2.1↔x∈q.1.1∧x∉q.2.2:=fun x=>by
  rw [hs.2];simp only [Bool.and_eq_true,yb,Bool.not_eq_true'];have e:hasB t.2.2.2.2.1 x=false↔ ¬(x∈q.1.1∧x∈q.2.2):=by
   rw [←um x,←yb,Bool.not_eq_true]
  rw [e];constructor
  ·rintro ⟨_,h1,h2⟩;exact⟨h1,fun h3=>h2 ⟨h1,h3⟩⟩
  ·rintro ⟨h1,h2⟩;exact⟨.inl h1,h1,fun h3=>h2 h3.2⟩
 rw [h.co,←h.un];exact⟨hs.1,Alp.len ⟨hs.1,fun x hx=>h.rP.alr x ((hm x).1 hx).1⟩,hm⟩
theorem yhp(h:TaskOk q t p T n1 n2 n){z c:Nat}{out:List (List Int)}{l:List (Int×List Int)}{r:Int×List Int}(hc:l[c]? =some r)(hz:r.2.length<z)(hz3:z≤3)(hl:l.length≤1000000)(hw:∀r∈l,r.2.length≤z):
  ∃N,iter (yL t ((c:Int),out,l)) (0,l)=some (l++N)∧N.length≤32∧∀u∈N,u.2.length=r.2.length+1:=by
 obtain⟨ui,ul,um⟩:=h.uni;obtain⟨o,h1,N,rfl,h2,h3⟩:=ye (f:=yL t ((c:Int),out,l)) (fun i s=>s.1=(i:Int)∧∃N,s.2=l++N∧N.length≤i∧∀u∈N,u.2.length=r.2.length+1) (fun o=>∃N,o=l++N∧N.length≤32∧∀u∈N,u.2.length=r.2.length+1) t.2.2.2.2.1.length 0 (by omega) (fun i s hi ⟨e1,N,e2,g1,g2⟩=>by
   obtain⟨k,m⟩:=s;dsimp only at e1 e2;subst e1;subst e2;have hx:idx (l++N) (c:Int)=some r:=by
    rw [y7d,List.getElem?_append_left (List.getElem?_eq_some_iff.1 hc).1,hc]
   have hrl:=hw r (List.mem_of_getElem? hc);left;rw [yL];dsimp only;rw [if_pos (ct_lt hi),ya hi,yOb,hx,yOb,to_eq h.g1,yOb];by_cases hb:((st1 q.1 r.1 t.2.2.2.2.1[i]).getD (-1) != (-1))=true
   ·rw [if_pos hb,yOb,y1b (by omega),yOb,yOb];cases hh:hasB r.2 t.2.2.2.2.1[i]
    ·rw [if_pos (by rfl),yOb,y8o (by omega),yOb,yi (by simp;omega),yOb,yi (by simp;omega),yOb,yK];dsimp only;rw [nxt (by omega)];refine⟨_,rfl,rfl,N++[_],by rw [List.append_assoc],by simp;omega,fun u hu=>?_⟩;rcases yMa.1 hu with hu|hu
     ·exact g2 u hu
     ·rw [yMs.1 hu];simp
    ·rw [if_neg (by simp),yK];dsimp only;rw [nxt (by omega)];exact⟨_,rfl,rfl,N,rfl,by omega,g2⟩
   ·rw [if_neg hb,yOb,if_neg (by simp),yK];dsimp only;rw [nxt (by omega)];exact⟨_,rfl,rfl,N,rfl,by omega,g2⟩) (fun s ⟨e1,N,e2,g1,g2⟩=>by
   obtain⟨k,m⟩:=s;dsimp only at e1 e2;subst e1;subst e2;rw [yL];dsimp only;rw [if_neg ct_ge];exact⟨_,rfl,N,rfl,by omega,g2⟩) (yZl _) (0,l) ⟨rfl,[],by simp,by simp,fun u hu=>by cases hu⟩
 exact⟨N,h1,h2,h3⟩
theorem ykk :∀{z:Nat},z≤3→pot z≤33825
 | 0,_=>by decide
 | 1,_=>by decide
 | 2,_=>by decide
 | 3,_=>by decide
theorem yf7{z k:Nat}:∀{N:List (Int×List Int)},(∀u∈N,u.2.length=k)→potL z N=N.length*pot (z-k)
 | [],_=>by simp [potL]
 | u::N,h=>by
  have h1:=yf7 (z:=z) (N:=N) fun v hv=>h v (List.mem_cons_of_mem _ hv);unfold potL at h1 ⊢;rw [List.map_cons,List.sum_cons,h1,h u (List.mem_cons_self ..),List.length_cons,Nat.add_mul,Nat.one_mul,Nat.add_comm]
theorem TaskOk.pair(h:TaskOk q t p T n1 n2 n){k:Nat}(hk:k<T.length):∃x y,T[k]? =some [x,y]∧0≤x∧x<(n1:Int)∧0≤y∧y<(n2:Int):=by
 obtain⟨x,y,e,h1,h2,h3,h4⟩:=h.loop.tt _ (yGm hk);rw [h.rP.nn] at h2;rw [h.rS.nn] at h4;exact⟨x,y,by rw [yGe hk,e],h1,h2,h3,h4⟩
theorem TaskOk.word(h:TaskOk q t p T n1 n2 n){k:Nat}(hk:k<T.length):y4F t.2.2.1 (k:Int)=some (wN (edsOf p) (k:Int)):=
 yjP h.g3 h.loop.right h.loop.num (by rw [←h.loop.tl];exact hk) (by have:=h.loop.le;omega)
end
theorem yiA{xs:List α}{i:Nat}(h:i≤xs.length):slc xs 0 (i:Int)=some (xs.take i):=by
 rw [slc,if_pos ⟨by omega,by omega,by omega⟩];simp
structure SR (st:Int→Int→Option Int) (al:List Int) (n i j:Nat) (T:List Int) (kn:List (Int×Int)) (E:List (Int×Int×Int)):Prop where
 f:Fnd st al i j T E
 k1:∀s v,kget kn s=some v→∃q:Nat,v=(q:Int)∧T[q]? =some s
 k2:∀s∈T,(kget kn s).isSome=true
 nd:T.Nodup
 tr:∀s∈T,0≤s∧s<(n:Int)
 so:E.Pairwise fun x y=>x.1<y.1∨(x.1=y.1∧x.2.1<y.2.1)
 ei:∀x∈E,x.1<(i:Int)∨(x.1=(i:Int)∧∃b,∃hb:b<al.length,b<j∧al[b]=x.2.1)
 ea:∀x∈E,x.2.1∈al
 el:E.length≤32*i+j
namespace SR
variable{st:Int→Int→Option Int}{al:List Int}{n i j:Nat}{T:List Int}{kn:List (Int×Int)}{E:List (Int×Int×Int)}
theorem len(h:SR st al n i j T kn E):T.length≤n:=by
 have:=y8s n (T.map Int.toNat) (by
  unfold List.Nodup;rw [List.pairwise_map];refine h.nd.imp_of_mem fun {a b} ha hb hab=>?_;have h1:=h.tr a ha;have h2:=h.tr b hb;omega) (fun x hx=>by
  obtain⟨y,hy,rfl⟩:=List.mem_map.1 hx;have:=h.tr y hy;omega)
 simpa using this
theorem skip(h:SR st al n i j T kn E){s:Int}(ht:T[i]? =some s)(he:al[j]? =some e)(hs:st s e=none):SR st al n i (j+1) T kn E:=
 ⟨h.f.skip ht he hs,h.k1,h.k2,h.nd,h.tr,h.so,fun x hx=>by
  rcases h.ei x hx with h1|⟨h1,b,hb,h2,h3⟩
  ·exact .inl h1
  ·exact .inr ⟨h1,b,hb,by omega,h3⟩,h.ea,by have:=h.el;omega⟩
theorem next(h:SR st al n i j T kn E)(hj:al.length≤j)(hj2:j≤32):SR st al n (i+1) 0 T kn E:=
 ⟨h.f.next hj,h.k1,h.k2,h.nd,h.tr,h.so,fun x hx=>by
  rcases h.ei x hx with h1|⟨h1,_⟩
  ·exact .inl (by omega)
  ·exact .inl (by omega),h.ea,by have:=h.el;omega⟩
theorem pw(h:SR st al n i j T kn E)(ia:Inc al)(hj:j<al.length)(v:Int):(E++[((i:Int),al[j],v)]).Pairwise fun x y=>x.1<y.1∨(x.1=y.1∧x.2.1<y.2.1):=by
 rw [List.pairwise_append];refine⟨h.so,List.pairwise_singleton _ _,fun x hx y hy=>?_⟩;rw [yMs.1 hy];rcases h.ei x hx with h1|⟨h1,b,hb,h2,h3⟩
 ·exact .inl h1
 ·refine .inr ⟨h1,?_⟩;rw [←h3];exact List.pairwise_iff_getElem.1 ia b j hb hj h2
theorem ei'(h:SR st al n i j T kn E)(hj:j<al.length)(v:Int):∀x∈E++[((i:Int),al[j],v)],x.1<(i:Int)∨(x.1=(i:Int)∧∃b,∃hb:b<al.length,b<j+1∧al[b]=x.2.1):=fun x hx=>by
 rcases yMa.1 hx with hx|hx
 ·rcases h.ei x hx with h1|⟨h1,b,hb,h2,h3⟩
  ·exact .inl h1
  ·exact .inr ⟨h1,b,hb,by omega,h3⟩
 ·rw [yMs.1 hx];exact .inr ⟨rfl,j,hj,by omega,rfl⟩
theorem ea'(h:SR st al n i j T kn E)(hj:j<al.length)(v:Int):∀x∈E++[((i:Int),al[j],v)],x.2.1∈al:=fun x hx=>by
 rcases yMa.1 hx with hx|hx
 ·exact h.ea x hx
 ·rw [yMs.1 hx];exact yGm hj
theorem edge(h:SR st al n i j T kn E)(ia:Inc al)(hj:j<al.length){s v:Int}{q:Nat}(ht:T[i]? =some s)(hs:st s al[j]=some v)(hq:T[q]? =some v):SR st al n i (j+1) T kn (E++[((i:Int),al[j],(q:Int))]):=
 ⟨h.f.edge ht (yGe hj) hs hq,h.k1,h.k2,h.nd,h.tr,h.pw ia hj _,h.ei' hj _,h.ea' hj _,by have:=h.el;simp;omega⟩
theorem new(h:SR st al n i j T kn E)(ia:Inc al)(hj:j<al.length){s v:Int}(ht:T[i]? =some s)(hs:st s al[j]=some v)(hk:kget kn v=none)(v0:0≤v)(v1:v<(n:Int)):SR st al n i (j+1) (T++[v]) (kput kn v (T.length:Int)) (E++[((i:Int),al[j],(T.length:Int))]):=by
 have hi:=(List.getElem?_eq_some_iff.1 ht).1;refine⟨h.f.new hi ht (yGe hj) hs,fun s' w hw=>?_,fun s' hs'=>?_,?_,fun s' hs'=>?_,h.pw ia hj _,h.ei' hj _,h.ea' hj _,by have:=h.el;simp;omega⟩
 ·rw [y5A] at hw;split at hw
  ·rename_i e;subst e;cases hw;exact⟨T.length,rfl,by rw [List.getElem?_append_right (Nat.le_refl _)];simp⟩
  ·obtain ⟨q,h1,h2⟩:=h.k1 s' w hw;exact⟨q,h1,by rw [List.getElem?_append_left (List.getElem?_eq_some_iff.1 h2).1,h2]⟩
 ·rw [y5A];split
  ·rfl
  ·rename_i e;rcases yMa.1 hs' with hs'|hs'
   ·exact h.k2 s' hs'
   ·exact absurd (yMs.1 hs') e
 ·unfold List.Nodup;rw [List.pairwise_append];refine⟨h.nd,List.pairwise_singleton _ _,fun a ha b hb e=>?_⟩;rw [yMs.1 hb] at e;subst e;have:=h.k2 a ha;rw [hk] at this;cases this
 ·rcases yMa.1 hs' with hs'|hs'
  ·exact h.tr s' hs'
  ·rw [yMs.1 hs'];exact⟨v0,v1⟩
end SR
structure CanOf (st:Int→Int→Option Int) (al ms:List Int) (r:AutT) (X:List Int):Prop where
 right:Right r X.length
 ale:r.1=al
 x0:0<X.length→X[0]? =some 0
 disc:Disc st al X r.2.2.2
 mkd:∀(i:Nat) (s:Int),X[i]? =some s→((i:Int)∈r.2.2.1↔s∈ms)
theorem ybx{xs ys:List Int}(hx:Inc xs)(hy:Inc ys)(h:∀x,x∈xs↔x∈ys):xs=ys:=y9Q (lt:=fun a b:Int=>a<b) (fun a b h1 h2=>by omega) hx hy h
theorem SR.skips{st:Int→Int→Option Int}{al:List Int}{n i j:Nat}{T:List Int}{kn:List (Int×Int)}{E:List (Int×Int×Int)}(h:SR st al n i j T kn E){s:Int}(ht:T[i]? =some s):∀(b:Nat),j≤b→b≤al.length→(∀c (hc:c<al.length),j≤c→c<b→st s al[c]=none)→SR st al n i b T kn E
 | 0,hj,_,_=>by
  obtain rfl:j=0:=by omega
  exact h
 | b+1,hj,hb,hn=>by
  by_cases e:j=b+1
  ·subst e;exact h
  ·have hb2:b<al.length:=by omega
   exact(h.skips ht b (by omega) (by omega) fun c hc h1 h2=>hn c hc h1 (by omega)).skip ht (yGe hb2) (hn b hb2 (by omega) (by omega))
end Go.Proofs.YtecmobjeeonmaaaGreatDoor
namespace Go.Proofs.YtecmobjeeonmaaaGreatDoor
def evsOf(a:Aut):List (Nat×List (Nat×Nat)):=(List.range a.al.length).map fun i=>(i,(a.es.filter fun x=>x.e==a.al.getD i 0).map fun x=>(x.f.toNat,x.t.toNat))
def cmsOf(a:Aut)(ctrl:List Int):List (Nat×List Nat):=(List.range ctrl.length).map fun k=>(k,(a.es.filter fun x=>x.e==ctrl.getD k 0).map fun x=>x.f.toNat)
def stepF(es:List Ed)(s:Nat)(e:Int):Option Nat:=(es.find? fun x=>x.f==(s:Int)&&x.e==e).map fun x=>x.t.toNat
def y5N(es:List Ed)(S:Nat×Bool)(e:Int):Nat×Bool:=match stepF es S.1 e with
 | some t=>(t,S.2)
 | none=>(S.1,true)
theorem ydm{es:List Ed}(hes:∀x∈es,0≤x.f)(s:Nat)(e:Int):(((es.filter fun x=>x.e==e).map fun x=>(x.f.toNat,x.t.toNat)).find? fun p=>p.1==s).map (·.2)=stepF es s e:=by
 unfold stepF
 induction es with
 | nil=>rfl
 | cons x es ih=>
  have h0:=hes x (List.mem_cons_self ..);have ih:=ih (fun y hy=>hes y (List.mem_cons_of_mem _ hy));by_cases he:(x.e==e)=true
  ·rw [List.filter_cons_of_pos (p:=fun x:Ed=>x.e==e) he,List.map_cons];by_cases hf:x.f=(s:Int)
   ·rw [List.find?_cons_of_pos (by simp;omega),List.find?_cons_of_pos (by simp [hf];simpa using he)];rfl
   ·rw [List.find?_cons_of_neg (by simp;omega),List.find?_cons_of_neg (by simp [hf])];exact ih
  ·rw [List.filter_cons_of_neg (p:=fun x:Ed=>x.e==e) he,List.find?_cons_of_neg (by simp at he;simp [he])];exact ih
theorem ygy{es:List Ed}(hes:∀x∈es,0≤x.f){inp:List Bool}{i:Nat}{e:Int}(S:Nat×Bool):y7F inp (i,(es.filter fun x=>x.e==e).map fun x=>(x.f.toNat,x.t.toNat)) S=if inp.getD i false=true then y5N es S e else S:=by
 have h:=ydm hes S.1 e;unfold y7F y5N;split
 ·rw [←h];cases ((es.filter fun x=>x.e==e).map fun x=>(x.f.toNat,x.t.toNat)).find? (fun p=>p.1==S.1) <;> rfl
 ·rfl
theorem yf8{es:List Ed}(hes:∀x∈es,0≤x.f)(al:List Int)(p:Int→Bool):∀(k:Nat) (S:Nat×Bool),k≤al.length→
  ((List.range k).map fun i=>(i,(es.filter fun x=>x.e==al.getD i 0).map fun x=>(x.f.toNat,x.t.toNat))).foldl (fun S x=>y7F (al.map p) x S) S=((al.take k).filter p).foldl (y5N es) S
 | 0,S,_=>by simp
 | k+1,S,hk=>by
  rw [List.range_succ,List.map_append,List.foldl_append,yf8 hes al p k S (by omega),yTs (by omega),List.filter_append,List.foldl_append];simp only [List.map_cons,List.map_nil,List.foldl_cons,List.foldl_nil];rw [ygy hes];have hg:al.getD k 0=al[k]:=by rw [List.getD_eq_getElem?_getD,yGe (by omega)];rfl
  have hi:(al.map p).getD k false=p al[k]:=by rw [List.getD_eq_getElem?_getD,List.getElem?_map,yGe (by omega)];rfl
  rw [hg,hi];cases hp:p al[k] with
  | true=>rw [if_pos rfl,List.filter_cons_of_pos hp];rfl
  | false=>rw [if_neg (by simp),List.filter_cons_of_neg (by rw [hp];simp)];rfl
theorem yfq{al ev:List Int}(ha:Inc al)(he:Inc ev)(hsub:∀x∈ev,x∈al):al.filter (hasB ev)=ev:=by
 refine ybx (List.Pairwise.filter _ ha) he (fun x=>?_);rw [List.mem_filter,yb];exact⟨fun h=>h.2,fun h=>⟨hsub x h,h⟩⟩
def genP(a:Aut)(ctrl:List Int):List Ins:=
 genI (a.al.length+(ctrl.length+1)+a.n.toNat) (a.al.length+ctrl.length)
  ((evsOf a).map fun x=>(x.1,x.2.map fun e=>(a.al.length+(ctrl.length+1)+e.1,a.al.length+(ctrl.length+1)+e.2)))
  ((cmsOf a ctrl).map fun x=>(a.al.length+x.1,x.2.map fun y=>a.al.length+(ctrl.length+1)+y))
theorem yiB{a:Aut}{ctrl ev:List Int}{n:Nat}(hn:a.n=n)(hes:∀x∈a.es,0≤x.f∧x.f<(n:Int)∧0≤x.t∧x.t<(n:Int))(ha:Inc a.al)(he:Inc ev)(hsub:∀x∈ev,x∈a.al)
  {s:Nat} {al:Bool} {b:List Bool} (hs:s<n) (hv:View a.al.length ctrl.length n (a.al.map (hasB ev)) s al b):
  View a.al.length ctrl.length n (a.al.map (hasB ev)) (ev.foldl (y5N a.es) (s,al)).1 (ev.foldl (y5N a.es) (s,al)).2 (yp (genP a ctrl) 0 false b)∧(ev.foldl (y5N a.es) (s,al)).1<n∧
  ∀k,k<ctrl.length→(yp (genP a ctrl) 0 false b).getD (a.al.length+k) false=(stepF a.es (ev.foldl (y5N a.es) (s,al)).1 (ctrl.getD k 0)).isSome:=by
 have hes0:∀x∈a.es,0≤x.f:=fun x hx=>(hes x hx).1;have h1:=ycy (evsOf a) hv hs (fun x hx=>by
  obtain⟨i,hi,rfl⟩:=List.mem_map.1 hx;refine⟨List.mem_range.1 hi,fun e he'=>?_⟩;obtain⟨y,hy,rfl⟩:=List.mem_map.1 he';have:=hes y (List.mem_filter.1 hy).1;dsimp only;omega)
 have h2:(evsOf a).foldl (fun S x=>y7F (a.al.map (hasB ev)) x S) (s,al)=ev.foldl (y5N a.es) (s,al):=by
  unfold evsOf;rw [yf8 hes0 a.al (hasB ev) a.al.length (s,al) (Nat.le_refl _),List.take_length,yfq ha he hsub]
 rw [h2] at h1;have h3:=ybD (cmsOf a ctrl) h1.1 (fun x hx=>by
  obtain⟨k,hk,rfl⟩:=List.mem_map.1 hx;refine⟨List.mem_range.1 hk,fun y hy=>?_⟩;obtain⟨z,hz,rfl⟩:=List.mem_map.1 hy;have:=hes z (List.mem_filter.1 hz).1;omega) (by
  unfold cmsOf;rw [List.map_map];have:((fun x:Nat×List Nat=>x.1)∘fun k=>(k,(a.es.filter fun x=>x.e==ctrl.getD k 0).map fun x=>x.f.toNat))=fun k:Nat=>k:=rfl;rw [this,List.map_id'];exact List.nodup_range)
 have hev:yp (genP a ctrl) 0 false b=(cmsOf a ctrl).foldl (fun b x=>y5O (a.al.length+x.1) (x.2.map fun y=>a.al.length+(ctrl.length+1)+y) b) ((evsOf a).foldl (fun b x=>y7Z x.1 (a.al.length+(ctrl.length+1)+n) (a.al.length+ctrl.length) (x.2.map fun e=>(a.al.length+(ctrl.length+1)+e.1,a.al.length+(ctrl.length+1)+e.2)) b) b):=by
  unfold genP;rw [yi5,hn,Int.toNat_natCast,List.foldl_map,List.foldl_map]
 rw [hev];refine⟨h3.1,h1.2,fun k hk=>?_⟩;have h4:=h3.2.1 (k,(a.es.filter fun x=>x.e==ctrl.getD k 0).map fun x=>x.f.toNat) (List.mem_map.2 ⟨k,List.mem_range.2 hk,rfl⟩);dsimp only at h4;rw [h4,Bool.eq_iff_iff,List.contains_iff_mem];unfold stepF;rw [Option.isSome_map,List.find?_isSome,List.mem_map];constructor
 ·rintro ⟨x,hx,hxs⟩;have h5:=List.mem_filter.1 hx;have:=hes0 x h5.1;refine⟨x,h5.1,?_⟩;rw [Bool.and_eq_true];exact⟨by simp;omega,h5.2⟩
 ·rintro ⟨x,hx,hp⟩;rw [Bool.and_eq_true] at hp;refine⟨x,List.mem_filter.2 ⟨hx,hp.2⟩,?_⟩;have:=hp.1;simp at this;omega
structure InsOk (N W m:Nat) (i:Nat) (x:Ins):Prop where
 op:1≤x.op∧x.op≤13
 jump:11≤x.op→(i:Int)<x.arg∧x.arg≤(N:Int)
 bit:x.op≤10→0≤x.arg∧x.arg<(W:Int)
 store:7≤x.op→x.op≤10→(m:Int)≤x.arg
def LocOk(N W m:Nat)(s:Nat)(L:List Ins):Prop:=∀(k:Nat) (x:Ins),L[k]? =some x→InsOk N W m (s+k) x
theorem LocOk.append{N W m s:Nat}{L M:List Ins}(h:LocOk N W m s L)(h':LocOk N W m (s+L.length) M):LocOk N W m s (L++M):=by
 intro k x hx;by_cases hk:k<L.length
 ·exact h k x (by rwa [List.getElem?_append_left hk] at hx)
 ·rw [List.getElem?_append_right (by omega)] at hx;have:=h' (k-L.length) x hx;rwa [show s+L.length+(k-L.length)=s+k by omega] at this
theorem LocOk.plain{N W m s:Nat}{L:List Ins}(h:∀x∈L,1≤x.op∧x.op≤10∧0≤x.arg∧x.arg<(W:Int)∧(7≤x.op→(m:Int)≤x.arg)):LocOk N W m s L:=by
 intro k x hx;have h1:=h x (List.mem_of_getElem? hx);exact⟨by omega,fun h2=>by omega,fun _=>⟨h1.2.2.1,h1.2.2.2.1⟩,fun h2 _=>h1.2.2.2.2 h2⟩
theorem yhq{N W m:Nat}{i moved alarm:Nat}{es:List (Nat×Nat)}{s:Nat}(hN:s+(6+5*es.length)≤N)(hi:i<W)(hm:moved<W)(hm2:m≤moved)(ha:alarm<W)(ha2:m≤alarm)(he:∀e∈es,e.1<W∧m≤e.1∧e.2<W∧m≤e.2):LocOk N W m s (y7r i moved alarm es s):=by
 unfold y7r;refine LocOk.append ?_ (LocOk.plain ?_)
 ·intro k x hx
  match k,hx with
  | 0,hx=>cases hx;exact⟨by dsimp only;omega,fun h=>by simp at h,fun _=>by dsimp only;omega,fun h=>by simp at h⟩
  | 1,hx=>cases hx;exact⟨by dsimp only;omega,fun _=>⟨by show((s+1:Nat):Int)<((s+6+5*es.length:Nat):Int);omega,by show((s+6+5*es.length:Nat):Int)≤(N:Int);omega⟩,fun h=>by simp at h,fun _ h=>by simp at h⟩
  | 2,hx=>cases hx;exact⟨by dsimp only;omega,fun h=>by simp at h,fun _=>by dsimp only;omega,fun h=>by simp at h⟩
  | 3,hx=>cases hx;exact⟨by dsimp only;omega,fun h=>by simp at h,fun _=>by dsimp only;omega,fun _ _=>by dsimp only;omega⟩
  | k+4,hx=>cases hx
 ·intro x hx;rcases yMa.1 hx with h|h
  ·obtain ⟨e,hee,h⟩:=List.mem_flatMap.1 h;have:=he e hee;simp [edgeI] at h;rcases h with rfl|rfl|rfl|rfl|rfl <;> dsimp only <;> omega
  ·simp at h;rcases h with rfl|rfl <;> dsimp only <;> omega
theorem ydn{N W m:Nat}{moved alarm:Nat}(hm:moved<W)(hm2:m≤moved)(ha:alarm<W)(ha2:m≤alarm):∀(l:List (Nat×List (Nat×Nat))) {s:Nat},s+(y1c moved alarm l s).length≤N→(∀x∈l,x.1<W∧∀e∈x.2,e.1<W∧m≤e.1∧e.2<W∧m≤e.2)→LocOk N W m s (y1c moved alarm l s)
 | [],s,_,_=>fun k x hx=>by cases hx
 | (i,es)::l,s,hN,h=>by
  rw [y1c] at hN ⊢;rw [List.length_append,y6L] at hN;have hx:=h (i,es) (List.mem_cons_self ..);refine(yhq (es:=es) (by omega) hx.1 hm hm2 ha ha2 hx.2).append ?_;rw [y6L];exact ydn hm hm2 ha ha2 l (by omega) (fun y hy=>h y (List.mem_cons_of_mem _ hy))
theorem yf9{N W m s:Nat}{l:List (Nat×List Nat)}(h:∀x∈l,x.1<W∧m≤x.1∧∀y∈x.2,y<W):LocOk N W m s (yF l):=by
 refine LocOk.plain fun x hx=>?_;obtain⟨c,hc,h1⟩:=List.mem_flatMap.1 hx;obtain⟨o,ms⟩:=c;have h2:=h _ hc;dsimp only at h2;cases ms with
 | nil=>
  simp [y2y] at h1;rcases h1 with rfl|rfl|rfl <;> dsimp only <;> omega
 | cons y ms=>
  simp [y2y] at h1;have hy:=h2.2.2 y (List.mem_cons_self ..);rcases h1 with rfl|⟨k,hk,rfl⟩|rfl
  ·dsimp only;omega
  ·have:=h2.2.2 k (List.mem_cons_of_mem _ hk);dsimp only;omega
  ·dsimp only;omega
theorem yjQ{a:Aut}{ctrl:List Int}{n:Nat}(hn:a.n=n)(hes:∀x∈a.es,0≤x.f∧x.f<(n:Int)∧0≤x.t∧x.t<(n:Int)):
  ∀(i:Nat) (x:Ins),(genP a ctrl)[i]? =some x→InsOk (genP a ctrl).length (a.al.length+(ctrl.length+1)+(n+1)) a.al.length i x:=by
 have h1:=ydn (N:=(genP a ctrl).length) (W:=a.al.length+(ctrl.length+1)+(n+1)) (m:=a.al.length) (moved:=a.al.length+(ctrl.length+1)+n) (alarm:=a.al.length+ctrl.length) (by omega) (by omega) (by omega) (by omega)
  ((evsOf a).map fun x=>(x.1,x.2.map fun e=>(a.al.length+(ctrl.length+1)+e.1,a.al.length+(ctrl.length+1)+e.2))) (s:=0) (by
   unfold genP genI;rw [hn,Int.toNat_natCast,List.length_append];omega) (fun x hx=>by
   obtain⟨y,hy,rfl⟩:=List.mem_map.1 hx;obtain⟨k,hk,rfl⟩:=List.mem_map.1 hy;refine⟨by have:=List.mem_range.1 hk;dsimp only;omega,fun e he=>?_⟩;obtain⟨z,hz,rfl⟩:=List.mem_map.1 he;obtain⟨q,hq,rfl⟩:=List.mem_map.1 hz;have:=hes q (List.mem_filter.1 hq).1;dsimp only;omega)
 have h2:=yf9 (N:=(genP a ctrl).length) (W:=a.al.length+(ctrl.length+1)+(n+1)) (m:=a.al.length)
  (s:=0+(y1c (a.al.length+(ctrl.length+1)+n) (a.al.length+ctrl.length) ((evsOf a).map fun x=>(x.1,x.2.map fun e=>(a.al.length+(ctrl.length+1)+e.1,a.al.length+(ctrl.length+1)+e.2))) 0).length)
  (l:=(cmsOf a ctrl).map fun x=>(a.al.length+x.1,x.2.map fun y=>a.al.length+(ctrl.length+1)+y)) (fun x hx=>by
   obtain⟨y,hy,rfl⟩:=List.mem_map.1 hx;obtain⟨k,hk,rfl⟩:=List.mem_map.1 hy;have:=List.mem_range.1 hk;refine⟨by dsimp only;omega,by dsimp only;omega,fun z hz=>?_⟩;obtain⟨q,hq,rfl⟩:=List.mem_map.1 hz;obtain⟨r,hr,rfl⟩:=List.mem_map.1 hq;have:=hes r (List.mem_filter.1 hr).1;omega)
 have h3:=h1.append h2;intro i x hx;have h4:genP a ctrl=y1c (a.al.length+(ctrl.length+1)+n) (a.al.length+ctrl.length) ((evsOf a).map fun x=>(x.1,x.2.map fun e=>(a.al.length+(ctrl.length+1)+e.1,a.al.length+(ctrl.length+1)+e.2))) 0++yF ((cmsOf a ctrl).map fun x=>(a.al.length+x.1,x.2.map fun y=>a.al.length+(ctrl.length+1)+y)):=by
  unfold genP genI;rw [hn,Int.toNat_natCast]
 rw [h4] at hx;have:=h3 i x hx;rwa [Nat.zero_add] at this
end Go.Proofs.YtecmobjeeonmaaaGreatDoor
