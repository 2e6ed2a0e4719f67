/- Parts of the proof, without what nothing here names. -/
import Derived.Test.YtecmobjeeonmaaaGreatDoorProg
import Derived.Shelf.SlSortCmp.InsertionK
import Derived.Shelf.SlSortCmp.NoneTotal
import Derived.Ground.SlsfProg
import Derived.Test.YtecmobjeeonmaaaGreatDoorQo3
set_option maxRecDepth 100000
set_option maxHeartbeats 8000000
namespace Go.Proofs.YtecmobjeeonmaaaGreatDoor
open Go Go.RowKit
noncomputable section
variable{p0:List Int}{p1 p2:Int}
def yA(p0:List Int)(p1:List Int):Option Bool:=
 (y3N p0 p1).bind fun a=>
 some ((a.length:Int)==0)
theorem y6y{p1:List Int}{r:Bool}(hm:yA p0 p1=some r):
  F0 26 [.f qI p0,.f qI p1] [] (.b r) []:=by
 refine Fw.mk2 Tryz.func26 Tryz.ntmps26 R (fun C=>?_) R;refine .sr (.an R (.sr (.mv R (.mv R (bS hm fun c a hm=> .op (O.ca (r':= .h 0) [0] [(0,rwI c)] (some 1) (y9p a) cf17 R R Z R R R R ⟨⟨_,R,I4⟩,trivial⟩ I3 R) R (.lh sl32 R (.bi R (.an R (.ret ?_)))))))));cases hm;exact .rr [] Tryz.results26 (.tmp R .nil) R I3 trivial
def yar(p0:List Int)(p1:Int)(a:Int):Option (Int⊕(Unit⊕Int)):=
 if decide (a<(p0.length:Int)) then
  (idx p0 a).bind fun b=>
  if((decide (b<0))||(decide (b≥p1))) then
   some (.inr (.inr (2)))
  else
   (if decide (a>0) then
    (idx p0 (W (a-1))).bind fun d=>
    some (decide (b≤d))
   else
    some false).bind fun c=>
   if c then
    some (.inr (.inr (5)))
   else
    some (.inl (W (a+1)))
 else
  some (.inr (.inl ()))
def y1l(p0:List Int)(p1:Int):Option Int:=
 (iter (yar p0 p1) 0).bind fun a=>
 match a with
 | .inl c=>
  some 0
 | .inr (b)=>
  some b
theorem y2K{r:Int}(hm:y1l p0 p1=some r):
  F0 25 [.f qI p0,.i p1] [] (.i r) []:=by
 refine Fw.mk2 Tryz.func25 Tryz.ntmps25 R (fun C=>?_) R;refine .sr (.an R (.seq (.sr (.mv R (.ln sl32 R (.mv R (.ns (.block (bS hm fun o p hm=>?_)))))))));refine .cutU (z:= .exit 0) (fun h=> .inl h=o) (fun (h:Unit)=>⟨[],[],0⟩) ?_ fun u=>?_
 ·rintro h rfl;dsimp only at hm;refine .blkE (.seqN (.sr (.an R (.ret ?_))));cases hm;exact .rr [] Tryz.results25 (.tmp R .nil) R I3 trivial
 refine .cutU (z:= .ret) (fun g=> .inr (g)=o) (fun (g:Int)=>⟨[(4,.i g)],[],0⟩) ?_ fun n=>?_
 ·rintro g rfl;dsimp only at hm;refine .blkR (.seqR ?_);cases hm;exact .rr [] Tryz.results25 (.tmp R .nil) R I3 trivial
 refine .iter (fun (a:Int)=>⟨[(9,.i a),(8,.i p0.length),(7,.f qI p0),(0,.f qI p0),(1,.i p1)],[],0⟩) p [] R ?_;intro a x hm t e;refine .sr (.bi R (.ns (.seq ?_)));refine .cc hm R (fun hm=>?_) fun hm=> .exit (.seqX (.seqX ((u _ (e _ (oj hm))).sub [] R)));refine .skip (.seqN (.seq (.block (.sr (.mv R (bS hm fun c q hm=> .ix sl32 q R (.le nag3 lv3 R (.sa R (.an R (.seq (.sr (.mv R (.bi R (.mv R ?_))))))))))))));refine .cut 4 (fun (j:Bool)=>((decide (c<0))||(decide (c≥p1)))=j) (fun j=>⟨[(20,.b j),(6,.i c),(5,.i a),(9,.i a),(8,.i p0.length),(7,.f qI p0),(0,.f qI p0),(1,.i p1)],[],0⟩) ?_ ?_
 ·rintro _ rfl;refine .ns (.cc hm R (fun hm=> .sr (.an R (.ret (.seqR (.blkR (.seqR (.seqR ((n _ (e _ (oj hm))).sub [] R)))))))) fun hm=>?_);refine .skip (.seqN (.sr (.mv R (.bi R (.mv R (bS hm fun v eb19 hm=>?_))))));refine .cut 8 (fun (k:Bool)=>v=k) (fun k=>⟨[(31,.b k),(9,.i a),(8,.i p0.length),(7,.f qI p0),(0,.f qI p0),(1,.i p1)],[],0⟩) ?_ ?_
  ·rintro _ rfl;exact .ns (.cc hm R (fun hm=> .sr (.an R (.ret (.blkR (.seqR (.seqR ((n _ (e _ (oj hm))).sub [] R))))))) fun hm=> .skip (.blkN (.seqN (.reg (.bi R (.mv R (.nil ((t _ (oj hm)).sub [] R))))))))
  ·intro m;rcases ifS eb19 with ⟨hc,hm⟩|⟨hc,hm⟩
   ·refine .know (d:=23) R hc ?_;exact .mg R (.mg R (.mg R (.bg R (bS hm fun w s hm=> .op (O.ix sl32 (Gu.mk R R) R R s R) R (.leg nag3 lv3 R (.bg R (.pT R ((m (decide (c≤w)) (oj hm)).sub [] R))))))))
   ·refine .know (d:=23) R hc ?_;exact .sk R (.sk R (.sk R (.sk R (.sk R (.sk R (.sk R (.pF R ((m false (oj hm)).sub [] R))))))))
 ·intro l;rcases yEt (decide (c<0)) with hc|hc
  ·refine .know (d:=16) R hc ?_;exact .sk R (.sk R (.sk R (.pT R ((l true (orT hc).symm).sub [] R))))
  ·refine .know (d:=16) R hc ?_;exact .mg R (.mg R (.bg R (.pF R ((l (decide (c≥p1)) (orF hc).symm).sub [] R))))
def y1X(p0:List AutT)(a:Int):Option (Int⊕(Unit⊕Int)):=
 if decide (a<(p0.length:Int)) then
  (idx p0 a).bind fun c=>
  (y1p c).bind fun b=>
  if(b != 0) then
   some (.inr (.inr (b)))
  else
   some (.inl (W (a+1)))
 else
  some (.inr (.inl ()))
def y5C(p0:List AutT):Option Int:=
 if decide ((p0.length:Int)>12) then
  some 3
 else
  (iter (y1X p0) 0).bind fun a=>
  match a with
  | .inl c=>
   some 0
  | .inr (b)=>
   some b
theorem yct{p0:List AutT}{r:Int}(hm:y5C p0=some r):
    F0 95 [.f rE35 p0] [] (.i r) []:=by
  refine Fw.mk2 Tryz.func95 Tryz.ntmps95 R (fun C=>?_) R;refine .sr (.an R (.seq (.sr (.mv R (.ln sl66 R (.bi R (.ns ?_)))))));refine .cc hm R (fun hm=>?_) fun hm=>?_
  ·refine .sr (.an R (.ret (.seqR ?_)));cases hm;exact .rr [] Tryz.results95 (.tmp R .nil) R I3 trivial
  ·refine .skip (.seqN (.seq (.sr (.mv R (.ln sl66 R (.mv R (.ns (.block (bS hm fun m k hm=>?_)))))))));refine .cutU (z:= .exit 0) (fun h=> .inl h=m) (fun (h:Unit)=>⟨[],[],0⟩) ?_ fun K8=>?_
   · rintro h rfl;dsimp only at hm;refine .blkE (.seqN (.sr (.an R (.ret ?_))));cases hm;exact .rr [] Tryz.results95 (.tmp R .nil) R I3 trivial
   refine .cutU (z:= .ret) (fun a=> .inr (a)=m) (fun (a:Int)=>⟨[(2,.i a)],[],0⟩) ?_ fun j=>?_
   · rintro a rfl;dsimp only at hm;refine .blkR (.seqR ?_);cases hm;exact .rr [] Tryz.results95 (.tmp R .nil) R I3 trivial
   refine .iter (fun (c:Int)=>⟨[(11,.i c),(10,.i p0.length),(9,.f rE35 p0)],[],0⟩) k [] R ?_;intro c n hm l b;refine .sr (.bi R (.ns (.seq ?_)));refine .cc hm R (fun hm=>?_) fun hm=> .exit (.seqX (.seqX ((K8 _ (b _ (oj hm))).sub [] R)));refine .skip (.seqN (.seq (.block (.sr (bS hm fun d g hm=> .ix sl66 g R (.lg (lx35 d) ag35 R (.E lv35) R (.al 0 zz35 R (.st ag35.sz R (.nr (.lg (lx35 d) ag35 R (.B R) R (bS hm fun o e hm=> .c0 (y4R e) cf101 R (.an R (.sr (.mv R (.bi R (.ns ?_))))))))))))))));exact .cc hm R (fun hm=> .sr (.mv R (.an R (.ret (.blkR (.seqR (.seqR ((j _ (b _ (oj hm))).sub [] R)))))))) fun hm=> .skip (.blkN (.seqN (.reg (.bi R (.mv R (.nil ((l _ (oj hm)).sub [] R)))))))
def yC(p0:Bool)(p1:Bool):Option Bool:=
 some (p0||p1)
theorem ybj{p0:Bool}{p1:Bool}{r:Bool}(hm:yC p0 p1=some r):
  F0 237 [.b p0,.b p1] [] (.b r) []:=by
 refine Fw.mk2 Tryz.func237 Tryz.ntmps237 R (fun C=>?_) R;refine .sr (.an R (.sr (.mv R (.mv R ?_))));refine .cut 2 (fun (a:Bool)=>(p0||p1)=a) (fun a=>⟨[(8,.b a)],[],0⟩) ?_ ?_
 ·rintro _ rfl;refine .an R (.ret ?_);cases hm;exact .rr [] Tryz.results237 (.tmp R .nil) R I3 trivial
 ·intro c;rcases yEt p0 with hc|hc
  ·refine .know (d:=6) R hc ?_;exact .sk R (.pT R ((c true (orT hc).symm).sub [] R))
  ·refine .know (d:=6) R hc ?_;exact .mg R (.pF R ((c p1 (orF hc).symm).sub [] R))
def y5a(p0:List Int)(p1:List Int):Option (List Int):=
 (y2R p0 p1 yC).bind fun a=>
 some a
theorem ybW{p1:List Int}{r:List Int}(hm:y5a p0 p1=some r):
  F0 210 [.f qI p0,.f qI p1] [] (.h 0) [rwI r]:=by
 refine Fw.mk2 Tryz.func210 Tryz.ntmps210 R (fun C=>?_) R;refine .sr (.an R (.sr (.mv R (.mv R (bS hm fun b a hm=> .op (O.cac (r':= .h 0) [0] [(0,rwI b)] (some 1) (y7M a) cf75 R R Z R R ⟨⟨R,.rf⟩,⟨R,.rf⟩,⟨R,(.c (.fn cf237 (fun x r h=>ybj h) (fun _=>R)) .n)⟩,trivial⟩ R ⟨⟨_,R,I4⟩,trivial⟩ I3 R) R (.an R (.ret ?_)))))));cases hm;exact .rr [0] Tryz.results210 (.tmp R .nil) R I3 ⟨⟨_,R,I4⟩,trivial⟩
def y1J(p0:List AutT)(a:Int×List Int):Option ((Int×List Int)⊕(List Int)):=
 if decide (a.1<(p0.length:Int)) then
  (idx p0 a.1).bind fun c=>
  (y5a a.2 c.1).bind fun b=>
  some (.inl (W (a.1+1),b))
 else
  some (.inr a.2)
def y5b(p0:List AutT):Option (List Int):=
 (iter (y1J p0) (0,([]:List Int))).bind fun a=>
 some a
theorem ybX{p0:List AutT}{r:List Int}(hm:y5b p0=some r):
  F0 159 [.f rE35 p0] [] (.h 0) [rwI r]:=by
 refine Fw.mk2 Tryz.func159 Tryz.ntmps159 R (fun C=>?_) R;refine .sr (.an R (.sr (.an R (.seq (.sr (.mv R (.ln sl66 R (.mv R (.ns (.block (bS hm fun d e hm=>?_)))))))))));refine .cut1 (z:= .exit 0) d (fun (d:List Int)=>⟨[(3,.h 0)],[(0,rwI d)],1⟩) ?_ fun K9=>?_
 ·skip
  refine .blkE (.seqN (.sr (.mv R (.an R (.ret ?_)))));cases hm;exact .rr [0] Tryz.results159 (.tmp R .nil) R I3 ⟨⟨_,R,I4⟩,trivial⟩
 refine .nlg qI 3 3 0 R R (.iter (fun (a:Int×List Int)=>⟨[(8,.i a.1),(7,.i p0.length),(6,.f rE35 p0),(3,.h 0)],[(0,rwI a.2)],1⟩) e [] R ?_);intro a m hm j g;refine .sr (.bi R (.ns (.seq ?_)));exact .cc hm R (fun hm=> .skip (.seqN (.seq (.block (.sr (bS hm fun l c hm=> .ix sl66 c R (.lg (lx35 l) ag35 R (.E lv35) R (.al 1 zz35 R (.st ag35.sz R (.ns (.reg (.mv R (.fa yz R (.lb nag32 R (bS hm fun k b hm=> .op (O.caY (r':= .h 2) [2] [(0,rwI k)] (some 3) (ybW b) cf210 R R Z R R ⟨⟨R,.hr R,trivial⟩,⟨R,LnL.rf⟩,trivial⟩ R ⟨.row flr3,trivial⟩ (fun _ _ _ _ h=>h) ⟨⟨_,R,I4⟩,trivial⟩ I3 R) R (.sa R (.nil (.blkN (.seqN (.reg (.bi R (.mv R (.nil ((j _ (oj hm)).sub [(0,2)] R)))))))))))))))))))))))) fun hm=> .exit (.seqX (.seqX ((K9 _ (g _ (oj hm))).sub [] R)))
def y1K(c:AutT)(a:Int×(List KeyT)):Option ((Int×(List KeyT))⊕(List KeyT)):=
 if decide (a.1<(c.2.2.2.length:Int)) then
  (idx c.2.2.2 a.1).bind fun b=>
  some (.inl (W (a.1+1),(kput a.2 (b.1,b.2.1) b.2.2)))
 else
  some (.inr a.2)
def y2x(p0:List AutT)(a:Int×(List (List KeyT))):Option ((Int×(List (List KeyT)))⊕(List (List KeyT))):=
 if decide (a.1<(p0.length:Int)) then
  (idx p0 a.1).bind fun c=>
  (iter (y1K c) (0,([]:List KeyT))).bind fun b=>
  (app a.2 ([b]:List (List KeyT))).bind fun d=>
  some (.inl (W (a.1+1),d))
 else
  some (.inr a.2)
def y5c(p0:List AutT):Option ((List AutT)×List Int×(List (List KeyT))):=
 (y5b p0).bind fun b=>
 (iter (y2x p0) (0,([]:List (List KeyT)))).bind fun a=>
 some (p0,b,a)
theorem ycT{p0:List AutT}{r:((List AutT)×List Int×(List (List KeyT)))}(hm:y5c p0=some r):
  F0 96 [.f rE35 p0] [] (.g [lF rE35 r.1,lH 0,lH 1]) [rwI r.2.1,ROW (rM kvP qI) 139 r.2.2]:=by
 refine Fw.mk2 Tryz.func96 Tryz.ntmps96 R (fun C=>?_) R;refine .sr (.al 0 zz162 R (.nr (.mv R (.mv R (bS hm fun o J hm=> .op (O.ca (r':= .h 1) [1] [(0,rwI o)] (some 2) (ybX J) cf159 R R Z R R R R ⟨⟨_,R,I4⟩,trivial⟩ I3 R) R (.bu [lF rE35 p0,lH 1,lN] pl162 R (.al 2 zz162 R (.st ag162.sz R (.ns (.seq (.sr (.mv R (.ln sl66 R (.mv R (.ns (.block (bS hm fun l s hm=>?_)))))))))))))))));refine .cut1 (z:= .exit 0) l (fun (l:(List (List KeyT)))=>⟨[(3,.q 0 0),(2,.q 3 0)],[(0,.bx 162 [lF rE35 p0,lH 1,lH 2]),(1,rwI o),(2,ROW (rM kvP qI) 139 l),(3,.bx 162 [lN,lN,lN])],4⟩) ?_ fun H=>?_
 ·skip
  refine .blkE (.seqN (.sr (.lg [lF rE35 p0,lH 1,lH 2] ag162 R (.B R) R (.st ag162.sz R (.ns (.ret ?_))))));cases hm;exact .rr [1,2] Tryz.results96 (.cell R R ag162 R .nil) R I3 ⟨⟨_,R,I4⟩,⟨_,R,I4⟩,trivial⟩
 refine .nlb (rM kvP qI) 139 2 2 R R (.iter (fun (b:Int×(List (List KeyT)))=>⟨[(15,.i b.1),(14,.i p0.length),(13,.f rE35 p0),(3,.q 0 0),(2,.q 3 0)],[(0,.bx 162 [lF rE35 p0,lH 1,lH 2]),(1,rwI o),(2,ROW (rM kvP qI) 139 b.2),(3,.bx 162 [lN,lN,lN])],4⟩) s [(0,2),(2,3),(3,0)] R ?_);intro b K hm F y;refine .sr (.bi R (.ns (.seq ?_)));refine .cc hm R (fun hm=>?_) fun hm=> .exit (.seqX (.seqX ((H _ (y _ (oj hm))).sub [] R)));refine .skip (.seqN (.seq (.block (.sr (bS hm fun p u hm=> .ix sl66 u R (.lg (lx35 p) ag35 R (.E lv35) R (.al 4 zz35 R (.st ag35.sz R (.nr (.op (O.mk2 (kv:=kvP) (r:=qI) 5 R Z R) R (.an R (.seq (.sr (.fa yB R (.lb nag33 R (.ln sl33 R (.mv R (.ns (.block (bS hm fun j t hm=>?_))))))))))))))))))));refine .cut1 (z:= .exit 2) j (fun (j:(List KeyT))=>⟨[(6,.h 0),(15,.i b.1),(14,.i p0.length),(13,.f rE35 p0),(3,.q 1 0),(2,.q 4 0)],[(0,MAP kvP qI 139 j),(1,.bx 162 [lF rE35 p0,lH 2,lH 3]),(2,rwI o),(3,ROW (rM kvP qI) 139 b.2),(4,.bx 162 [lN,lN,lN])],5⟩) ?_ fun I=>?_
 ·skip
  exact .blkE (.seqN (.reg (.fa ydI R (.lb yeZ R (.mv R (.fz 0 [38] [] R R fM R R (.op (O.bsF (r:=(rM kvP qI)) (zs:=([j]:List (List KeyT))) bs160 R R Z R R R (.c .m .n) R R R) R (bS hm fun M w hm=> .op (O.ap 5 Tryz.underlying160 el139 R R Z R R (.fr R) w R) R (.fa ydI R (.st yeZ.sz R (.nil (.blkN (.seqN (.reg (.bi R (.mv R (.nil ((F _ (oj hm)).sub [(0,1),(1,2),(2,5),(3,4)] R))))))))))))))))))
 refine .iter (fun (e:Int×(List KeyT))=>⟨[(23,.i e.1),(22,.i p.2.2.2.length),(21,.f qT p.2.2.2),(6,.h 0),(15,.i b.1),(14,.i p0.length),(13,.f rE35 p0),(3,.q 1 0),(2,.q 4 0)],[(0,MAP kvP qI 139 e.2),(1,.bx 162 [lF rE35 p0,lH 2,lH 3]),(2,rwI o),(3,ROW (rM kvP qI) 139 b.2),(4,.bx 162 [lN,lN,lN])],5⟩) t [(0,5),(1,0),(2,1),(3,2),(4,3)] R ?_;intro e L hm G D;refine .sr (.bi R (.ns (.seq ?_)));exact .cc hm R (fun hm=> .skip (.seqN (.seq (.block (.sr (bS hm fun d x hm=> .ix sl33 x R (.lg [lI d.1,lI d.2.1,lI d.2.2] ag124 R (.E lv124) R (.al 5 zz124 R (.st ag124.sz R (.ns (.reg (.mv R (.fa y1A R (.lb nag3 R (.fa y2I R (.lb nag3 R (.bu [lI d.1,lI d.2.1] pl241 R (.fa y2J R (.lb nag3 R (.op (O.mu (k:=(d.1,d.2.1)) (v:=d.2.2) md139 (fun _ _=>eqP) Z R R (.a R R) R .k) R (.nil (.blkN (.seqN (.reg (.bi R (.mv R (.nil ((G _ (oj hm)).sub [] R)))))))))))))))))))))))))))) fun hm=> .exit (.seqX (.seqX ((I _ (D _ (oj hm))).sub [] R)))
def yl(p0:(List AutT)×List Int×(List (List KeyT)))(a:Int):Option (Int⊕(Unit⊕Unit)):=
 if decide (a<(p0.1.length:Int)) then
  (idx p0.1 a).bind fun b=>
  if(b.2.1==0) then
   some (.inr (.inr (())))
  else
   some (.inl (W (a+1)))
 else
  some (.inr (.inl ()))
def yx(p0:(List AutT)×List Int×(List (List KeyT))):Option (List Int×Bool):=
 (iter (yl p0) 0).bind fun a=>
 match a with
 | .inl c=>
  (mkL (p0.1.length:Int) (0:Int)).bind fun b=>
  some (b,true)
 | .inr (d)=>
  some (([]:List Int),false)
theorem y9q{p0:(List AutT)×List Int×(List (List KeyT))}{r:List Int×Bool}(hm:yx p0=some r):
  F0 97 [.a [lF rE35 p0.1,lF qI p0.2.1,lF (rM kvP qI) p0.2.2]] [] (.tp [.h 0,.b r.2]) [rwI r.1]:=by
 refine Fw.mk2 Tryz.func97 Tryz.ntmps97 R (fun C=>?_) R;refine .sr (.bo 0 R (.sa R (.an R (.seq (.sr (.fa yce R (.lb nag66 R (.ln sl66 R (.mv R (.ns (.block (bS hm fun n k hm=>?_))))))))))));refine .cutU (z:= .exit 0) (fun g=> .inl g=n) (fun (g:Unit)=>⟨[(1,.q 0 0)],[(0,.bx 162 [lF rE35 p0.1,lF qI p0.2.1,lF (rM kvP qI) p0.2.2])],1⟩) ?_ fun K6=>?_
 ·rintro g rfl;dsimp only at hm;refine .blkE (.seqN (.sr (.fa yce R (.lb nag66 R (.ln sl66 R (bS hm fun t l hm=> .op (O.mk (z:=(0:Int)) 1 Tryz.underlying32 zr3 R R Z R R l R) R (.sa R (.an R (.ret ?_)))))))));cases hm;exact .rr [1] Tryz.results97 (.tmp R (.tmp R .nil)) R I3 ⟨⟨_,R,I4⟩,trivial⟩
 refine .cutU (z:= .ret) (fun j=> .inr (j)=n) (fun (j:Unit)=>⟨[(3,.b false),(2,.o (lN))],[],0⟩) ?_ fun K9=>?_
 ·rintro j rfl;dsimp only at hm;refine .blkR (.seqR (.nlg qI 3 2 0 R R ?_));cases hm;exact .rr [0] Tryz.results97 (.tmp R (.tmp R .nil)) R I3 ⟨⟨_,R,I4⟩,trivial⟩
 refine .iter (fun (d:Int)=>⟨[(9,.i d),(8,.i p0.1.length),(7,.f rE35 p0.1),(1,.q 0 0)],[(0,.bx 162 [lF rE35 p0.1,lF qI p0.2.1,lF (rM kvP qI) p0.2.2])],1⟩) k [] R ?_;intro d s hm m c;refine .sr (.bi R (.ns (.seq ?_)));refine .cc hm R (fun hm=>?_) fun hm=> .exit (.seqX (.seqX ((K6 _ (c _ (oj hm))).sub [] R)));refine .skip (.seqN (.seq (.block (.sr (bS hm fun p e hm=> .ix sl66 e R (.lg (lx35 p) ag35 R (.E lv35) R (.al 1 zz35 R (.st ag35.sz R (.nr (.fa y1W R (.lb nag3 R (.bi R (.ns ?_)))))))))))));exact .cc hm R (fun hm=> .sr (.sa R (.an R (.ret (.blkR (.seqR (.seqR ((K9 _ (c _ (oj hm))).sub [] R)))))))) fun hm=> .skip (.blkN (.seqN (.reg (.bi R (.mv R (.nil ((m _ (oj hm)).sub [] R)))))))
def y6M(p0:Int):Option Bool:=
 some (p0 != p0)
theorem y9K{p0:Int}{r:Bool}(hm:y6M p0=some r):
  F0 214 [.i p0] [] (.b r) []:=by
 refine Fw.mk2 Tryz.func214 Tryz.ntmps214 R (fun C=>?_) R;refine .sr (.an R (.sr (.mv R (.mv R (.bi R (.an R (.ret ?_)))))));cases hm;exact .rr [] Tryz.results214 (.tmp R .nil) R I3 trivial
def y7W(p0:Int)(p1:Int):Option Bool:=
 (y6M p0).bind fun b=>
 (if b then
  (y6M p1).bind fun c=>
  some (!c)
 else
  some false).bind fun a=>
 some (a||(decide (p0<p1)))
theorem ycU{p0:Int}{r:Bool}(hm:y7W p0 p1=some r):
  F0 208 [.i p0,.i p1] [] (.b r) []:=by
 refine Fw.mk2 Tryz.func208 Tryz.ntmps208 R (fun C=>?_) R;refine .sr (.an R (.sr (.mv R (bS hm fun l h hm=> .c0 (y9K h) cf214 R (.mv R (bS hm fun a eb2 hm=>?_))))));refine .cut 4 (fun (c:Bool)=>a=c) (fun c=>⟨[(11,.b c),(0,.i p0),(1,.i p1)],[],0⟩) ?_ ?_
 ·rintro _ rfl;refine .mv R ?_;refine .cut 4 (fun (e:Bool)=>(a||(decide (p0<p1)))=e) (fun e=>⟨[(16,.b e)],[],0⟩) ?_ ?_
  ·rintro _ rfl;refine .an R (.ret ?_);cases hm;exact .rr [] Tryz.results208 (.tmp R .nil) R I3 trivial
  ·intro g;rcases yEt a with hc|hc
   ·refine .know (d:=12) R hc ?_;exact .sk R (.sk R (.sk R (.pT R ((g true (orT hc).symm).sub [] R))))
   ·refine .know (d:=12) R hc ?_;exact .mg R (.mg R (.bg R (.pF R ((g (decide (p0<p1)) (orF hc).symm).sub [] R))))
 ·intro f;rcases ifS eb2 with ⟨hc,hm⟩|⟨hc,hm⟩
  ·refine .know (d:=7) R hc ?_;exact .mg R (bS hm fun k j hm=> .op (O.ca0 (y9K j) cf214 R R (Gu.mk R R) R R R) R (.op (O.not (Gu.mk R R) R R) R (.pT R ((f (!k) (oj hm)).sub [] R))))
  ·refine .know (d:=7) R hc ?_;exact .sk R (.sk R (.sk R (.pF R ((f false (oj hm)).sub [] R))))
def y5q(p0:Int):Option Bool:=
 some (p0 != p0)
theorem y8z{p0:Int}{r:Bool}(hm:y5q p0=some r):
  F0 209 [.i p0] [] (.b r) []:=by
 refine Fw.mk2 Tryz.func209 Tryz.ntmps209 R (fun C=>?_) R;refine .sr (.an R (.sr (.mv R (.mv R (.bi R (.an R (.ret ?_)))))));cases hm;exact .rr [] Tryz.results209 (.tmp R .nil) R I3 trivial
def y1M(p0:List Int)(p1:Int)(a:Int×Int):Option ((Int×Int)⊕Int):=
 if decide (a.2<a.1) then
  (idx p0 (W ((IntKind.u64.wrap (W (a.2+a.1))).fdiv (2 ^ (min (1:Int).toNat 64))))).bind fun c=>
  (y7W c p1).bind fun b=>
  if b then
   some (.inl (a.1,W ((W ((IntKind.u64.wrap (W (a.2+a.1))).fdiv (2 ^ (min (1:Int).toNat 64))))+1)))
  else
   some (.inl (W ((IntKind.u64.wrap (W (a.2+a.1))).fdiv (2 ^ (min (1:Int).toNat 64))),a.2))
 else
  some (.inr a.2)
def y6e(p0:List Int)(p1:Int):Option (Int×Bool):=
 (iter (y1M p0 p1) ((p0.length:Int),0)).bind fun a=>
 (if decide (a<(p0.length:Int)) then
  (idx p0 a).bind fun g=>
  (if (g==p1) then
   some true
  else
   (idx p0 a).bind fun h=>
   (y5q h).bind fun e=>
   (if e then
    (y5q p1).bind fun f=>
    some f
   else
    some false).bind fun d=>
   some d).bind fun c=>
  some c
 else
  some false).bind fun b=>
 some (a,b)
theorem y9r{r:Int×Bool}(hm:y6e p0 p1=some r):
  F0 158 [.f qI p0,.i p1] [] (.tp [.i r.1,.b r.2]) []:=by
 refine Fw.mk2 Tryz.func158 Tryz.ntmps158 R (fun C=>?_) R;refine .sr (.sa R (.an R (.sr (.mv R (.ln sl32 R (.an R (.sr (.mv R (.sa R (.an R (.seq (.block (bS hm fun a x hm=>?_)))))))))))));refine .cut1 (z:= .exit 0) a (fun (a:Int)=>⟨[(7,.i a),(6,.i p0.length),(0,.f qI p0),(1,.i p1)],[],0⟩) ?_ fun K9=>?_
 ·skip
  refine .blkE (.seqN (.sr (.mv R (.mv R (.mv R (.bi R (.mv R (bS hm fun w eb10 hm=>?_))))))));refine .cut 18 (fun (e:Bool)=>w=e) (fun e=>⟨[(53,.b e),(31,.i a)],[],0⟩) ?_ ?_
  ·rintro _ rfl;refine .sa R (.an R (.ret ?_));cases hm;exact .rr [] Tryz.results158 (.tmp R (.tmp R .nil)) R I3 trivial
  ·intro j;rcases ifS eb10 with ⟨hc,hm⟩|⟨hc,hm⟩
   ·refine .know (d:=35) R hc ?_;refine .mg R (.mg R (bS hm fun G t hm=> .op (O.ix sl32 (Gu.mk R R) R R t R) R (.leg nag3 lv3 R (.mg R (.bg R (.mg R (bS hm fun m eb14 hm=>?_)))))));refine .cut 10 (fun (g:Bool)=>m=g) (fun g=>⟨[(52,.b g),(35,.b true),(31,.i a)],[],0⟩) ?_ ?_
    ·rintro _ rfl;exact .pT R ((j m (oj hm)).sub [] R)
    ·intro k;rcases ifS eb14 with ⟨hc,hm⟩|⟨hc,hm⟩
     ·refine .know (d:=42) R hc ?_;exact .sk R (.sk R (.sk R (.sk R (.sk R (.sk R (.su R (.su R (.sk R (.op (O.pkT (Gu.mk R R) R R R R) R ((k true (oj hm)).sub [] R))))))))))
     ·refine .know (d:=42) R hc ?_;refine .mg R (.mg R (bS hm fun H u hm=> .op (O.ix sl32 (Gu.mk R R) R R u R) R (.leg nag3 lv3 R (bS hm fun E p hm=> .op (O.ca0 (y8z p) cf209 R R (Gu.mk R R) R R R) R (.mg R (bS hm fun n eb19 hm=>?_))))));refine .cut 3 (fun (h:Bool)=>n=h) (fun h=>⟨[(51,.b h),(42,.b false),(35,.b true),(31,.i a)],[],0⟩) ?_ ?_
      ·rintro _ rfl;exact .op (O.pkF (Gu.mk R R) R R R R) R ((k n (oj hm)).sub [] R)
      ·intro l;rcases ifS eb19 with ⟨hc,hm⟩|⟨hc,hm⟩
       ·refine .know (d:=48) R hc ?_;exact .mg R (bS hm fun B q hm=> .op (O.ca0 (y8z q) cf209 R R (Gu.mk R R) R R R) R (.op (O.pkT (Gu.mk R R) R R R R) R ((l B (oj hm)).sub [] R)))
       ·refine .know (d:=48) R hc ?_;exact .sk R (.sk R (.op (O.pkF (Gu.mk R R) R R R R) R ((l false (oj hm)).sub [] R)))
   ·refine .know (d:=35) R hc ?_;exact .sk R (.sk R (.sk R (.sk R (.sk R (.sk R (.sk R (.su R (.su R (.su R (.su R (.su R (.su R (.su R (.su R (.su R (.sk R (.pF R ((j false (oj hm)).sub [] R))))))))))))))))))
 refine .iter (fun (c:Int×Int)=>⟨[(8,.i c.1),(7,.i c.2),(6,.i p0.length),(0,.f qI p0),(1,.i p1)],[],0⟩) x [] R ?_;intro c D hm o y;refine .seq (.sr (.mv R (.mv R (.bi R (.ns ?_)))));refine .cc hm R (fun hm=>?_) fun hm=> .exit (.seqX (.seqX ((K9 _ (y _ (oj hm))).sub [] R)));refine .skip (.seqN (.block (.sr (.mv R (.mv R (.bi R (.op (O.cv Tryz.underlying3 Tryz.underlying295 Z R R) R (.op (O.shr Z R R (by decide) R) R (.op (O.cv Tryz.underlying295 Tryz.underlying3 Z R R) R (.an R (.sr (.mv R (.mv R (bS hm fun I v hm=> .ix sl32 v R (.le nag3 lv3 R (.mv R (bS hm fun F s hm=> .c0 (ycU s) cf208 R (.ns ?_))))))))))))))))));exact .cc hm R (fun hm=> .reg (.mv R (.bi R (.sa R (.nil (.blkN ((o _ (oj hm)).sub [] R))))))) fun hm=> .reg (.mv R (.sa R (.nil (.blkN ((o _ (oj hm)).sub [] R)))))
def y1m(p0:List Int)(p1:Int):Option Bool:=
 (y6e p0 p1).bind fun a=>
 some a.2
theorem y3S{r:Bool}(hm:y1m p0 p1=some r):
  F0 94 [.f qI p0,.i p1] [] (.b r) []:=by
 refine Fw.mk2 Tryz.func94 Tryz.ntmps94 R (fun C=>?_) R;refine .sr (.an R (.sr (.mv R (.mv R (bS hm fun c a hm=> .c0 (y9r a) cf158 R (.mv R (.ex R (.ex R (.sa R (.an R (.sr (.mv R (.an R (.ret ?_))))))))))))));cases hm;exact .rr [] Tryz.results94 (.tmp R .nil) R I3 trivial
def y3n(p0:(List AutT)×List Int×(List (List KeyT)))(p1:List Int)(a:Int):Option (Int⊕(Unit⊕Unit)):=
 if decide (a<(p0.1.length:Int)) then
  (idx p0.1 a).bind fun c=>
  (idx p1 a).bind fun d=>
  (y1m c.2.2.1 d).bind fun b=>
  if(!b) then
   some (.inr (.inr (())))
  else
   some (.inl (W (a+1)))
 else
  some (.inr (.inl ()))
def yG(p0:(List AutT)×List Int×(List (List KeyT)))(p1:List Int):Option Bool:=
 (iter (y3n p0 p1) 0).bind fun a=>
 match a with
 | .inl b=>
  some true
 | .inr (c)=>
  some false
theorem y9B{p0:(List AutT)×List Int×(List (List KeyT))}{p1:List Int}{r:Bool}(hm:yG p0 p1=some r):
  F0 99 [.a [lF rE35 p0.1,lF qI p0.2.1,lF (rM kvP qI) p0.2.2],.f qI p1] [] (.b r) []:=by
 refine Fw.mk2 Tryz.func99 Tryz.ntmps99 R (fun C=>?_) R;refine .sr (.bo 0 R (.an R (.seq (.sr (.fa yce R (.lb nag66 R (.ln sl66 R (.mv R (.ns (.block (bS hm fun p n hm=>?_)))))))))));refine .cutU (z:= .exit 0) (fun k=> .inl k=p) (fun (k:Unit)=>⟨[],[],0⟩) ?_ fun K8=>?_
 ·rintro k rfl;dsimp only at hm;refine .blkE (.seqN (.sr (.an R (.ret ?_))));cases hm;exact .rr [] Tryz.results99 (.tmp R .nil) R I3 trivial
 refine .cutU (z:= .ret) (fun l=> .inr (l)=p) (fun (l:Unit)=>⟨[(4,.b false)],[],0⟩) ?_ fun m=>?_
 ·rintro l rfl;dsimp only at hm;refine .blkR (.seqR ?_);cases hm;exact .rr [] Tryz.results99 (.tmp R .nil) R I3 trivial
 refine .iter (fun (c:Int)=>⟨[(10,.i c),(9,.i p0.1.length),(8,.f rE35 p0.1),(1,.f qI p1)],[],0⟩) n [] R ?_;intro c t hm o d;refine .sr (.bi R (.ns (.seq ?_)));refine .cc hm R (fun hm=>?_) fun hm=> .exit (.seqX (.seqX ((K8 _ (d _ (oj hm))).sub [] R)));refine .skip (.seqN (.seq (.block (.sr (.mv R (bS hm fun e h hm=> .ix sl66 h R (.lg (lx35 e) ag35 R (.E lv35) R (.al 0 zz35 R (.sa R (.st ag35.sz R (.ns (.seq ?_))))))))))));refine .sub (τ:=⟨[(5,.i c),(6,.q 0 0),(10,.i c),(9,.i p0.1.length),(8,.f rE35 p0.1),(1,.f qI p1)],[(0,.bx 35 (lx35 e))],1⟩) ?_ [] R;refine bS hm fun u j hm=>bS hm fun s g hm=>?_;refine .drw [(1,[]),(1,[oT]),(1,[]),(1,[]),(1,[oF,oF,oT,oT]),(1,fA 2 (tT 3)),(1,tT 6),(1,tT 7)] [_,_,_,_,_,_,_,_] ⟨[(22,.b (!s)),(10,.i c),(9,.i p0.1.length),(8,.f rE35 p0.1),(1,.f qI p1)],[],1⟩ ⟨O.faP y7f Z R R,O.ld nag32 Z R (.B R) R R,O.mv Z R R,O.mv Z R R,O.ix sl32 Z R R j R,O.ld nag3 Z R (.E lv3) R R,O.ca0 (y3S g) cf94 R R Z R R R,O.not Z R R,trivial⟩ (by kernel_rfl) R ?_;exact .seqN (.cc hm R (fun hm=> .sr (.an R (.ret (.blkR (.seqR (.seqR ((m _ (d _ (oj hm))).sub [] R))))))) fun hm=> .skip (.blkN (.seqN (.reg (.bi R (.mv R (.nil ((o _ (oj hm)).sub [] R))))))))
def yT(p0:List Int):Option (List Int):=
 (app ([]:List Int) p0).bind fun a=>
 some a
theorem y4k{r:List Int}(hm:yT p0=some r):
  F0 103 [.f qI p0] [] (.h 0) [rwI r]:=by
 unfold yT at hm;refine Fw.mk2 Tryz.func103 Tryz.ntmps103 R (fun C=>?_) R;refine .sr (.an R (.seq (.sr (.mv R (.op (O.nil? Tryz.underlying32 Z R R R) R (.ns ?_))))));refine .cN R (fun hz=>?_) ?_
 ·subst hz;replace hm:some ([]:List Int)=some r:=by simpa [app,slc,slc3] using hm
  refine .sr (.an R (.ret (.seqR (.nlg qI 3 2 0 R R ?_))));cases hm;exact .rr [0] Tryz.results103 (.tmp R .nil) R I3 ⟨⟨_,R,I4⟩,trivial⟩
 ·skip
  refine .skip (.seqN (.sr (.op (O.b0O (r:=qI) 0 R bs32 R Z R) R (.mv R (bS hm fun b a hm=> .op (O.ap 1 Tryz.underlying32 el3 R R Z R R (.fr R) a R) R (.an R (.ret ?_)))))));cases hm;exact .rr [1] Tryz.results103 (.tmp R .nil) R I3 ⟨⟨_,R,I4⟩,trivial⟩
def yy(a:Int×List Int)(b:List Int):Option ((Int×List Int)⊕((List Int)⊕Unit)):=
 some (.inl (W (a.1+1),b))
def yn(p0:(List AutT)×List Int×(List (List KeyT)))(p1:List Int)(p2:Int)(a:Int×List Int):Option ((Int×List Int)⊕((List Int)⊕Unit)):=
 if decide (a.1<(p0.1.length:Int)) then
  (idx p0.1 a.1).bind fun e=>
  (y1m e.1 p2).bind fun d=>
  if(!d) then
   yy a a.2
  else
   (idx p0.2.2 a.1).bind fun b=>
   (idx p1 a.1).bind fun c=>
   if(!((kget b (c,p2)).isSome)) then
    some (.inr (.inr (())))
   else
    (idx a.2 a.1).bind fun g=>
    (upd a.2 a.1 ((kget b (c,p2)).getD 0)).bind fun f=>
    yy a f
 else
  some (.inr (.inl a.2))
def yU(p0:(List AutT)×List Int×(List (List KeyT)))(p1:List Int)(p2:Int):Option (List Int×Bool):=
 (yT p1).bind fun c=>
 (iter (yn p0 p1 p2) (0,c)).bind fun a=>
 match a with
 | .inl b=>
  some (b,true)
 | .inr (d)=>
  some (([]:List Int),false)
theorem ya7{p0:(List AutT)×List Int×(List (List KeyT))}{p1:List Int}{r:List Int×Bool}(hm:yU p0 p1 p2=some r):
  F0 100 [.a [lF rE35 p0.1,lF qI p0.2.1,lF (rM kvP qI) p0.2.2],.f qI p1,.i p2] [] (.tp [.h 0,.b r.2]) [rwI r.1]:=by
 refine Fw.mk2 Tryz.func100 Tryz.ntmps100 R (fun C=>?_) R;refine .sr (.bo 0 R (.sa R (.an R (.sr (.mv R (bS hm fun L J hm=> .op (O.ca (r':= .h 1) [1] [(0,rwI L)] (some 2) (y4k J) cf103 R R Z R R R R ⟨⟨_,R,I4⟩,trivial⟩ I3 R) R (.an R (.seq (.sr (.fa yce R (.lb nag66 R (.ln sl66 R (.mv R (.ns (.block (bS hm fun u v hm=>?_))))))))))))))));refine .cutU (z:= .exit 0) (fun g=> .inl g=u) (fun (g:List Int)=>⟨[(8,.h 0)],[(0,rwI g)],1⟩) ?_ fun H=>?_
 ·rintro g rfl;dsimp only at hm;refine .blkE (.seqN (.sr (.mv R (.sa R (.an R (.ret ?_))))));cases hm;exact .rr [0] Tryz.results100 (.tmp R (.tmp R .nil)) R I3 ⟨⟨_,R,I4⟩,trivial⟩
 refine .cutU (z:= .ret) (fun p=> .inr (p)=u) (fun (p:Unit)=>⟨[(7,.b false),(6,.o (lN))],[],0⟩) ?_ fun I=>?_
 ·rintro p rfl;dsimp only at hm;refine .blkR (.seqR (.nlg qI 3 6 0 R R ?_));cases hm;exact .rr [0] Tryz.results100 (.tmp R (.tmp R .nil)) R I3 ⟨⟨_,R,I4⟩,trivial⟩
 refine .iter (fun (c:Int×List Int)=>⟨[(18,.i c.1),(17,.i p0.1.length),(16,.f rE35 p0.1),(8,.h 0),(3,.q 1 0),(1,.f qI p1),(2,.i p2)],[(0,rwI c.2),(1,.bx 162 [lF rE35 p0.1,lF qI p0.2.1,lF (rM kvP qI) p0.2.2])],2⟩) v [(0,1),(1,0)] R ?_;intro c t hm G n;refine .sr (.bi R (.ns (.seq ?_)));refine .cc hm R (fun hm=>?_) fun hm=> .exit (.seqX (.seqX ((H _ (n _ (oj hm))).sub [] R)));refine .skip (.seqN ?_);refine .join1 (fun (e:List Int)=>yy c e=some t) (fun e=>⟨[(18,.i c.1),(17,.i p0.1.length),(16,.f rE35 p0.1),(8,.h 0),(3,.q 1 0),(1,.f qI p1),(2,.i p2)],[(0,rwI e),(1,.bx 162 [lF rE35 p0.1,lF qI p0.2.1,lF (rM kvP qI) p0.2.2])],2⟩) ?_ ?_
 ·intro e hm;exact .reg (.bi R (.mv R (.nil ((G _ (oj hm)).sub [] R))))
 ·intro j;refine .block (.sr (.mv R (bS hm fun K x hm=> .ix sl66 x R (.lg (lx35 K) ag35 R (.E lv35) R (.al 2 zz35 R (.sa R (.st ag35.sz R (.ns (.seq (.sr (.fa yz R (.lb nag32 R (.mv R (bS hm fun M w hm=> .c0 (y3S w) cf94 R (.no R (.ns ?_))))))))))))))));refine .cc hm R (fun hm=> .exit (.seqX (.blkE ((j _ hm).sub [] R)))) fun hm=>?_;refine .skip (.seqN (.seq ?_));refine .sub (τ:=⟨[(9,.i c.1),(18,.i c.1),(17,.i p0.1.length),(16,.f rE35 p0.1),(8,.h 0),(3,.q 1 0),(1,.f qI p1),(2,.i p2)],[(0,rwI c.2),(1,.bx 162 [lF rE35 p0.1,lF qI p0.2.1,lF (rM kvP qI) p0.2.2])],3⟩) ?_ [] R;refine bS hm fun s y hm=>bS hm fun d D hm=>?_;refine .drw [(3,[]),(3,[oT]),(3,[]),(3,tT 3),(3,tT 4),(3,[]),(3,[]),(3,[oF,oF,oF,oF,oF,oT,oT]),(3,fA 5 (tT 3)),(3,[]),(3,fA 5 (tT 5)),(3,tT 11),(3,tT 12),(3,tT 13),(3,tT 13),(3,tT 14),(3,tT 16)] [_,_,_,_,_,_,_,_,_,_,_,_,_,_,_,_,_] ⟨[(12,.b ((kget s (d,p2)).isSome)),(11,.i ((kget s (d,p2)).getD 0)),(9,.i c.1),(18,.i c.1),(17,.i p0.1.length),(16,.f rE35 p0.1),(8,.h 0),(3,.q 1 0),(1,.f qI p1),(2,.i p2)],[(0,rwI c.2),(1,.bx 162 [lF rE35 p0.1,lF qI p0.2.1,lF (rM kvP qI) p0.2.2])],3⟩ ⟨O.faP ydI Z R R,O.ld yeZ Z R (.B R) R R,O.mv Z R R,O.ix sl160 Z R R y R,O.ld ybT Z R (.E lv139) R R,O.mv Z R R,O.mv Z R R,O.ix sl32 Z R R D R,O.ld nag3 Z R (.E lv3) R R,O.mv Z R R,O.bu (l:=[lI d,lI p2]) pl241 R Z R R R,O.mi2 (k:=(d,p2)) md139 Z (.fr R) (.a R R) R,O.mv Z R R,O.ex Z R R R,O.ex Z R R R,O.as Z R R,O.as Z R R,trivial⟩ (by kernel_rfl) R ?_;refine .seqN (.seq (.sr (.mv R (.no R (.ns ?_)))));exact .cc hm R (fun hm=> .sr (.sa R (.an R (.ret (.seqR (.blkR (.seqR (.seqR ((I _ (n _ (oj hm))).sub [] R))))))))) fun hm=> .skip (.seqN (.reg (.mv R (.mv R (.mv R (bS hm fun N m hm=> .op (O.ir sl32 Z R R R m R) R (bS hm fun P F hm=> .op (O.su (z:=((kget s (d,p2)).getD 0)) nag3.sz Z R R m F R R R lv3 R .k) R (.nil (.blkN ((j _ hm).sub [] R))))))))))
def y2S(d:Int×(List (ByteArray×Int))×List (List Int)×EdgL)(a:List (ByteArray×Int))(b:List (List Int))(c:List (Int×Int×Int)):Option ((Int×(List (ByteArray×Int))×List (List Int)×EdgL)⊕(((List (ByteArray×Int))×List (List Int)×EdgL)⊕Unit)):=
 some (.inl (W (d.1+1),a,b,c))
def y2T(e:Int×(List (ByteArray×Int))×List (List Int)×List Int×EdgL)(a:Int×(List (ByteArray×Int))×List (List Int)×EdgL)(f:Int)(b:List (List Int))(d:Int)(c:List (ByteArray×Int)):Option ((Int×(List (ByteArray×Int))×List (List Int)×EdgL)⊕(((List (ByteArray×Int))×List (List Int)×EdgL)⊕Unit)):=
 (app a.2.2.2 ([(e.1,f,d)]:List (Int×Int×Int))).bind fun g=>
 y2S a c b g
def y2U(g:((List AutT)×List Int×(List (List KeyT))))(c:Int×(List (ByteArray×Int))×List (List Int)×List Int×EdgL)(a:Int×(List (ByteArray×Int))×List (List Int)×EdgL):Option ((Int×(List (ByteArray×Int))×List (List Int)×EdgL)⊕(((List (ByteArray×Int))×List (List Int)×EdgL)⊕Unit)):=
 if decide (a.1<(g.2.1.length:Int)) then
  (idx g.2.1 a.1).bind fun d=>
  (idx a.2.2.1 c.1).bind fun h=>
  (yU g h d).bind fun b=>
  if(!b.2) then
   y2S a a.2.1 a.2.2.1 a.2.2.2
  else
   (y4H b.1).bind fun e=>
   if(!((kget a.2.1 e).isSome)) then
    if((a.2.2.1.length:Int)==4096) then
     some (.inr (.inr (())))
    else
     (y4H b.1).bind fun f=>
     (app a.2.2.1 ([b.1]:List (List Int))).bind fun i=>
     y2T c a d i (a.2.2.1.length:Int) (kput a.2.1 f (a.2.2.1.length:Int))
   else
    y2T c a d a.2.2.1 ((kget a.2.1 e).getD 0) a.2.1
 else
  some (.inr (.inl a.2))
def y2V(e:((List AutT)×List Int×(List (List KeyT))))(a:Int×(List (ByteArray×Int))×List (List Int)×List Int×EdgL)(c:List Int):Option ((Int×(List (ByteArray×Int))×List (List Int)×List Int×EdgL)⊕((List (List Int)×List Int×EdgL)⊕Unit)):=
 (iter (y2U e a) (0,a.2.1,a.2.2.1,a.2.2.2.2)).bind fun d=>
 match d with
 | .inl b=>
  some (.inl (W (a.1+1),b.1,b.2.1,c,b.2.2))
 | .inr (f)=>
  some (.inr (.inr (())))
def y2W(c:((List AutT)×List Int×(List (List KeyT))))(a:Int×(List (ByteArray×Int))×List (List Int)×List Int×EdgL):Option ((Int×(List (ByteArray×Int))×List (List Int)×List Int×EdgL)⊕((List (List Int)×List Int×EdgL)⊕Unit)):=
 if decide (a.1<(a.2.2.1.length:Int)) then
  (idx a.2.2.1 a.1).bind fun d=>
  (yG c d).bind fun b=>
  if b then
   (app a.2.2.2.1 ([a.1]:List Int)).bind fun e=>
   y2V c a e
  else
   y2V c a a.2.2.2.1
 else
  some (.inr (.inl a.2.2))
def yo(p0:List AutT):Option (AutT×List (List Int)×Int):=
 (y5C p0).bind fun e=>
 if(e != 0) then
  some ((([]:List Int),0,([]:List Int),([]:List (Int×Int×Int))),([]:List (List Int)),e)
 else
  (y5c p0).bind fun b=>
  (yx b).bind fun c=>
  if(!c.2) then
   some ((b.2.1,0,([]:List Int),([]:List (Int×Int×Int))),([]:List (List Int)),0)
  else
   (y4H c.1).bind fun f=>
   (iter (y2W b) (0,(kput ([]:List (ByteArray×Int)) f 0),([c.1]:List (List Int)),([]:List Int),([]:List (Int×Int×Int)))).bind fun d=>
   match d with
   | .inl a=>
    some ((b.2.1,(a.1.length:Int),a.2),a.1,0)
   | .inr (g)=>
    some ((([]:List Int),0,([]:List Int),([]:List (Int×Int×Int))),([]:List (List Int)),3)
theorem y6H{p0:List AutT}{r:AutT×List (List Int)×Int}(hm:yo p0=some r):
    F0 32 [.f rE35 p0] [] (.tp [.a [lH 0,lI r.1.2.1,lH 1,lH 2],.h 3,.i r.2.2]) [rwI r.1.1,rwI r.1.2.2.1,ROW qT 124 r.1.2.2.2,ROW (rL qI) 32 r.2.1]:=by
  refine Fw.mk2 Tryz.func32 Tryz.ntmps32 R (fun C=>?_) R;refine .sr (.al 0 zz35 R (.sa R (.an R (.seq (.sr (.mv R (bS hm fun r1 b6 hm=> .c0 (yct b6) cf95 R (.an R (.sr (.mv R (.bi R (.ns ?_))))))))))));refine .cc hm R (fun hm=>?_) fun hm=>?_
  ·refine .sr (.bu [lN,lI 0,lN,lN] pl35 R (.mv R (.st ag35.sz R (.sa R (.an R (.ret (.seqR (.nlb qI 3 0 0 R R (.nlb qI 3 0 2 R R (.nlb qT 124 0 3 R R (.nlg (rL qI) 32 3 0 R R ?_)))))))))));cases hm;exact .rr [1,2,3,4] Tryz.results32 (.cell R R ag35 R (.tmp R (.tmp R .nil))) R I3 ⟨⟨_,R,I4⟩,⟨_,R,I4⟩,⟨_,R,I4⟩,⟨_,R,I4⟩,trivial⟩
  ·refine .skip (.seqN (.sr (.mv R (bS hm fun e b7 hm=> .op (O.ca (r':= .g [lF rE35 e.1,lH 1,lH 2]) [1,2] [(0,rwI e.2.1),(1,ROW (rM kvP qI) 139 e.2.2)] (some 3) (ycT b7) cf96 R R Z R R R R ⟨⟨_,R,I4⟩,⟨_,R,I4⟩,trivial⟩ I3 R) R (.al 3 zz162 R (.st ag162.sz R (.nr (.fa yfJ R (.lb nag32 R (.fa yz R (.st nag32.sz R (.nr (.lg [lF rE35 e.1,lH 1,lH 2] ag162 R (.B R) R (bS hm fun r3 b8 hm=> .op (O.caY (r':= .tp [.h 4,.b r3.2]) [4] [(0,rwI r3.1)] (some 5) (y9q b8) cf97 R R Z R R ⟨⟨R,.rf,.hr R,.hr R,trivial⟩,trivial⟩ R ⟨.row flr3,trivial⟩ (fun _ _ _ _ h=>h) ⟨⟨_,R,I4⟩,trivial⟩ I3 R) R (.mv R (.ex R (.ex R (.sa R (.an R (.seq (.sr (.mv R (.no R (.ns ?_))))))))))))))))))))))));refine .cc hm R (fun hm=>?_) fun hm=>?_
   ·refine .sr (.lg [lH 1,lI 0,lN,lN] ag35 R (.B R) R (.st ag35.sz R (.sa R (.an R (.ret (.seqR (.nlb qI 3 0 2 R R (.nlb qT 124 0 3 R R (.nlg (rL qI) 32 3 0 R R ?_)))))))));cases hm;exact .rr [1,5,6,7] Tryz.results32 (.cell R R ag35 R (.tmp R (.tmp R .nil))) R I3 ⟨⟨_,R,I4⟩,⟨_,R,I4⟩,⟨_,R,I4⟩,⟨_,R,I4⟩,trivial⟩
   ·refine .skip (.seqN (.sr (.mv R (.fz 4 [36,7] [] R R fR R R (.op (O.bsO (r:=(rL qI)) (zs:=([r3.1]:List (List Int))) 5 R bs53 R R Z R R R (.c .l .n) R R R) R (.an R (.sr (.op (O.mk2 (kv:=kvS) (r:=qI) 6 R Z R) R (.mv R (bS hm fun r4 b9 hm=> .c0 (y8x b9) cf98 R (.op (O.ins (k:=r4) (v:=0) md167 (fun _ _=>eqS) Z R R (.o R) R .k) R (.mv R (.an R (.seq (.sr (.an R (.block (bS hm fun a3 a7 hm=>?_))))))))))))))))));refine .cutU (z:= .exit 0) (fun x=> .inl x=a3) (fun (x:List (List Int)×List Int×EdgL)=>⟨[(3,.h 0),(2,.q 1 0)],[(0,ROW (rL qI) 32 x.1),(1,.bx 35 [lH 2,lI 0,lH 3,lH 4]),(2,rwI e.2.1),(3,rwI x.2.1),(4,ROW qT 124 x.2.2)],5⟩) ?_ fun b4=>?_
    · rintro x rfl;dsimp only at hm;refine .blkE (.seqN (.sr (.mv R (.lh sl53 R (.fa y1W R (.st nag3.sz R (.nr (.lg [lH 2,lI x.1.length,lH 3,lH 4] ag35 R (.B R) R (.mv R (.st ag35.sz R (.sa R (.an R (.ret ?_)))))))))))));cases hm;exact .rr [2,3,4,0] Tryz.results32 (.cell R R ag35 R (.tmp R (.tmp R .nil))) R I3 ⟨⟨_,R,I4⟩,⟨_,R,I4⟩,⟨_,R,I4⟩,⟨_,R,I4⟩,trivial⟩
    refine .cutU (z:= .ret) (fun T=> .inr (T)=a3) (fun (T:Unit)=>⟨[(4,.i 3),(3,.o (lN)),(2,.q 0 0)],[(0,.bx 35 [lN,lI 0,lN,lN])],1⟩) ?_ fun b5=>?_
    · rintro T rfl;dsimp only at hm;refine .blkR (.seqR (.nlb qI 3 0 0 R R (.nlb qI 3 0 2 R R (.nlb qT 124 0 3 R R (.nlg (rL qI) 32 3 0 R R ?_)))));cases hm;exact .rr [1,2,3,4] Tryz.results32 (.cell R R ag35 R (.tmp R (.tmp R .nil))) R I3 ⟨⟨_,R,I4⟩,⟨_,R,I4⟩,⟨_,R,I4⟩,⟨_,R,I4⟩,trivial⟩
    refine .nlb qI 3 0 2 R R (.nlb qT 124 0 3 R R (.iter (fun (d:Int×(List (ByteArray×Int))×List (List Int)×List Int×EdgL)=>⟨[(10,.i d.1),(9,.h 0),(3,.h 1),(6,.q 2 0),(2,.q 5 0)],[(0,MAP kvS qI 167 d.2.1),(1,ROW (rL qI) 32 d.2.2.1),(2,.bx 162 [lF rE35 e.1,lH 3,lH 4]),(3,rwI e.2.1),(4,ROW (rM kvP qI) 139 e.2.2),(5,.bx 35 [lH 3,lI 0,lH 6,lH 7]),(6,rwI d.2.2.2.1),(7,ROW qT 124 d.2.2.2.2)],8⟩) a7 [(0,6),(1,5),(2,3),(3,1),(4,2),(5,0),(6,7),(7,8)] R ?_));intro d a2 hm a9 Q;refine .seq (.sr (.mv R (.mv R (.lh sl53 R (.bi R (.ns ?_))))));refine .cc hm R (fun hm=>?_) fun hm=> .exit (.seqX (.seqX ((b4 _ (Q _ (oj hm))).sub [(0,1),(1,5),(2,3),(3,6),(4,7)] R)));refine .skip (.seqN (.seq (.block ?_)));refine .join1 (fun (m:List Int)=>y2V e d m=some a2) (fun m=>⟨[(10,.i d.1),(9,.h 0),(3,.h 1),(6,.q 2 0),(2,.q 5 0)],[(0,MAP kvS qI 167 d.2.1),(1,ROW (rL qI) 32 d.2.2.1),(2,.bx 162 [lF rE35 e.1,lH 3,lH 4]),(3,rwI e.2.1),(4,ROW (rM kvP qI) 139 e.2.2),(5,.bx 35 [lH 3,lI 0,lH 6,lH 7]),(6,rwI m),(7,ROW qT 124 d.2.2.2.2)],8⟩) ?_ ?_
    · intro m hm;refine .sr (.fa yfJ R (.lb nag32 R (.lh sl32 R (.mv R (.ns (.block (bS hm fun a4 a8 hm=>?_)))))));refine .cutU (z:= .exit 2) (fun t=> .inl t=a4) (fun (t:(List (ByteArray×Int))×List (List Int)×EdgL)=>⟨[(10,.i d.1),(9,.h 0),(3,.h 1),(6,.q 2 0),(2,.q 5 0)],[(0,MAP kvS qI 167 t.1),(1,ROW (rL qI) 32 t.2.1),(2,.bx 162 [lF rE35 e.1,lH 3,lH 4]),(3,rwI e.2.1),(4,ROW (rM kvP qI) 139 e.2.2),(5,.bx 35 [lH 3,lI 0,lH 6,lH 7]),(6,rwI m),(7,ROW qT 124 t.2.2)],8⟩) ?_ fun a5=>?_
      · rintro t rfl;dsimp only at hm;exact .blkE (.blkN (.seqN (.reg (.mv R (.bi R (.sa R (.nil ((a9 _ (oj hm)).sub [] R))))))))
      refine .cutU (z:= .ret) (fun H=> .inr (H)=a4) (fun (H:Unit)=>⟨[(4,.i 3),(3,.o (lN)),(2,.q 0 0)],[(0,.bx 35 [lN,lI 0,lN,lN])],1⟩) ?_ fun a6=>?_
      · rintro H rfl;dsimp only at hm;exact .blkR (.blkR (.seqR (.seqR ((b5 _ (Q _ (oj hm))).sub [] R))))
      refine .iter (fun (j:Int×(List (ByteArray×Int))×List (List Int)×EdgL)=>⟨[(63,.i j.1),(62,.i e.2.1.length),(61,.h 0),(10,.i d.1),(9,.h 1),(3,.h 2),(6,.q 3 0),(2,.q 5 0)],[(0,rwI e.2.1),(1,MAP kvS qI 167 j.2.1),(2,ROW (rL qI) 32 j.2.2.1),(3,.bx 162 [lF rE35 e.1,lH 0,lH 4]),(4,ROW (rM kvP qI) 139 e.2.2),(5,.bx 35 [lH 0,lI 0,lH 6,lH 7]),(6,rwI m),(7,ROW qT 124 j.2.2.2)],8⟩) a8 [(0,3),(1,0),(2,1),(3,2)] R ?_;intro j N hm b0 S;refine .sr (.bi R (.ns (.seq ?_)));refine .cc hm R (fun hm=>?_) fun hm=> .exit (.seqX (.seqX ((a5 _ (S _ (oj hm))).sub [(0,1),(1,2),(2,3),(3,0)] R)));refine .skip (.seqN ?_);refine .join3 (fun (y:List (ByteArray×Int)) (D:List (List Int)) (E:List (Int×Int×Int))=>y2S j y D E=some N) (fun y D E=>⟨[(63,.i j.1),(62,.i e.2.1.length),(61,.h 0),(10,.i d.1),(9,.h 1),(3,.h 2),(6,.q 3 0),(2,.q 5 0)],[(0,rwI e.2.1),(1,MAP kvS qI 167 y),(2,ROW (rL qI) 32 D),(3,.bx 162 [lF rE35 e.1,lH 0,lH 4]),(4,ROW (rM kvP qI) 139 e.2.2),(5,.bx 35 [lH 0,lI 0,lH 6,lH 7]),(6,rwI m),(7,ROW qT 124 E)],8⟩) ?_ ?_
      · intro y D E hm;exact .reg (.bi R (.mv R (.nil ((b0 _ (oj hm)).sub [] R))))
      · intro I;refine .block (.sr (bS hm fun u K hm=> .op (O.ir sl32 Z R R R K R) R (.op (O.ld nag3 Z R (.R R K lv3) R R) R (.an R (.seq ?_)))));refine .sub (τ:=⟨[(12,.i u),(63,.i j.1),(62,.i e.2.1.length),(61,.h 0),(10,.i d.1),(9,.h 1),(3,.h 2),(6,.q 3 0),(2,.q 5 0)],[(0,rwI e.2.1),(1,MAP kvS qI 167 j.2.1),(2,ROW (rL qI) 32 j.2.2.1),(3,.bx 162 [lF rE35 e.1,lH 0,lH 4]),(4,ROW (rM kvP qI) 139 e.2.2),(5,.bx 35 [lH 0,lI 0,lH 6,lH 7]),(6,rwI m),(7,ROW qT 124 j.2.2.2)],8⟩) ?_ [] R;refine bS hm fun c1 L hm=>bS hm fun w U hm=>?_;refine .drw [(8,[]),(8,[]),(8,[]),(8,[oF,oT,oT]),(8,fA 1 (tT 3)),(8,[]),(8,tT 6),(9,tT 7),(9,tT 8),(9,tT 8),(9,tT 9),(9,tT 11)] [_,_,_,_,_,_,_,_,_,_,_,_] ⟨[(14,.b w.2),(13,.h 8),(12,.i u),(63,.i j.1),(62,.i e.2.1.length),(61,.h 0),(10,.i d.1),(9,.h 1),(3,.h 2),(6,.q 3 0),(2,.q 5 0)],[(8,rwI w.1),(0,rwI e.2.1),(1,MAP kvS qI 167 j.2.1),(2,ROW (rL qI) 32 j.2.2.1),(3,.bx 162 [lF rE35 e.1,lH 0,lH 4]),(4,ROW (rM kvP qI) 139 e.2.2),(5,.bx 35 [lH 0,lI 0,lH 6,lH 7]),(6,rwI m),(7,ROW qT 124 j.2.2.2)],9⟩ ⟨O.lg (l':=[lF rE35 e.1,lH 0,lH 4]) ag162 Z R (.B R) R R R,O.mv Z R R,O.mv Z R R,O.ir sl53 Z R R R L R,O.ld nag32 Z R (.R R L lv32) R R,O.mv Z R R,O.caY (r':= .tp [.h 8,.b w.2]) [8] [(0,rwI w.1)] (some 9) (ya7 U) cf100 R R Z R R ⟨⟨R,.rf,.hr R,.hr R,trivial⟩,⟨R,LnL.rf⟩,⟨R,LnL.rf⟩,trivial⟩ R ⟨.row flr3,trivial⟩ (fun _ _ _ _ h=>h) ⟨⟨_,R,I4⟩,trivial⟩ I3 R,O.mv Z R R,O.ex Z R R R,O.ex Z R R R,O.as Z R R,O.as Z R R,trivial⟩ (by kernel_rfl) R ?_;refine .seqN (.seq (.sr (.mv R (.no R (.ns ?_)))));refine .cc hm R (fun hm=> .exit (.seqX (.blkE ((I _ _ _ hm).sub [] R)))) fun hm=>?_;refine .skip (.seqN (.sr (.mv R (.mv R (bS hm fun b1 V hm=> .op (O.caZ (y8x V) cf98 R R Z R ⟨⟨R,.hr R,trivial⟩,trivial⟩ (fun _ _ _ _ _ h=>h) R) R (.op (O.mi2 (k:=b1) md167 Z (.ow R R) (.o R) R) R (.mv R (.ex R (.ex R (.sa R (.an R ?_)))))))))));refine .join3 (fun (F:List (List Int)) (s:Int) (G:List (ByteArray×Int))=>y2T d j u F s G=some N) (fun F s G=>⟨[(3,.h 0),(15,.i s),(12,.i u),(63,.i j.1),(62,.i e.2.1.length),(61,.h 1),(10,.i d.1),(9,.h 2),(6,.q 3 0),(2,.q 5 0)],[(0,ROW (rL qI) 32 F),(1,rwI e.2.1),(2,MAP kvS qI 167 G),(3,.bx 162 [lF rE35 e.1,lH 1,lH 4]),(4,ROW (rM kvP qI) 139 e.2.2),(5,.bx 35 [lH 1,lI 0,lH 6,lH 7]),(6,rwI m),(7,ROW qT 124 j.2.2.2)],8⟩) ?_ ?_
        · intro F s G hm;exact .reg (.fa yB R (.lb nag33 R (.mv R (.mv R (.mv R (.bu [lI d.1,lI u,lI s] pl124 R (.bf (r:=qT) ([(d.1,u,s)]:List (Int×Int×Int)) bs33 R (.c (.p .k (.p .k .k)) .n) R (bS hm fun c2 Y hm=> .op (O.ap 8 Tryz.underlying33 el124 R R Z R R (.fr R) Y R) R (.fa yB R (.st nag33.sz R (.nil (.blkN ((I _ _ _ hm).sub [(0,1),(1,2),(2,0),(7,8)] R)))))))))))))
        · intro J;refine .sr (.mv R (.no R (.ns ?_)));refine .cc hm R (fun hm=>?_) fun hm=> .skip ((J _ _ _ hm).sub [(0,2),(1,0),(2,1)] R);refine .seq (.sr (.mv R (.lh sl53 R (.bi R (.ns ?_)))));exact .cc hm R (fun hm=> .sr (.bu [lN,lI 0,lN,lN] pl35 R (.st ag35.sz R (.sa R (.an R (.ret (.seqR (.seqR (.blkR (.seqR (.seqR ((a6 _ (S _ (oj hm))).sub [(0,5)] R)))))))))))) fun hm=> .skip (.seqN (.sr (.mv R (.lh sl53 R (.an R (.sr (.mv R (.mv R (bS hm fun b2 W hm=> .op (O.caZ (y8x W) cf98 R R Z R ⟨⟨R,.hr R,trivial⟩,trivial⟩ (fun _ _ _ _ _ h=>h) R) R (.mv R (.op (O.mu (k:=b2) (v:=(j.2.2.1.length:Int)) md167 (fun _ _=>eqS) Z R R (.o R) R .k) R (.ns (.reg (.mv R (.mv R (.fz 8 [99] [] R R fR R R (.op (O.bsF (r:=(rL qI)) (zs:=([w.1]:List (List Int))) bs53 R R Z R R R (.c .l .n) R R R) R (bS hm fun c3 a0 hm=> .op (O.ap 9 Tryz.underlying53 el32 R R Z R R (.fr R) a0 R) R (.sa R (.nil ((J _ _ _ hm).sub [(0,9),(1,0),(2,1)] R)))))))))))))))))))))
    · intro P;refine .seq ?_;refine .sub (τ:=⟨[(10,.i d.1),(9,.h 0),(3,.h 1),(6,.q 2 0),(2,.q 5 0)],[(0,MAP kvS qI 167 d.2.1),(1,ROW (rL qI) 32 d.2.2.1),(2,.bx 162 [lF rE35 e.1,lH 3,lH 4]),(3,rwI e.2.1),(4,ROW (rM kvP qI) 139 e.2.2),(5,.bx 35 [lH 3,lI 0,lH 6,lH 7]),(6,rwI d.2.2.2.1),(7,ROW qT 124 d.2.2.2.2)],8⟩) ?_ [] R;refine bS hm fun c4 M hm=>bS hm fun b3 X hm=>?_;refine .drw [(8,[]),(8,[]),(8,[]),(8,[oF,oT,oT]),(8,fA 1 (tT 3)),(8,tT 5)] [_,_,_,_,_,_] ⟨[(53,.b b3),(10,.i d.1),(9,.h 0),(3,.h 1),(6,.q 2 0),(2,.q 5 0)],[(0,MAP kvS qI 167 d.2.1),(1,ROW (rL qI) 32 d.2.2.1),(2,.bx 162 [lF rE35 e.1,lH 3,lH 4]),(3,rwI e.2.1),(4,ROW (rM kvP qI) 139 e.2.2),(5,.bx 35 [lH 3,lI 0,lH 6,lH 7]),(6,rwI d.2.2.2.1),(7,ROW qT 124 d.2.2.2.2)],8⟩ ⟨O.lg (l':=[lF rE35 e.1,lH 3,lH 4]) ag162 Z R (.B R) R R R,O.mv Z R R,O.mv Z R R,O.ir sl53 Z R R R M R,O.ld nag32 Z R (.R R M lv32) R R,O.caZ (y9B X) cf99 R R Z R ⟨⟨R,.rf,.hr R,.hr R,trivial⟩,⟨R,LnL.rf⟩,trivial⟩ (fun _ _ _ _ _ h=>h) R,trivial⟩ (by kernel_rfl) R ?_;exact .seqN (.cc hm R (fun hm=> .reg (.fa y7f R (.lb nag32 R (.mv R (.bf (r:=qI) ([d.1]:List Int) bs32 R (.c .k .n) R (bS hm fun c5 a1 hm=> .op (O.ap 8 Tryz.underlying32 el3 R R Z R R (.fr R) a1 R) R (.fa y7f R (.st nag32.sz R (.nil ((P _ hm).sub [(6,8)] R)))))))))) fun hm=> .skip ((P _ hm).sub [] R))
def y6U(p0:Bool)(p1:Bool):Option Bool:=
 some (p0&&p1)
theorem ya8{p0:Bool}{p1:Bool}{r:Bool}(hm:y6U p0 p1=some r):
  F0 196 [.b p0,.b p1] [] (.b r) []:=by
 refine Fw.mk2 Tryz.func196 Tryz.ntmps196 R (fun C=>?_) R;refine .sr (.an R (.sr (.mv R (.mv R ?_))));refine .cut 2 (fun (a:Bool)=>(p0&&p1)=a) (fun a=>⟨[(8,.b a)],[],0⟩) ?_ ?_
 ·rintro _ rfl;refine .an R (.ret ?_);cases hm;exact .rr [] Tryz.results196 (.tmp R .nil) R I3 trivial
 ·intro c;rcases yEt p0 with hc|hc
  ·refine .know (d:=6) R hc ?_;exact .mg R (.pT R ((c p1 (andT hc).symm).sub [] R))
  ·refine .know (d:=6) R hc ?_;exact .sk R (.pF R ((c false (andF hc).symm).sub [] R))
def y3d(p0:List Int)(p1:List Int):Option (List Int):=
 (y2R p0 p1 y6U).bind fun a=>
 some a
theorem y6V{p1:List Int}{r:List Int}(hm:y3d p0 p1=some r):
  F0 145 [.f qI p0,.f qI p1] [] (.h 0) [rwI r]:=by
 refine Fw.mk2 Tryz.func145 Tryz.ntmps145 R (fun C=>?_) R;refine .sr (.an R (.sr (.mv R (.mv R (bS hm fun b a hm=> .op (O.cac (r':= .h 0) [0] [(0,rwI b)] (some 1) (y7M a) cf75 R R Z R R ⟨⟨R,.rf⟩,⟨R,.rf⟩,⟨R,(.c (.fn cf196 (fun x r h=>ya8 h) (fun _=>R)) .n)⟩,trivial⟩ R ⟨⟨_,R,I4⟩,trivial⟩ I3 R) R (.an R (.ret ?_)))))));cases hm;exact .rr [0] Tryz.results145 (.tmp R .nil) R I3 ⟨⟨_,R,I4⟩,trivial⟩
def y7D(p0:AutT)(a:Int×(List KeyT)):Option ((Int×(List KeyT))⊕(List KeyT)):=
 if decide (a.1<(p0.2.2.2.length:Int)) then
  (idx p0.2.2.2 a.1).bind fun b=>
  some (.inl (W (a.1+1),(kput a.2 (b.1,b.2.1) b.2.2)))
 else
  some (.inr a.2)
def y6q(p0:AutT):Option (AutT×(List KeyT)):=
 (iter (y7D p0) (0,([]:List KeyT))).bind fun a=>
 some (p0,a)
theorem y8S{p0:AutT}{r:(AutT×(List KeyT))}(hm:y6q p0=some r):
  F0 151 [.a (lx35 p0)] [] (.g (lx141 r)) []:=by
 refine Fw.mk2 Tryz.func151 Tryz.ntmps151 R (fun C=>?_) R;refine .sr (.bo 0 R (.al 1 zz141 R (.nr (.lg (lx35 p0) ag35 R (.B R) R (.op (O.mk2 (kv:=kvP) (r:=qI) 2 R Z R) R (.bu [lF qI p0.1,lI p0.2.1,lF qI p0.2.2.1,lF qT p0.2.2.2,lH 2] pl141 R (.al 3 zz141 R (.st ag141.sz R (.ns (.seq (.sr (.fa yB R (.lb nag33 R (.ln sl33 R (.mv R (.ns (.block (bS hm fun d e hm=>?_))))))))))))))))));refine .cut1 (z:= .exit 0) d (fun (d:(List KeyT))=>⟨[(3,.q 0 0),(2,.q 2 0)],[(0,.bx 141 [lF qI p0.1,lI p0.2.1,lF qI p0.2.2.1,lF qT p0.2.2.2,lH 1]),(1,MAP kvP qI 139 d),(2,.bx 141 [lN,lI 0,lN,lN,lV (.map none)])],3⟩) ?_ fun K8=>?_
 ·skip
  refine .blkE (.seqN (.sr (.lg [lF qI p0.1,lI p0.2.1,lF qI p0.2.2.1,lF qT p0.2.2.2,lH 1] ag141 R (.B R) R (.st ag141.sz R (.ns (.ret (.fz 1 [] [0,2] R R fM R R ?_)))))));cases hm;exact .rr [] Tryz.results151 (.cell R R ag141 R .nil) R I3 trivial
 refine .iter (fun (c:Int×(List KeyT))=>⟨[(12,.i c.1),(11,.i p0.2.2.2.length),(10,.f qT p0.2.2.2),(3,.q 0 0),(2,.q 2 0)],[(0,.bx 141 [lF qI p0.1,lI p0.2.1,lF qI p0.2.2.1,lF qT p0.2.2.2,lH 1]),(1,MAP kvP qI 139 c.2),(2,.bx 141 [lN,lI 0,lN,lN,lV (.map none)])],3⟩) e [(0,3),(1,2),(2,1)] R ?_;intro c m hm l j;refine .sr (.bi R (.ns (.seq ?_)));exact .cc hm R (fun hm=> .skip (.seqN (.seq (.block (.sr (bS hm fun b h hm=> .ix sl33 h R (.lg [lI b.1,lI b.2.1,lI b.2.2] ag124 R (.E lv124) R (.al 3 zz124 R (.st ag124.sz R (.ns (.reg (.fa yfK R (.lb ybT R (.fa y1A R (.lb nag3 R (.fa y2I R (.lb nag3 R (.bu [lI b.1,lI b.2.1] pl241 R (.fa y2J R (.lb nag3 R (.op (O.mu (k:=(b.1,b.2.1)) (v:=b.2.2) md139 (fun _ _=>eqP) Z R R (.a R R) R .k) R (.nil (.blkN (.seqN (.reg (.bi R (.mv R (.nil ((l _ (oj hm)).sub [] R))))))))))))))))))))))))))))) fun hm=> .exit (.seqX (.seqX ((K8 _ (j _ (oj hm))).sub [] R)))
def y7g(p0:PbT)(a:Int):Option (Int⊕(Unit⊕Int)):=
 if decide (a<(([p0.1,p0.2.1]:List AutT).length:Int)) then
  (idx ([p0.1,p0.2.1]:List AutT) a).bind fun c=>
  (y1p c).bind fun b=>
  if(b != 0) then
   some (.inr (.inr (b)))
  else
   some (.inl (W (a+1)))
 else
  some (.inr (.inl ()))
def y5j(p0:PbT):Option ((Option TskT)×Int):=
 (iter (y7g p0) 0).bind fun i=>
 match i with
 | .inl k=>
  (yA p0.2.1.1 p0.1.1).bind fun j=>
  if(!j) then
   some (none,9)
  else
   (y1l p0.2.2 32).bind fun b=>
   if(b != 0) then
    some (none,b)
   else
    (yo ([p0.1,p0.2.1]:List AutT)).bind fun a=>
    if(a.2.2 != 0) then
     some (none,a.2.2)
    else
     (y3d p0.1.1 p0.2.2).bind fun c=>
     (y6q p0.1).bind fun d=>
     (y6q p0.2.1).bind fun e=>
     (y6q a.1).bind fun f=>
     (y3N p0.1.1 c).bind fun g=>
     some ((some (d,e,f,a.2.1,c,g)),0)
 | .inr (h)=>
  some (none,h)
theorem y9C{p0:PbT}{r:(Option TskT)×Int}(hm:y5j p0=some r):
    F0 85 [.a (lx37 p0)] [] (.tp [.o (lK rE155 155 r.1),.i r.2]) []:=by
  refine Fw.mk2 Tryz.func85 Tryz.ntmps85 R (fun C=>?_) R;refine .sr (.bo 0 R (.sa R (.an R (.seq (.sr (.fa y3Q R (.lg (lx35 p0.1) ag35 R (.B R) R (.fa y5Z R (.lg (lx35 p0.2.1) ag35 R (.B R) R (.op (O.bsF (r:=rE35) (zs:=([p0.1,p0.2.1]:List AutT)) bs66 R R Z R R R (.c (.p .l (.p .k (.p .l .l))) (.c (.p .l (.p .k (.p .l .l))) .n)) R R R) R (.ln sl66 R (.mv R (.ns (.block (bS hm fun S N hm=>?_)))))))))))))));refine .cutU (z:= .exit 0) (fun L=> .inl L=S) (fun (L:Unit)=>⟨[(1,.q 0 0)],[(0,.bx 37 (lx37 p0))],1⟩) ?_ fun K8=>?_
  · rintro L rfl;dsimp only at hm;refine .blkE (.seqN (.seq (.sr (.fa y5Z R (.fa yz R (.lb nag32 R (.fa y3Q R (.fa yz R (.lb nag32 R (bS hm fun X P hm=> .c0 (y6y P) cf26 R (.no R (.ns ?_))))))))))));refine .cc hm R (fun hm=>?_) fun hm=>?_
    ·refine .sr (.sa R (.an R (.ret (.seqR (.cnt 2 R (.c (.pn (r:=rE155) (T:=155)) .n) R ?_)))));cases hm;exact .rr [] Tryz.results85 (.tmp R (.tmp R .nil)) R I3 trivial
    ·refine .skip (.seqN (.seq (.sr (.fa y8y R (.lb nag32 R (bS hm fun V x hm=> .c0 (y2K x) cf25 R (.an R (.sr (.mv R (.bi R (.ns ?_)))))))))));refine .cc hm R (fun hm=>?_) fun hm=>?_
     ·refine .sr (.mv R (.sa R (.an R (.ret (.seqR (.cnt 2 R (.c (.pn (r:=rE155) (T:=155)) .n) R ?_))))));cases hm;exact .rr [] Tryz.results85 (.tmp R (.tmp R .nil)) R I3 trivial
     ·refine .skip (.seqN (.sr (.fa y3Q R (.lg (lx35 p0.1) ag35 R (.B R) R (.fa y5Z R (.lg (lx35 p0.2.1) ag35 R (.B R) R (.op (O.bsF (r:=rE35) (zs:=([p0.1,p0.2.1]:List AutT)) bs66 R R Z R R R (.c (.p .l (.p .k (.p .l .l))) (.c (.p .l (.p .k (.p .l .l))) .n)) R R R) R (bS hm fun b y hm=> .op (O.ca (r':= .tp [.a [lH 1,lI b.1.2.1,lH 2,lH 3],.h 4,.i b.2.2]) [1,2,3,4] [(0,rwI b.1.1),(1,rwI b.1.2.2.1),(2,ROW qT 124 b.1.2.2.2),(3,ROW (rL qI) 32 b.2.1)] (some 5) (y6H y) cf32 R R Z R R R R ⟨⟨_,R,I4⟩,⟨_,R,I4⟩,⟨_,R,I4⟩,⟨_,R,I4⟩,trivial⟩ I3 R) R (.mv R (.ex R (.ex R (.ex R (.al 5 zz35 R (.st ag35.sz R (.sa R (.an R (.seq (.sr (.mv R (.bi R (.ns ?_)))))))))))))))))))));refine .cc hm R (fun hm=>?_) fun hm=>?_
      ·refine .sr (.mv R (.sa R (.an R (.ret (.seqR (.cnt 2 R (.c (.pn (r:=rE155) (T:=155)) .n) R ?_))))));cases hm;exact .rr [] Tryz.results85 (.tmp R (.tmp R .nil)) R I3 trivial
      ·refine .skip (.seqN (.sr (.fa y3Q R (.fa yz R (.lb nag32 R (.fa y8y R (.lb nag32 R (bS hm fun s D hm=> .op (O.ca (r':= .h 6) [6] [(0,rwI s)] (some 7) (y6V D) cf145 R R Z R R R R ⟨⟨_,R,I4⟩,trivial⟩ I3 R) R (.an R (.seq (.fz 1 [49,42,48] [5] R R fR R R (.fz 2 [49,42,48] [5] R R fR R R (.fz 3 [49,42,48] [5] R R fR R R ?_)))))))))))));refine .sub (τ:=⟨[(11,.h 6),(9,.h 4),(8,.q 5 0),(1,.q 0 0)],[(6,rwI s),(4,ROW (rL qI) 32 b.2.1),(5,.bx 35 (lx35 b.1)),(0,.bx 37 (lx37 p0))],7⟩) ?_ [] R;refine bS hm fun d F hm=>bS hm fun e G hm=>bS hm fun g H hm=>bS hm fun u I hm=>?_;refine .drw [(7,[]),(7,[oT]),(7,[oT,oT]),(7,[]),(7,[oF,oF,oF,oT]),(7,tT 5),(7,[]),(7,tT 7),(7,[]),(7,[]),(7,[]),(7,[oF,oF,oF,oF,oF,oF,oF,oF,oF,oF,oT]),(7,[oF,oF,oF,oF,oF,oF,oF,oF,oF,oF,oT,oT]),(7,[]),(7,tA 8 (fA 2 (tT 4))),(8,tT 15),(8,tT 16),(9,tT 17),(9,tT 18)] [_,_,_,_,_,_,_,_,_,_,_,_,_,_,_,_,_,_,_] ⟨[(3,.i 0),(2,.q 8 0)],[(8,.bx 155 [lF qI d.1.1,lI d.1.2.1,lF qI d.1.2.2.1,lF qT d.1.2.2.2,lM kvP qI d.2,lF qI e.1.1,lI e.1.2.1,lF qI e.1.2.2.1,lF qT e.1.2.2.2,lM kvP qI e.2,lF qI g.1.1,lI g.1.2.1,lF qI g.1.2.2.1,lF qT g.1.2.2.2,lM kvP qI g.2,lH 4,lH 6,lH 7]),(4,ROW (rL qI) 32 b.2.1),(6,rwI s),(7,rwI u)],9⟩ ⟨O.faP y3Q Z R R,O.lg (l':=(lx35 p0.1)) ag35 Z R (.B R) R R R,O.ca0 (y8S F) cf151 R R Z R R R,O.faP y5Z Z R R,O.lg (l':=(lx35 p0.2.1)) ag35 Z R (.B R) R R R,O.ca0 (y8S G) cf151 R R Z R R R,O.lg (l':=(lx35 b.1)) ag35 Z R (.B R) R R R,O.ca0 (y8S H) cf151 R R Z R R R,O.mv Z R R,O.mv Z R R,O.faP y3Q Z R R,O.faP yz Z R R,O.ld nag32 Z R (.B R) R R,O.mv Z R R,O.caY (r':= .h 7) [7] [(0,rwI u)] (some 8) (y9p I) cf17 R R Z R R ⟨⟨R,LnL.rf⟩,⟨R,.hr R,trivial⟩,trivial⟩ R ⟨.row flr3,trivial⟩ (fun _ _ _ _ h=>h) ⟨⟨_,R,I4⟩,trivial⟩ I3 R,O.bu (l:=[lF qI d.1.1,lI d.1.2.1,lF qI d.1.2.2.1,lF qT d.1.2.2.2,lM kvP qI d.2,lF qI e.1.1,lI e.1.2.1,lF qI e.1.2.2.1,lF qT e.1.2.2.2,lM kvP qI e.2,lF qI g.1.1,lI g.1.2.1,lF qI g.1.2.2.1,lF qT g.1.2.2.2,lM kvP qI g.2,lH 4,lH 6,lH 7]) pl155 R Z R R R,O.box 8 R Z R R R,O.as Z R R,O.as Z R R,trivial⟩ (by kernel_rfl) R ?_;refine .seqN (.ret (.fz 4 [] [8] R R fR R R (.fz 6 [] [8] R R fR R R (.fz 7 [] [8] R R fR R R (.fz 8 [2] [] R R fB R R (.cnt 2 R (.c (.pk (r:=rE155) (.p (.p (.p .l (.p .k (.p .l .l))) .m) (.p (.p (.p .l (.p .k (.p .l .l))) .m) (.p (.p (.p .l (.p .k (.p .l .l))) .m) (.p .l (.p .l .l)))))) .n) R ?_))))));cases hm;exact .rr [] Tryz.results85 (.tmp R (.tmp R .nil)) R I3 trivial
  refine .cutU (z:= .ret) (fun j=> .inr (j)=S) (fun (j:Int)=>⟨[(3,.i j),(2,.o (lV (.pointer none)))],[],0⟩) ?_ fun M=>?_
  · rintro j rfl;dsimp only at hm;refine .blkR (.seqR (.cnt 2 R (.c (.pn (r:=rE155) (T:=155)) .n) R ?_));cases hm;exact .rr [] Tryz.results85 (.tmp R (.tmp R .nil)) R I3 trivial
  refine .iter (fun (v:Int)=>⟨[(18,.i v),(17,.i (([p0.1,p0.2.1]:List AutT).length:Int)),(16,.f rE35 ([p0.1,p0.2.1]:List AutT)),(1,.q 0 0)],[(0,.bx 37 (lx37 p0))],1⟩) N [] R ?_;intro v U hm Q t;refine .sr (.bi R (.ns (.seq ?_)));refine .cc hm R (fun hm=>?_) fun hm=> .exit (.seqX (.seqX ((K8 _ (t _ (oj hm))).sub [] R)));refine .skip (.seqN (.seq (.block (.sr (bS hm fun w K hm=> .ix sl66 K R (.lg (lx35 w) ag35 R (.E lv35) R (.al 1 zz35 R (.st ag35.sz R (.nr (.lg (lx35 w) ag35 R (.B R) R (bS hm fun W J hm=> .c0 (y4R J) cf101 R (.an R (.sr (.mv R (.bi R (.ns ?_))))))))))))))));exact .cc hm R (fun hm=> .sr (.mv R (.sa R (.an R (.ret (.blkR (.seqR (.seqR ((M _ (t _ (oj hm))).sub [] R))))))))) fun hm=> .skip (.blkN (.seqN (.reg (.bi R (.mv R (.nil ((Q _ (oj hm)).sub [] R)))))))
def y2B(p0:AutT×(List KeyT))(p1:Int)(p2:Int):Option Int:=
 if(kget p0.2 (p1,p2)).isSome then
  some ((kget p0.2 (p1,p2)).getD 0)
 else
  some (-1)
theorem y4E{p0:AutT×(List KeyT)}{r:Int}(hm:y2B p0 p1 p2=some r):
    F0 150 [.a (lx141 p0),.i p1,.i p2] [] (.i r) []:=by
  refine Fw.mk2 Tryz.func150 Tryz.ntmps150 R (fun C=>?_) R;refine .sr (.bo 0 R (.an R (.seq (.sr (.fa yfK R (.lb ybT R (.mv R (.mv R (.bu [lI p1,lI p2] pl241 R (.op (O.mi2 (k:=(p1,p2)) md139 Z (.fr R) (.a R R) R) R (.mv R (.ex R (.ex R (.sa R (.an R (.sr (.mv R (.ns ?_))))))))))))))))));refine .cc hm R (fun hm=>?_) fun hm=>?_
  ·refine .sr (.mv R (.an R (.ret (.seqR ?_))));cases hm;exact .rr [] Tryz.results150 (.tmp R .nil) R I3 trivial
  ·refine .skip (.seqN (.sr (.an R (.ret ?_))));cases hm;exact .rr [] Tryz.results150 (.tmp R .nil) R I3 trivial
def y3T(a:Int×List (List Int)×(List (Int×List Int)))(b:List (List Int))(c:List (Int×List Int)):Option ((Int×List (List Int)×(List (Int×List Int)))⊕(List (List Int))):=
 some (.inl (W (a.1+1),b,c))
def yK(a:Int×(List (Int×List Int)))(b:List (Int×List Int)):Option ((Int×(List (Int×List Int)))⊕(List (Int×List Int))):=
 some (.inl (W (a.1+1),b))
def yL(p0:TskT)(b:Int×List (List Int)×(List (Int×List Int)))(a:Int×(List (Int×List Int))):Option ((Int×(List (Int×List Int)))⊕(List (Int×List Int))):=
 if decide (a.1<(p0.2.2.2.2.1.length:Int)) then
  (idx p0.2.2.2.2.1 a.1).bind fun c=>
  (idx a.2 b.1).bind fun h=>
  (y2B p0.1 h.1 c).bind fun d=>
  (if (d != (-1)) then
   (idx a.2 b.1).bind fun l=>
   (yf l.2 c).bind fun g=>
   some (!g)
  else
   some false).bind fun e=>
  if e then
   (idx a.2 b.1).bind fun i=>
   (yT i.2).bind fun f=>
   (app f ([c]:List Int)).bind fun j=>
   (app a.2 ([(d,j)]:List (Int×List Int))).bind fun k=>
   yK a k
  else
   yK a a.2
 else
  some (.inr a.2)
def y3U(p0:TskT)(p2:Int)(a:Int×List (List Int)×(List (Int×List Int)))(b:List (List Int)):Option ((Int×List (List Int)×(List (Int×List Int)))⊕(List (List Int))):=
 (idx a.2.2 a.1).bind fun d=>
 if((d.2.length:Int)==p2) then
  y3T a b a.2.2
 else
  (iter (yL p0 a) (0,a.2.2)).bind fun c=>
  y3T a b c
def y5D(p0:TskT)(p2:Int)(a:Int×List (List Int)×(List (Int×List Int))):Option ((Int×List (List Int)×(List (Int×List Int)))⊕(List (List Int))):=
 if decide (a.1<(a.2.2.length:Int)) then
  (idx a.2.2 a.1).bind fun b=>
  if decide ((b.2.length:Int)>1) then
   (idx a.2.2 a.1).bind fun c=>
   (app a.2.1 ([c.2]:List (List Int))).bind fun d=>
   y3U p0 p2 a d
  else
   y3U p0 p2 a a.2.1
 else
  some (.inr a.2.1)
def y5r(p0:TskT)(p1:Int)(p2:Int):Option (List (List Int)):=
 (idx p0.2.2.2.1 p1).bind fun b=>
 (idx b 0).bind fun c=>
 (iter (y5D p0 p2) (0,([]:List (List Int)),([(c,([]:List Int))]:List (Int×List Int)))).bind fun a=>
 some a
theorem ybk{p0:TskT}{r:List (List Int)}(hm:y5r p0 p1 p2=some r):
  F0 109 [.o (lQ 155 (lx155 p0) 0),.i p1,.i p2] [] (.h 0) [ROW (rL qI) 32 r]:=by
 refine Fw.mk2 Tryz.func109 Tryz.ntmps109 R (fun C=>?_) R;refine .sr (.an R (.sr (.mv R (.op (O.nc .Q Z R R) R (.fq yaM R (.lq nag53 R (.mv R (bS hm fun x1 a6 hm=> .ix sl53 a6 R (.le nag32 lv32 R (bS hm fun x2 a7 hm=> .ix sl32 a7 R (.le nag3 lv3 R (.bu [lI x2,lN] pl257 R (.op (O.bsO (r:=rE257) (zs:=([(x2,([]:List Int))]:List (Int×List Int))) 0 R bs258 R R Z R R R (.c (.p .k .n) .n) R R R) R (.an R (.sr (.an R (.seq (.sr (.an R (.block (bS hm fun H M hm=>?_)))))))))))))))))))));refine .cut1 (z:= .exit 0) H (fun (H:List (List Int))=>⟨[(8,.h 0)],[(0,ROW (rL qI) 32 H)],1⟩) ?_ fun a3=>?_
 ·skip
  refine .blkE (.seqN (.sr (.mv R (.an R (.ret ?_)))));cases hm;exact .rr [0] Tryz.results109 (.tmp R .nil) R I3 ⟨⟨_,R,I4⟩,trivial⟩
 refine .nlg (rL qI) 32 8 0 R R (.iter (fun (a:Int×List (List Int)×(List (Int×List Int)))=>⟨[(9,.i a.1),(8,.h 0),(7,.h 1),(0,.o (lQ 155 (lx155 p0) 0)),(2,.i p2)],[(0,ROW (rL qI) 32 a.2.1),(1,ROW rE257 257 a.2.2)],2⟩) M [(0,1),(1,0)] R ?_);intro a t hm a1 Y;refine .seq (.sr (.mv R (.mv R (.lh sl258 R (.bi R (.ns ?_))))));refine .cc hm R (fun hm=>?_) fun hm=> .exit (.seqX (.seqX ((a3 _ (Y _ (oj hm))).sub [] R)));refine .skip (.seqN ?_);refine .join2 (fun (j:List (List Int)) (m:List (Int×List Int))=>y3T a j m=some t) (fun j m=>⟨[(8,.h 0),(9,.i a.1),(7,.h 1),(0,.o (lQ 155 (lx155 p0) 0)),(2,.i p2)],[(0,ROW (rL qI) 32 j),(1,ROW rE257 257 m)],2⟩) ?_ ?_
 ·intro j m hm;exact .reg (.mv R (.bi R (.sa R (.nil ((a1 _ (oj hm)).sub [] R)))))
 ·intro v;refine .block ?_;refine .join1 (fun (g:List (List Int))=>y3U p0 p2 a g=some t) (fun g=>⟨[(8,.h 0),(9,.i a.1),(7,.h 1),(0,.o (lQ 155 (lx155 p0) 0)),(2,.i p2)],[(0,ROW (rL qI) 32 g),(1,ROW rE257 257 a.2.2)],2⟩) ?_ ?_
  ·intro g hm;refine .seq (.sr (.mv R (.mv R (bS hm fun b2 y hm=> .op (O.ir sl258 Z R R R y R) R (.op (O.faR yaN Z R R) R (.op (O.ld nag32 Z R (.R R y lv257) R R) R (.ln sl32 R (.mv R (.bi R (.ns ?_))))))))));refine .cc hm R (fun hm=> .exit (.seqX (.blkE ((v _ _ hm).sub [] R)))) fun hm=>?_;refine .skip (.seqN (.sr (.mv R (.op (O.nc .Q Z R R) R (.fq yfM R (.lq nag32 R (.ln sl32 R (.mv R (.ns (.block (bS hm fun I N hm=>?_)))))))))));refine .cut1 (z:= .exit 2) I (fun (I:(List (Int×List Int)))=>⟨[(8,.h 0),(9,.i a.1),(7,.h 1),(0,.o (lQ 155 (lx155 p0) 0)),(2,.i p2)],[(0,ROW (rL qI) 32 g),(1,ROW rE257 257 I)],2⟩) ?_ fun a4=>?_
   ·skip
    exact .blkE (.blkN ((v _ _ hm).sub [] R))
   refine .iter (fun (e:Int×(List (Int×List Int)))=>⟨[(58,.i e.1),(57,.i p0.2.2.2.2.1.length),(56,.f qI p0.2.2.2.2.1),(8,.h 0),(9,.i a.1),(7,.h 1),(0,.o (lQ 155 (lx155 p0) 0)),(2,.i p2)],[(0,ROW (rL qI) 32 g),(1,ROW rE257 257 e.2)],2⟩) N [] R ?_;intro e K hm a2 a0;refine .sr (.bi R (.ns (.seq ?_)));refine .cc hm R (fun hm=>?_) fun hm=> .exit (.seqX (.seqX ((a4 _ (a0 _ (oj hm))).sub [] R)));refine .skip (.seqN ?_);refine .join1 (fun (q:List (Int×List Int))=>yK e q=some K) (fun q=>⟨[(7,.h 0),(58,.i e.1),(57,.i p0.2.2.2.2.1.length),(56,.f qI p0.2.2.2.2.1),(8,.h 1),(9,.i a.1),(0,.o (lQ 155 (lx155 p0) 0)),(2,.i p2)],[(0,ROW rE257 257 q),(1,ROW (rL qI) 32 g)],2⟩) ?_ ?_
   ·intro q hm;exact .reg (.bi R (.mv R (.nil ((a2 _ (oj hm)).sub [(0,1),(1,0)] R))))
   ·intro x;refine .block (.sr (bS hm fun u U hm=> .ix sl32 U R (.le nag3 lv3 R (.an R (.seq ?_)))));refine .sub (τ:=⟨[(11,.i u),(58,.i e.1),(57,.i p0.2.2.2.2.1.length),(56,.f qI p0.2.2.2.2.1),(8,.h 0),(9,.i a.1),(7,.h 1),(0,.o (lQ 155 (lx155 p0) 0)),(2,.i p2)],[(0,ROW (rL qI) 32 g),(1,ROW rE257 257 e.2)],2⟩) ?_ [] R;refine bS hm fun b3 B hm=>bS hm fun s P hm=>?_;refine .drw [(2,[]),(2,[oT]),(2,[oT,oT]),(2,tT 3),(2,[]),(2,[]),(2,[oF,oF,oF,oF,oT,oT]),(2,fA 4 (tT 3)),(2,fA 4 (tT 4)),(2,[]),(2,tT 10),(2,tT 11)] [_,_,_,_,_,_,_,_,_,_,_,_] ⟨[(12,.i s),(11,.i u),(58,.i e.1),(57,.i p0.2.2.2.2.1.length),(56,.f qI p0.2.2.2.2.1),(8,.h 0),(9,.i a.1),(7,.h 1),(0,.o (lQ 155 (lx155 p0) 0)),(2,.i p2)],[(0,ROW (rL qI) 32 g),(1,ROW rE257 257 e.2)],2⟩ ⟨O.mv Z R R,O.nc .Q Z R R,O.faQ yfL Z R R,O.lg (l':=(lx141 p0.1)) ag141 Z R .Q R R R,O.mv Z R R,O.mv Z R R,O.ir sl258 Z R R R B R,O.faR yjv Z R R,O.ld nag3 Z R (.R R B lv257) R R,O.mv Z R R,O.ca0 (y4E P) cf150 R R Z R R R,O.as Z R R,trivial⟩ (by kernel_rfl) R ?_;refine .seqN (.sr (.mv R (.bi R (.mv R (bS hm fun a5 eb88 hm=>?_)))));refine .cut 9 (fun (J:Bool)=>a5=J) (fun J=>⟨[(84,.b J),(12,.i s),(11,.i u),(58,.i e.1),(57,.i p0.2.2.2.2.1.length),(56,.f qI p0.2.2.2.2.1),(8,.h 0),(9,.i a.1),(7,.h 1),(0,.o (lQ 155 (lx155 p0) 0)),(2,.i p2)],[(0,ROW (rL qI) 32 g),(1,ROW rE257 257 e.2)],2⟩) ?_ ?_
    ·rintro _ rfl;exact .ns (.cc hm R (fun hm=> .reg (.mv R (.mv R (.mv R (.mv R (bS hm fun b4 D hm=> .op (O.ir sl258 Z R R R D R) R (.op (O.faR yaN Z R R) R (.op (O.ld nag32 Z R (.R R D lv257) R R) R (bS hm fun a8 S hm=> .op (O.ca (r':= .h 2) [2] [(0,rwI a8)] (some 3) (y4k S) cf103 R R Z R R R R ⟨⟨_,R,I4⟩,trivial⟩ I3 R) R (.mv R (.bf (r:=qI) ([u]:List Int) bs32 R (.c .k .n) R (bS hm fun b0 V hm=> .op (O.ap 3 Tryz.underlying32 el3 R R Z R R (.fr R) V R) R (.bu [lI s,lH 3] pl257 R (.fz 3 [96] [] R R fR R R (.bf (r:=rE257) ([(s,b0)]:List (Int×List Int)) bs258 R (.c (.p .k .l) .n) R (bS hm fun b5 W hm=> .op (O.ap 4 Tryz.underlying258 el257 R R Z R R (.fr R) W R) R (.sa R (.nil (.blkN ((x _ hm).sub [(0,4),(1,0)] R)))))))))))))))))))) fun hm=> .skip (.blkN ((x _ hm).sub [(0,1),(1,0)] R)))
    ·intro L;rcases ifS eb88 with ⟨hc,hm⟩|⟨hc,hm⟩
     ·refine .know (d:=75) R hc ?_;exact .mg R (.mg R (bS hm fun b6 E hm=> .op (O.ir sl258 (Gu.mk R R) R R R E R) R (.op (O.faR yaN (Gu.mk R R) R R) R (.op (O.ld nag32 (Gu.mk R R) R (.R R E lv257) R R) R (.mg R (bS hm fun a9 T hm=> .op (O.ca0 (yj T) cf104 R R (Gu.mk R R) R R R) R (.op (O.not (Gu.mk R R) R R) R (.pT R ((L (!a9) (oj hm)).sub [] R)))))))))
     ·refine .know (d:=75) R hc ?_;exact .sk R (.sk R (.sk R (.sk R (.sk R (.sk R (.sk R (.sk R (.pF R ((L false (oj hm)).sub [] R)))))))))
  ·intro w;refine .sr (.mv R (.mv R (bS hm fun b7 F hm=> .op (O.ir sl258 Z R R R F R) R (.op (O.faR yaN Z R R) R (.op (O.ld nag32 Z R (.R R F lv257) R R) R (.ln sl32 R (.bi R (.ns ?_))))))));exact .cc hm R (fun hm=> .reg (.mv R (.mv R (.mv R (bS hm fun b1 G hm=> .op (O.ir sl258 Z R R R G R) R (.op (O.faR yaN Z R R) R (.op (O.ld nag32 Z R (.R R G lv257) R R) R (.op (O.bsF (r:=(rL qI)) (zs:=([b1.2]:List (List Int))) bs53 R R Z R R R (.c .l .n) R R R) R (bS hm fun b8 X hm=> .op (O.ap 2 Tryz.underlying53 el32 R R Z R R (.fr R) X R) R (.sa R (.nil ((w _ hm).sub [(0,2)] R)))))))))))) fun hm=> .skip ((w _ hm).sub [] R)
def y3V(a:Int×Int)(b:Int):Option ((Int×Int)⊕(Int⊕(Int×Int))):=
 some (.inl (W (a.1+1),b))
def y5E(p0:TskT)(p2:List Int)(a:Int×Int):Option ((Int×Int)⊕(Int⊕(Int×Int))):=
 if decide (a.1<(p2.length:Int)) then
  (idx p2 a.1).bind fun c=>
  (y1m p0.2.1.1.1 c).bind fun d=>
  if(!d) then
   y3V a a.2
  else
   (y2B p0.2.1 a.2 c).bind fun b=>
   if(b==(-1)) then
    some (.inr (.inr (a)))
   else
    y3V a b
 else
  some (.inr (.inl a.2))
def y5s(p0:TskT)(p1:Int)(p2:List Int):Option (Int×Int):=
 (iter (y5E p0 p2) (0,p1)).bind fun b=>
 match b with
 | .inl c=>
  some (c,(p2.length:Int))
 | .inr (a)=>
  some (a.2,a.1)
theorem y8A{p0:TskT}{p2:List Int}{r:Int×Int}(hm:y5s p0 p1 p2=some r):
  F0 87 [.o (lQ 155 (lx155 p0) 0),.i p1,.f qI p2] [] (.tp [.i r.1,.i r.2]) []:=by
 refine Fw.mk2 Tryz.func87 Tryz.ntmps87 R (fun C=>?_) R;refine .sr (.sa R (.an R (.seq (.sr (.mv R (.ln sl32 R (.mv R (.ns (.block (bS hm fun j k hm=>?_))))))))));refine .cutU (z:= .exit 0) (fun d=> .inl d=j) (fun (d:Int)=>⟨[(1,.i d),(2,.f qI p2)],[],0⟩) ?_ fun q=>?_
 ·rintro d rfl;dsimp only at hm;refine .blkE (.seqN (.sr (.mv R (.mv R (.ln sl32 R (.sa R (.an R (.ret ?_))))))));cases hm;exact .rr [] Tryz.results87 (.tmp R (.tmp R .nil)) R I3 trivial
 refine .cutU (z:= .ret) (fun b=> .inr (b)=j) (fun (b:Int×Int)=>⟨[(7,.i b.1),(6,.i b.2)],[],0⟩) ?_ fun s=>?_
 ·rintro b rfl;dsimp only at hm;refine .blkR (.seqR ?_);cases hm;exact .rr [] Tryz.results87 (.tmp R (.tmp R .nil)) R I3 trivial
 refine .iter (fun (a:Int×Int)=>⟨[(13,.i a.1),(12,.i p2.length),(11,.f qI p2),(0,.o (lQ 155 (lx155 p0) 0)),(1,.i a.2),(2,.f qI p2)],[],0⟩) k [] R ?_;intro a h hm p g;refine .sr (.bi R (.ns (.seq ?_)));refine .cc hm R (fun hm=>?_) fun hm=> .exit (.seqX (.seqX ((q _ (g _ (oj hm))).sub [] R)));refine .skip (.seqN ?_);refine .join1 (fun (c:Int)=>y3V a c=some h) (fun c=>⟨[(13,.i a.1),(12,.i p2.length),(11,.f qI p2),(0,.o (lQ 155 (lx155 p0) 0)),(1,.i c),(2,.f qI p2)],[],0⟩) ?_ ?_
 ·intro c hm;exact .reg (.bi R (.mv R (.nil ((p _ (oj hm)).sub [] R))))
 ·intro e;refine .block (.sr (.mv R (bS hm fun v n hm=> .ix sl32 n R (.le nag3 lv3 R (.sa R (.an R (.seq (.sr (.mv R (.op (O.nc .Q Z R R) R (.fq yfN R (.fq ycf R (.fq yz R (.lq nag32 R (.mv R (bS hm fun t l hm=> .c0 (y3S l) cf94 R (.no R (.ns ?_))))))))))))))))));refine .cc hm R (fun hm=> .exit (.seqX (.blkE ((e _ hm).sub [] R)))) fun hm=>?_;refine .skip (.seqN (.sr (.mv R (.op (O.nc .Q Z R R) R (.fq yfN R (.lg (lx141 p0.2.1) ag141 R .Q R (.mv R (.mv R (bS hm fun u m hm=> .c0 (y4E m) cf150 R (.an R (.seq (.sr (.mv R (.bi R (.ns ?_)))))))))))))));exact .cc hm R (fun hm=> .sr (.mv R (.mv R (.sa R (.an R (.ret (.seqR (.blkR (.seqR (.seqR ((s _ (g _ (oj hm))).sub [] R))))))))))) fun hm=> .skip (.seqN (.reg (.mv R (.sa R (.nil (.blkN ((e _ hm).sub [] R)))))))
def y6z(p0:TskT)(p1:Int)(p2:List Int):Option Bool:=
 (idx p0.2.2.2.1 p1).bind fun f=>
 (idx f 1).bind fun c=>
 (y5s p0 c p2).bind fun a=>
 (y4P p2).bind fun d=>
 (y3v d).bind fun e=>
 (y5s p0 c e).bind fun b=>
 some (((a.2==(p2.length:Int))&&(b.2==(p2.length:Int)))&&(a.1==b.1))
theorem yaV{p0:TskT}{p2:List Int}{r:Bool}(hm:y6z p0 p1 p2=some r):
  F0 93 [.o (lQ 155 (lx155 p0) 0),.i p1,.f qI p2] [] (.b r) []:=by
 refine Fw.mk2 Tryz.func93 Tryz.ntmps93 R (fun C=>?_) R;refine .sr (.an R (.sr (.mv R (.op (O.nc .Q Z R R) R (.fq yaM R (.lq nag53 R (.mv R (bS hm fun v q hm=> .ix sl53 q R (.le nag32 lv32 R (bS hm fun w s hm=> .ix sl32 s R (.le nag3 lv3 R (.an R (.sr (.mv R (.mv R (.mv R (bS hm fun a l hm=> .c0 (y8A l) cf87 R (.mv R (.ex R (.ex R (.sa R (.an R (.sr (.mv R (.mv R (.mv R ?_))))))))))))))))))))))))));refine bS hm fun u m hm=> .c0 (yaK m) cf157 R (bS hm fun t n hm=> .op (O.ca (r':= .h 0) [0] [(0,rwI t)] (some 1) (yaL n) cf156 R R Z R R R R ⟨⟨_,R,I4⟩,trivial⟩ I3 R) R (bS hm fun c p hm=> .op (O.caZ (y8A p) cf87 R R Z R ⟨⟨R,.rf,trivial⟩,⟨R,LnL.rf⟩,⟨R,.hr R,trivial⟩,trivial⟩ (fun _ _ _ _ _ h=>h) R) R (.mv R (.ex R (.ex R (.sa R (.an R (.sr (.mv R (.mv R (.ln sl32 R (.bi R (.mv R ?_)))))))))))));refine .cut 5 (fun (g:Bool)=>((a.2==(p2.length:Int))&&(c.2==(p2.length:Int)))=g) (fun g=>⟨[(46,.b g),(10,.i c.1),(8,.i a.1)],[],1⟩) ?_ ?_
 ·rintro _ rfl;refine .mv R ?_;refine .cut 4 (fun (j:Bool)=>(((a.2==(p2.length:Int))&&(c.2==(p2.length:Int)))&&(a.1==c.1))=j) (fun j=>⟨[(51,.b j)],[],1⟩) ?_ ?_
  ·rintro _ rfl;refine .an R (.ret ?_);cases hm;exact .rr [] Tryz.results93 (.tmp R .nil) R I3 trivial
  ·intro e;rcases yEt ((a.2==(p2.length:Int))&&(c.2==(p2.length:Int))) with hc|hc
   ·refine .know (d:=47) R hc ?_;exact .mg R (.mg R (.bg R (.pT R ((e (a.1==c.1) (andT hc).symm).sub [] R))))
   ·refine .know (d:=47) R hc ?_;exact .sk R (.sk R (.sk R (.pF R ((e false (andF hc).symm).sub [] R))))
 ·intro k;rcases yEt (a.2==(p2.length:Int)) with hc|hc
  ·refine .know (d:=41) R hc ?_;exact .mg R (.mg R (.op (O.len sl32 (Gu.mk R R) R R) R (.bg R (.pT R ((k (c.2==(p2.length:Int)) (andT hc).symm).sub [] R)))))
  ·refine .know (d:=41) R hc ?_;exact .sk R (.sk R (.sk R (.sk R (.pF R ((k false (andF hc).symm).sub [] R)))))
def y7C(a:Int)(p0:Int×Int×Int):Option Bool:=
 some (p0.2.2==a)
theorem yaW{c:Int}{p0:Int×Int×Int}{r:Bool}(hm:y7C c p0=some r):
  F0 152 [.a [lI p0.1,lI p0.2.1,lI p0.2.2],.o (lQ 3 [lI c] 0)] [] (.b r) []:=by
 refine Fw.mk2 Tryz.func152 Tryz.ntmps152 R (fun C=>?_) R;refine .sr (.bo 0 R (.an R (.sr (.fa y2J R (.lb nag3 R (.lq nag3 R (.bi R (.an R (.ret ?_)))))))));cases hm;exact .rr [] Tryz.results152 (.tmp R .nil) R I3 trivial
def y1t(p0:List (Int×Int×Int))(p1:(Int×Int×Int)→Option Bool)(a:Int):Option (Int⊕(Unit⊕Int)):=
 if decide (a<(p0.length:Int)) then
  (idx p0 a).bind fun c=>
  (p1 c).bind fun b=>
  if b then
   some (.inr (.inr (a)))
  else
   some (.inl (W (a+1)))
 else
  some (.inr (.inl ()))
def yv(p0:List (Int×Int×Int))(p1:(Int×Int×Int)→Option Bool):Option Int:=
 (iter (y1t p0 p1) 0).bind fun a=>
 match a with
 | .inl c=>
  some (-1)
 | .inr (b)=>
  some b
theorem y2C{p0:List (Int×Int×Int)}{p1:(Int×Int×Int)→Option Bool}{r:Int}(hm:yv p0 p1=some r):
  F0 140 [.f qT p0,.o (lW Tryz.prog (fun (x:(Int×Int×Int))=> [.a [lI x.1,lI x.2.1,lI x.2.2]]) (fun (r:Bool)=> .b r) p1)] [] (.i r) []:=by
 refine Fw.mk2 Tryz.func140 Tryz.ntmps140 R (fun C=>?_) R;refine .sr (.an R (.seq (.sr (.mv R (.ln sl33 R (.mv R (.ns (.block (bS hm fun p m hm=>?_)))))))));refine .cutU (z:= .exit 0) (fun k=> .inl k=p) (fun (k:Unit)=>⟨[],[],0⟩) ?_ fun K8=>?_
 ·rintro k rfl;dsimp only at hm;refine .blkE (.seqN (.sr (.an R (.ret ?_))));cases hm;exact .rr [] Tryz.results140 (.tmp R .nil) R I3 trivial
 refine .cutU (z:= .ret) (fun d=> .inr (d)=p) (fun (d:Int)=>⟨[(4,.i d)],[],0⟩) ?_ fun l=>?_
 ·rintro d rfl;dsimp only at hm;refine .blkR (.seqR ?_);cases hm;exact .rr [] Tryz.results140 (.tmp R .nil) R I3 trivial
 refine .iter (fun (g:Int)=>⟨[(8,.i g),(7,.i p0.length),(0,.f qT p0),(1,.o (lW Tryz.prog (fun (x:(Int×Int×Int))=> [.a [lI x.1,lI x.2.1,lI x.2.2]]) (fun (r:Bool)=> .b r) p1))],[],0⟩) m [] R ?_;intro g q hm n e;refine .sr (.bi R (.ns (.seq ?_)));refine .cc hm R (fun hm=>?_) fun hm=> .exit (.seqX (.seqX ((K8 _ (e _ (oj hm))).sub [] R)));refine .skip (.seqN (.seq (.block (.sr (.mv R (.an R (.sr (.mv R (.mv R (.mv R (bS hm fun c j hm=> .ix sl33 j R (.lg [lI c.1,lI c.2.1,lI c.2.2] ag124 R (.E lv124) R (bS hm fun s h hm=>?_)))))))))))));refine .op (O.fv (y:=c) R R R Z R h R R) R ?_;exact .ns (.cc hm R (fun hm=> .sr (.mv R (.an R (.ret (.blkR (.seqR (.seqR ((l _ (e _ (oj hm))).sub [] R)))))))) fun hm=> .skip (.blkN (.seqN (.reg (.bi R (.mv R (.nil ((n _ (oj hm)).sub [] R))))))))
def y6f(p0:AutT×(List KeyT))(a:List Int×Int):Option ((List Int×Int)⊕(List Int)):=
 if decide (a.2>0) then
  (yv p0.1.2.2.2 (y7C a.2)).bind fun b=>
  (idx p0.1.2.2.2 b).bind fun c=>
  (app a.1 ([c.2.1]:List Int)).bind fun d=>
  (idx p0.1.2.2.2 b).bind fun e=>
  some (.inl (d,e.1))
 else
  some (.inr a.1)
def y4F(p0:AutT×(List KeyT))(p1:Int):Option (List Int):=
 (iter (y6f p0) (([]:List Int),p1)).bind fun b=>
 (y1w b).bind fun a=>
 some a
theorem y8N{p0:AutT×(List KeyT)}{r:List Int}(hm:y4F p0 p1=some r):
  F0 81 [.a (lx141 p0),.i p1] [] (.h 0) [rwI r]:=by
 refine Fw.mk2 Tryz.func81 Tryz.ntmps81 R (fun C=>?_) R;refine .sr (.bo 0 R (.bo 1 R (.an R (.sr (.an R (.seq (.block (bS hm fun m p hm=>?_))))))));refine .cut1 (z:= .exit 0) m (fun (m:List Int)=>⟨[(5,.h 0)],[(0,rwI m)],1⟩) ?_ fun o=>?_
 ·skip
  refine .blkE (.seqN (.sr (.mv R (bS hm fun u d hm=> .op (O.ca (r':= .tp []) [0] [(0,rwI u)] none (y8a d) cf142 R R Z R R R R ⟨⟨_,R,I4⟩,trivial⟩ I3 R) R (.nr (.mv R (.an R (.ret ?_))))))));cases hm;exact .rr [0] Tryz.results81 (.tmp R .nil) R I3 ⟨⟨_,R,I4⟩,trivial⟩
 refine .nlg qI 3 5 0 R R (.iter (fun (b:List Int×Int)=>⟨[(5,.h 0),(3,.q 1 0),(2,.q 2 0)],[(0,rwI b.1),(1,.bx 3 [lI b.2]),(2,.bx 141 (lx141 p0))],3⟩) p [(0,2),(2,0)] R ?_);intro b w hm t s;refine .seq (.sr (.lb nag3 R (.bi R (.ns ?_))));refine .cc hm R (fun hm=>?_) fun hm=> .exit (.seqX (.seqX ((o _ (s _ (oj hm))).sub [] R)));refine .skip (.seqN (.block (.sr (.fa ycf R (.fa yB R (.lb nag33 R (.op (O.mz (l:=[lP 1 0]) Z R R) R (bS hm fun y e hm=> .op (O.caZ (y2C e) cf140 R R Z R ⟨⟨R,LnL.rf⟩,⟨R,(.z (l':=[lQ 3 [lI b.2] 0]) cf152 (fun x r h=>yaW h) (fun _=>R) R ⟨(.q R LnL.rf),trivial⟩),trivial⟩,trivial⟩ (fun _ _ _ _ _ h=>h) R) R (.an R (.sr (.mv R (.fa ycf R (.fa yB R (.lb nag33 R (.mv R (bS hm fun v f hm=> .ix sl33 f R (.fe y2I R (.le nag3 lv124 R (.bf (r:=qI) ([v.2.1]:List Int) bs32 R (.c .k .n) R (bS hm fun B g hm=> .op (O.ap 3 Tryz.underlying32 el3 R R Z R R (.fr R) g R) R (.an R (.reg (.fa ycf R (.fa yB R (.lb nag33 R (.mv R (bS hm fun D j hm=> .ix sl33 j R (.fe y1A R (.le nag3 lv124 R ?_)))))))))))))))))))))))))))));exact .st nag3.sz R (.nil (.blkN ((t _ (oj hm)).sub [(0,3)] R)))
def y6r(g:TskT)(b:Int)(c:List (List Int))(a:Int):Option (Int⊕(Unit⊕(List Int×List Int))):=
 if decide (a<(c.length:Int)) then
  (idx c a).bind fun d=>
  (y6z g b d).bind fun e=>
  if(!e) then
   (y4F g.2.2.1 b).bind fun f=>
   some (.inr (.inr ((f,d))))
  else
   some (.inl (W (a+1)))
 else
  some (.inr (.inl ()))
def y7k(p1:Int)(b:TskT)(a:Int):Option (Int⊕(Unit⊕(List Int×List Int))):=
 if decide (a<(b.2.2.2.1.length:Int)) then
  (y5r b a p1).bind fun d=>
  (iter (y6r b a d) 0).bind fun c=>
  match c with
  | .inl f=>
   some (.inl (W (a+1)))
  | .inr (e)=>
   some (.inr (.inr (e)))
 else
  some (.inr (.inl ()))
def y7v(p0:PbT)(p1:Int):Option ((Int×List Int×List Int)×Bool×Int):=
 (y5j p0).bind fun a=>
 if(a.2 != 0) then
  some ((0,([]:List Int),([]:List Int)),false,a.2)
 else
  if((decide (p1<2))||(decide (p1>3))) then
   some ((0,([]:List Int),([]:List Int)),false,2)
  else
   a.1.bind fun d=>
   (iter (y7k p1 d) 0).bind fun b=>
   match b with
   | .inl e=>
    some ((0,([]:List Int),([]:List Int)),true,0)
   | .inr (c)=>
    some ((1,c),false,0)
theorem ydi{p0:PbT}{r:(Int×List Int×List Int)×Bool×Int}(hm:y7v p0 p1=some r):
    F0 36 [.a (lx37 p0),.i p1] [] (.tp [.a [lI r.1.1,lH 0,lF qI r.1.2.2],.b r.2.1,.i r.2.2]) [rwI r.1.2.1]:=by
  refine Fw.mk2 Tryz.func36 Tryz.ntmps36 R (fun C=>?_) R;refine .sr (.bo 0 R (.al 1 zz44 R (.sa R (.an R (.sr (.lg (lx37 p0) ag37 R (.B R) R (bS hm fun X S hm=> .c0 (y9C S) cf85 R (.mv R (.ex R (.ex R (.sa R (.an R (.seq (.sr (.mv R (.bi R (.ns ?_)))))))))))))))));refine .cc hm R (fun hm=>?_) fun hm=>?_
  ·refine .sr (.bu [lI 0,lN,lN] pl44 R (.mv R (.st ag44.sz R (.sa R (.an R (.ret (.seqR (.nlb qI 3 1 1 R R (.cno 1 R (.c .rf (.c .rf (.c (.nf (r:=qI)) .n))) R ?_)))))))));cases hm;exact .rr [2] Tryz.results36 (.cell R R ag44 R (.tmp R (.tmp R .nil))) R I3 ⟨⟨_,R,I4⟩,trivial⟩
  ·refine .skip (.seqN (.seq (.sr (.mv R (.bi R (.mv R ?_))))));refine .cut 3 (fun (J:Bool)=>((decide (p1<2))||(decide (p1>3)))=J) (fun J=>⟨[(25,.b J),(7,.o (lK rE155 155 X.1)),(4,.q 1 0),(1,.i p1)],[(1,.bx 44 [lI 0,lN,lN])],2⟩) ?_ ?_
   · rintro _ rfl;refine .ns ?_;refine .cc hm R (fun hm=>?_) fun hm=>?_
     ·refine .sr (.bu [lI 0,lN,lN] pl44 R (.st ag44.sz R (.sa R (.an R (.ret (.seqR (.nlb qI 3 1 1 R R (.cno 1 R (.c .rf (.c .rf (.c (.nf (r:=qI)) .n))) R ?_))))))));cases hm;exact .rr [2] Tryz.results36 (.cell R R ag44 R (.tmp R (.tmp R .nil))) R I3 ⟨⟨_,R,I4⟩,trivial⟩
     ·refine .skip (.seqN (.seq (.sr (.mv R (bS hm fun j v hm=> .cnt 27 R (.c (.pd v lv155) .n) R (.cnt 7 R (.c (.pd v lv155) .n) R (.op (O.nc .Q Z R R) R (.fq yaM R (.lq nag53 R (.ln sl53 R (.mv R (.ns (.block (bS hm fun w y hm=>?_))))))))))))));refine .cutU (z:= .exit 0) (fun t=> .inl t=w) (fun (t:Unit)=>⟨[(4,.q 0 0)],[(0,.bx 44 [lI 0,lN,lN])],1⟩) ?_ fun L=>?_
      · rintro t rfl;dsimp only at hm;refine .blkE (.seqN (.sr (.bu [lI 0,lN,lN] pl44 R (.st ag44.sz R (.sa R (.an R (.ret (.nlb qI 3 0 1 R R (.cno 0 R (.c .rf (.c .rf (.c (.nf (r:=qI)) .n))) R ?_)))))))));cases hm;exact .rr [1] Tryz.results36 (.cell R R ag44 R (.tmp R (.tmp R .nil))) R I3 ⟨⟨_,R,I4⟩,trivial⟩
      refine .cutU (z:= .ret) (fun f=> .inr (f)=w) (fun (f:List Int×List Int)=>⟨[(6,.i 0),(5,.b false),(4,.q 0 0)],[(0,.bx 44 [lI 1,lH 1,lF qI f.2]),(1,rwI f.1)],2⟩) ?_ fun M=>?_
      · rintro f rfl;dsimp only at hm;refine .blkR (.seqR ?_);cases hm;exact .rr [1] Tryz.results36 (.cell R R ag44 R (.tmp R (.tmp R .nil))) R I3 ⟨⟨_,R,I4⟩,trivial⟩
      refine .iter (fun (e:Int)=>⟨[(32,.i e),(31,.i j.2.2.2.1.length),(7,.o (lQ 155 (lx155 j) 0)),(4,.q 0 0),(1,.i p1)],[(0,.bx 44 [lI 0,lN,lN])],1⟩) y [(0,1)] R ?_;intro e V hm H l;refine .sr (.bi R (.ns (.seq ?_)));refine .cc hm R (fun hm=>?_) fun hm=> .exit (.seqX (.seqX ((L _ (l _ (oj hm))).sub [] R)));refine .skip (.seqN (.seq (.block (.sr (.mv R (.an R (.sr (.mv R (.mv R (.mv R (bS hm fun p E hm=> .op (O.ca (r':= .h 1) [1] [(0,ROW (rL qI) 32 p)] (some 2) (ybk E) cf109 R R Z R R R R ⟨⟨_,R,I4⟩,trivial⟩ I3 R) R (.lh sl53 R (.mv R (.ns (.block (bS hm fun x D hm=>?_))))))))))))))));refine .cutU (z:= .exit 2) (fun u=> .inl u=x) (fun (u:Unit)=>⟨[(32,.i e),(31,.i j.2.2.2.1.length),(7,.o (lQ 155 (lx155 j) 0)),(4,.q 0 0),(1,.i p1)],[(0,.bx 44 [lI 0,lN,lN])],1⟩) ?_ fun N=>?_
      · rintro u rfl;dsimp only at hm;exact .blkE (.blkN (.seqN (.reg (.bi R (.mv R (.nil ((H _ (oj hm)).sub [] R)))))))
      refine .cutU (z:= .ret) (fun g=> .inr (g)=x) (fun (g:List Int×List Int)=>⟨[(6,.i 0),(5,.b false),(4,.q 0 0)],[(0,.bx 44 [lI 1,lH 1,lF qI g.2]),(1,rwI g.1)],2⟩) ?_ fun P=>?_
      · rintro g rfl;dsimp only at hm;exact .blkR (.blkR (.seqR (.seqR ((M _ (l _ (oj hm))).sub [] R))))
      refine .iter (fun (s:Int)=>⟨[(40,.i s),(39,.i p.length),(38,.h 0),(8,.i e),(32,.i e),(31,.i j.2.2.2.1.length),(7,.o (lQ 155 (lx155 j) 0)),(4,.q 1 0),(1,.i p1)],[(0,ROW (rL qI) 32 p),(1,.bx 44 [lI 0,lN,lN])],2⟩) D [(0,1),(1,0)] R ?_;intro s W hm I m;refine .sr (.bi R (.ns (.seq ?_)));refine .cc hm R (fun hm=>?_) fun hm=> .exit (.seqX (.seqX ((N _ (m _ (oj hm))).sub [(0,1)] R)));refine .skip (.seqN (.seq (.block (.sr (bS hm fun U k hm=> .op (O.ir sl53 Z R R R k R) R (.op (O.ld nag32 Z R (.R R k lv32) R R) R (.an R (.sr (.mv R (.mv R (.mv R (bS hm fun Y F hm=> .c0 (yaV F) cf93 R (.no R (.ns ?_))))))))))))));exact .cc hm R (fun hm=> .sr (.mv R (.op (O.nc .Q Z R R) R (.fq yaO R (.lg (lx141 j.2.2.1) ag141 R .Q R (.mv R (bS hm fun T G hm=> .op (O.ca (r':= .h 2) [2] [(0,rwI T)] (some 3) (y8N G) cf81 R R Z R R R R ⟨⟨_,R,I4⟩,trivial⟩ I3 R) R (.mv R (.bu [lI 1,lH 2,lF qI U] pl44 R (.st ag44.sz R (.sa R (.an R (.ret (.blkR (.seqR (.seqR ((P _ (m _ (oj hm))).sub [(0,1),(1,2)] R))))))))))))))))) fun hm=> .skip (.blkN (.seqN (.reg (.bi R (.mv R (.nil ((I _ (oj hm)).sub [] R)))))))
   · intro K;rcases yEt (decide (p1<2)) with hc|hc
     · refine .know (d:=22) R hc ?_;exact .sk R (.sk R (.pT R ((K true (orT hc).symm).sub [] R)))
     · refine .know (d:=22) R hc ?_;exact .mg R (.bg R (.pF R ((K (decide (p1>3)) (orF hc).symm).sub [] R)))
def y4d(p0:List Int)(p1:Int→Option Bool)(a:Int):Option (Int⊕(Unit⊕Int)):=
 if decide (a<(p0.length:Int)) then
  (idx p0 a).bind fun c=>
  (p1 c).bind fun b=>
  if b then
   some (.inr (.inr (a)))
  else
   some (.inl (W (a+1)))
 else
  some (.inr (.inl ()))
def y6W(p0:List Int)(p1:Int→Option Bool):Option Int:=
 (iter (y4d p0 p1) 0).bind fun a=>
 match a with
 | .inl c=>
  some (-1)
 | .inr (b)=>
  some b
theorem ya9{p1:Int→Option Bool}{r:Int}(hm:y6W p0 p1=some r):
  F0 136 [.f qI p0,.o (lW Tryz.prog (fun (x:Int)=> [.i x]) (fun (r:Bool)=> .b r) p1)] [] (.i r) []:=by
 refine Fw.mk2 Tryz.func136 Tryz.ntmps136 R (fun C=>?_) R;refine .sr (.an R (.seq (.sr (.mv R (.ln sl32 R (.mv R (.ns (.block (bS hm fun m k hm=>?_)))))))));refine .cutU (z:= .exit 0) (fun h=> .inl h=m) (fun (h:Unit)=>⟨[],[],0⟩) ?_ fun K8=>?_
 ·rintro h rfl;dsimp only at hm;refine .blkE (.seqN (.sr (.an R (.ret ?_))));cases hm;exact .rr [] Tryz.results136 (.tmp R .nil) R I3 trivial
 refine .cutU (z:= .ret) (fun a=> .inr (a)=m) (fun (a:Int)=>⟨[(4,.i a)],[],0⟩) ?_ fun j=>?_
 ·rintro a rfl;dsimp only at hm;refine .blkR (.seqR ?_);cases hm;exact .rr [] Tryz.results136 (.tmp R .nil) R I3 trivial
 refine .iter (fun (d:Int)=>⟨[(8,.i d),(7,.i p0.length),(0,.f qI p0),(1,.o (lW Tryz.prog (fun (x:Int)=> [.i x]) (fun (r:Bool)=> .b r) p1))],[],0⟩) k [] R ?_;intro d p hm l c;refine .sr (.bi R (.ns (.seq ?_)));refine .cc hm R (fun hm=>?_) fun hm=> .exit (.seqX (.seqX ((K8 _ (c _ (oj hm))).sub [] R)));refine .skip (.seqN (.seq (.block (.sr (.mv R (.an R (.sr (.mv R (.mv R (.mv R (bS hm fun n g hm=> .ix sl32 g R (.le nag3 lv3 R (bS hm fun q e hm=>?_)))))))))))));refine .op (O.fv (y:=n) R R R Z R e R R) R ?_;exact .ns (.cc hm R (fun hm=> .sr (.mv R (.an R (.ret (.blkR (.seqR (.seqR ((j _ (c _ (oj hm))).sub [] R)))))))) fun hm=> .skip (.blkN (.seqN (.reg (.bi R (.mv R (.nil ((l _ (oj hm)).sub [] R))))))))
def y1C(b:Int×List Int)(a:List Int):Option ((Int×List Int)⊕(List Int)):=
 some (.inl (W (b.1+1),a))
def y2N(p0:Int)(a:Int×List Int):Option ((Int×List Int)⊕(List Int)):=
 if decide (a.1<5) then
  (ng a.1).bind fun _=>
  if((IntKind.u8.wrap (((BitVec.ofInt 8 (p0.fdiv (2 ^ (min a.1.toNat 8))) &&& BitVec.ofInt 8 1).toNat:Int)))==1) then
   (app a.2 ([a.1]:List Int)).bind fun b=>
   y1C a b
  else
   y1C a a.2
 else
  some (.inr a.2)
def y1u(p0:Int):Option (List Int):=
 (iter (y2N p0) (0,([]:List Int))).bind fun a=>
 some a
theorem y5d{p0:Int}{r:List Int}(hm:y1u p0=some r):
  F0 144 [.o (lV (.int .u8 p0))] [] (.h 0) [rwI r]:=by
 refine Fw.mk2 Tryz.func144 Tryz.ntmps144 R (fun C=>?_) R;refine .sr (.an R (.sr (.an R (.seq (.sr (.an R (.block (bS hm fun f l hm=>?_))))))));refine .cut1 (z:= .exit 0) f (fun (f:List Int)=>⟨[(3,.h 0)],[(0,rwI f)],1⟩) ?_ fun j=>?_
 ·skip
  refine .blkE (.seqN (.sr (.mv R (.an R (.ret ?_)))));cases hm;exact .rr [0] Tryz.results144 (.tmp R .nil) R I3 ⟨⟨_,R,I4⟩,trivial⟩
 refine .nlg qI 3 3 0 R R (.iter (fun (a:Int×List Int)=>⟨[(4,.i a.1),(3,.h 0),(0,.o (lV (.int .u8 p0)))],[(0,rwI a.2)],1⟩) l [] R ?_);intro a g hm p m;refine .seq (.sr (.mv R (.bi R (.ns ?_))));refine .cc hm R (fun hm=>?_) fun hm=> .exit (.seqX (.seqX ((j _ (m _ (oj hm))).sub [] R)));refine .skip (.seqN ?_);refine .join1 (fun (b:List Int)=>y1C a b=some g) (fun b=>⟨[(3,.h 0),(4,.i a.1),(0,.o (lV (.int .u8 p0)))],[(0,rwI b)],1⟩) ?_ ?_
 ·intro b hm;exact .reg (.mv R (.bi R (.sa R (.nil ((p _ (oj hm)).sub [] R)))))
 ·intro d;refine .block (.sr (.mv R (.mv R (bS hm fun _ q hm=> .op (O.shr Z R R (ydu q) R) R (.bi R (.bi R (.ns ?_)))))));exact .cc hm R (fun hm=> .reg (.mv R (.mv R (.bf (r:=qI) ([a.1]:List Int) bs32 R (.c .k .n) R (bS hm fun s e hm=> .op (O.ap 1 Tryz.underlying32 el3 R R Z R R (.fr R) e R) R (.sa R (.nil (.blkN ((d _ hm).sub [(0,1)] R))))))))) fun hm=> .skip (.blkN ((d _ hm).sub [] R))
def y2L(p0:List Int):Option AutT:=
 (app ([]:List Int) p0).bind fun a=>
 some (a,0,([]:List Int),([]:List (Int×Int×Int)))
theorem y6I{r:AutT}(hm:y2L p0=some r):
  F0 194 [.f qI p0] [] (.g [lH 0,lI r.2.1,lH 1,lH 2]) [rwI r.1,rwI r.2.2.1,ROW qT 124 r.2.2.2]:=by
 refine Fw.mk2 Tryz.func194 Tryz.ntmps194 R (fun C=>?_) R;refine .sr (.al 0 zz35 R (.nr (.op (O.b0O (r:=qI) 1 R bs32 R Z R) R (.mv R (bS hm fun b a hm=> .op (O.ap 2 Tryz.underlying32 el3 R R Z R R (.fr R) a R) R (.bu [lH 2,lI 0,lN,lN] pl35 R (.st ag35.sz R (.ns (.ret (.nlb qI 3 0 2 R R (.nlb qT 124 0 3 R R ?_)))))))))));cases hm;exact .rr [2,3,4] Tryz.results194 (.cell R R ag35 R .nil) R I3 ⟨⟨_,R,I4⟩,⟨_,R,I4⟩,⟨_,R,I4⟩,trivial⟩
def y4I(p0:AutT)(p1:Int)(p2:Int)(a:Int):Option (Int⊕(Unit⊕Int)):=
 if decide (a<(p0.2.2.2.length:Int)) then
  (idx p0.2.2.2 a).bind fun c=>
  (if (c.1==p1) then
   (idx p0.2.2.2 a).bind fun e=>
   some (e.2.1==p2)
  else
   some false).bind fun b=>
  if b then
   (idx p0.2.2.2 a).bind fun d=>
   some (.inr (.inr (d.2.2)))
  else
   some (.inl (W (a+1)))
 else
  some (.inr (.inl ()))
def y1x(p0:AutT)(p1:Int)(p2:Int):Option Int:=
 (iter (y4I p0 p1 p2) 0).bind fun b=>
 match b with
 | .inl c=>
  some (-1)
 | .inr (a)=>
  some a
theorem y5k{p0:AutT}{r:Int}(hm:y1x p0 p1 p2=some r):
  F0 55 [.a (lx35 p0),.i p1,.i p2] [] (.i r) []:=by
 refine Fw.mk2 Tryz.func55 Tryz.ntmps55 R (fun C=>?_) R;refine .sr (.bo 0 R (.an R (.seq (.sr (.an R (.block (bS hm fun u s hm=>?_)))))));refine .cutU (z:= .exit 0) (fun f=> .inl f=u) (fun (f:Unit)=>⟨[],[],0⟩) ?_ fun n=>?_
 ·rintro f rfl;dsimp only at hm;refine .blkE (.seqN (.sr (.an R (.ret ?_))));cases hm;exact .rr [] Tryz.results55 (.tmp R .nil) R I3 trivial
 refine .cutU (z:= .ret) (fun c=> .inr (c)=u) (fun (c:Int)=>⟨[(6,.i c)],[],0⟩) ?_ fun o=>?_
 ·rintro c rfl;dsimp only at hm;refine .blkR (.seqR ?_);cases hm;exact .rr [] Tryz.results55 (.tmp R .nil) R I3 trivial
 refine .iter (fun (e:Int)=>⟨[(7,.i e),(3,.q 0 0),(1,.i p1),(2,.i p2)],[(0,.bx 35 (lx35 p0))],1⟩) s [] R ?_;intro e w hm t j;refine .seq (.sr (.mv R (.fa yB R (.lb nag33 R (.ln sl33 R (.bi R (.ns ?_)))))));refine .cc hm R (fun hm=>?_) fun hm=> .exit (.seqX (.seqX ((n _ (j _ (oj hm))).sub [] R)));refine .skip (.seqN (.seq (.block (.sr (.fa yB R (.lb nag33 R (.mv R (bS hm fun x k hm=> .ix sl33 k R (.fe y1A R (.le nag3 lv124 R (.mv R (.bi R (.mv R (bS hm fun p eb16 hm=>?_))))))))))))));refine .cut 9 (fun (g:Bool)=>p=g) (fun g=>⟨[(32,.b g),(7,.i e),(3,.q 0 0),(1,.i p1),(2,.i p2)],[(0,.bx 35 (lx35 p0))],1⟩) ?_ ?_
 ·rintro _ rfl;exact .ns (.cc hm R (fun hm=> .sr (.fa yB R (.lb nag33 R (.mv R (bS hm fun y l hm=> .ix sl33 l R (.fe y2J R (.le nag3 lv124 R (.an R (.ret (.blkR (.seqR (.seqR ((o _ (j _ (oj hm))).sub [] R))))))))))))) fun hm=> .skip (.blkN (.seqN (.reg (.mv R (.bi R (.sa R (.nil ((t _ (oj hm)).sub [] R)))))))))
 ·intro h;rcases ifS eb16 with ⟨hc,hm⟩|⟨hc,hm⟩
  ·refine .know (d:=23) R hc ?_;exact .fag yB R (.lbg nag33 R (.mg R (bS hm fun v m hm=> .op (O.ix sl33 (Gu.mk R R) R R m R) R (.op (O.faE y2I (Gu.mk R R) R R) R (.leg nag3 lv124 R (.mg R (.bg R (.pT R ((h (v.2.1==p2) (oj hm)).sub [] R)))))))))
  ·refine .know (d:=23) R hc ?_;exact .sk R (.sk R (.sk R (.sk R (.sk R (.sk R (.sk R (.sk R (.pF R ((h false (oj hm)).sub [] R)))))))))
def y5l(p0:List Int)(p1:Int)(a:Int):Option (Int⊕(Unit⊕Unit)):=
 if decide (a<(p0.length:Int)) then
  (idx p0 a).bind fun b=>
  if(b==p1) then
   some (.inr (.inr (())))
  else
   some (.inl (W (a+1)))
 else
  some (.inr (.inl ()))
def y4S(p0:List Int)(p1:Int):Option Bool:=
 (iter (y5l p0 p1) 0).bind fun a=>
 match a with
 | .inl b=>
  some false
 | .inr (c)=>
  some true
theorem y8q{r:Bool}(hm:y4S p0 p1=some r):
  F0 229 [.f qI p0,.i p1] [] (.b r) []:=by
 refine Fw.mk2 Tryz.func229 Tryz.ntmps229 R (fun C=>?_) R;refine .sr (.an R (.seq (.sr (.an R (.block (bS hm fun k g hm=>?_))))));refine .cutU (z:= .exit 0) (fun d=> .inl d=k) (fun (d:Unit)=>⟨[],[],0⟩) ?_ fun K6=>?_
 ·rintro d rfl;dsimp only at hm;refine .blkE (.seqN (.sr (.an R (.ret ?_))));cases hm;exact .rr [] Tryz.results229 (.tmp R .nil) R I3 trivial
 refine .cutU (z:= .ret) (fun e=> .inr (e)=k) (fun (e:Unit)=>⟨[(4,.b true)],[],0⟩) ?_ fun K8=>?_
 ·rintro e rfl;dsimp only at hm;refine .blkR (.seqR ?_);cases hm;exact .rr [] Tryz.results229 (.tmp R .nil) R I3 trivial
 refine .iter (fun (c:Int)=>⟨[(5,.i c),(0,.f qI p0),(1,.i p1)],[],0⟩) g [] R ?_;intro c l hm j a;refine .seq (.sr (.mv R (.mv R (.ln sl32 R (.bi R (.ns ?_))))));refine .cc hm R (fun hm=>?_) fun hm=> .exit (.seqX (.seqX ((K6 _ (a _ (oj hm))).sub [] R)));refine .skip (.seqN (.seq (.block (.sr (.mv R (.mv R (bS hm fun m h hm=> .ix sl32 h R (.le nag3 lv3 R (.mv R (.bi R (.ns ?_)))))))))));exact .cc hm R (fun hm=> .sr (.an R (.ret (.blkR (.seqR (.seqR ((K8 _ (a _ (oj hm))).sub [] R))))))) fun hm=> .skip (.blkN (.seqN (.reg (.mv R (.bi R (.sa R (.nil ((j _ (oj hm)).sub [] R))))))))
def y2X(a:Int×List Int)(b:List Int):Option ((Int×List Int)⊕(List Int)):=
 some (.inl (W (a.1+1),b))
def y2Y(p0:AutT)(c:Int×List Int)(a:Int×List Int):Option ((Int×List Int)⊕(List Int)):=
 if decide (a.1<(p0.1.length:Int)) then
  (idx a.2 c.1).bind fun f=>
  (idx p0.1 a.1).bind fun g=>
  (y1x p0 f g).bind fun b=>
  (if decide (b≥0) then
   (y4S a.2 b).bind fun e=>
   some (!e)
  else
   some false).bind fun d=>
  if d then
   (app a.2 ([b]:List Int)).bind fun h=>
   y2X a h
  else
   y2X a a.2
 else
  some (.inr a.2)
def y2Z(p0:AutT)(a:Int×List Int):Option ((Int×List Int)⊕(List Int)):=
 if decide (a.1<(a.2.length:Int)) then
  (iter (y2Y p0 a) (0,a.2)).bind fun b=>
  some (.inl (W (a.1+1),b))
 else
  some (.inr a.2)
def y4l(p0:AutT)(b:List Int):Option (List Int):=
 (iter (y2Z p0) (0,b)).bind fun a=>
 some a
def y5F(p0:AutT):Option (List Int):=
 if decide (p0.2.1>0) then
  (app ([]:List Int) ([0]:List Int)).bind fun a=>
  y4l p0 a
 else
  y4l p0 ([]:List Int)
theorem yah{p0:AutT}{r:List Int}(hm:y5F p0=some r):
  F0 228 [.a (lx35 p0)] [] (.h 0) [rwI r]:=by
 refine Fw.mk2 Tryz.func228 Tryz.ntmps228 R (fun C=>?_) R;refine .sr (.bo 0 R (.an R (.sr (.an R ?_))));refine .join1 (fun (u:List Int)=>y4l p0 u=some r) (fun u=>⟨[(3,.h 0),(1,.q 1 0)],[(0,rwI u),(1,.bx 35 (lx35 p0))],2⟩) ?_ ?_
 ·intro u hm;refine .seq (.sr (.an R (.block (bS hm fun o y hm=>?_))));refine .cut1 (z:= .exit 0) o (fun (o:List Int)=>⟨[(3,.h 0)],[(0,rwI o)],1⟩) ?_ fun P=>?_
  ·skip
   refine .blkE (.seqN (.sr (.mv R (.an R (.ret ?_)))));cases hm;exact .rr [0] Tryz.results228 (.tmp R .nil) R I3 ⟨⟨_,R,I4⟩,trivial⟩
  refine .iter (fun (f:Int×List Int)=>⟨[(4,.i f.1),(3,.h 0),(1,.q 1 0)],[(0,rwI f.2),(1,.bx 35 (lx35 p0))],2⟩) y [] R ?_;intro f U hm M K;refine .seq (.sr (.mv R (.mv R (.lh sl32 R (.bi R (.ns ?_))))));refine .cc hm R (fun hm=>?_) fun hm=> .exit (.seqX (.seqX ((P _ (K _ (oj hm))).sub [] R)));refine .skip (.seqN (.seq (.block (.sr (.an R (.block (bS hm fun p D hm=>?_)))))));refine .cut1 (z:= .exit 2) p (fun (p:List Int)=>⟨[(4,.i f.1),(3,.h 0),(1,.q 1 0)],[(0,rwI p),(1,.bx 35 (lx35 p0))],2⟩) ?_ fun Q=>?_
  ·skip
   exact .blkE (.blkN (.seqN (.reg (.mv R (.bi R (.sa R (.nil ((M _ (oj hm)).sub [] R))))))))
  refine .iter (fun (e:Int×List Int)=>⟨[(5,.i e.1),(4,.i f.1),(3,.h 0),(1,.q 1 0)],[(0,rwI e.2),(1,.bx 35 (lx35 p0))],2⟩) D [] R ?_;intro e v hm N L;refine .seq (.sr (.mv R (.fa yz R (.lb nag32 R (.ln sl32 R (.bi R (.ns ?_)))))));refine .cc hm R (fun hm=>?_) fun hm=> .exit (.seqX (.seqX ((Q _ (L _ (oj hm))).sub [] R)));refine .skip (.seqN ?_);refine .join1 (fun (g:List Int)=>y2X e g=some v) (fun g=>⟨[(3,.h 0),(5,.i e.1),(4,.i f.1),(1,.q 1 0)],[(0,rwI g),(1,.bx 35 (lx35 p0))],2⟩) ?_ ?_
  ·intro g hm;exact .reg (.mv R (.bi R (.sa R (.nil ((N _ (oj hm)).sub [] R)))))
  ·intro j;refine .block (.seq ?_);refine .sub (τ:=⟨[(5,.i e.1),(4,.i f.1),(3,.h 0),(1,.q 1 0)],[(0,rwI e.2),(1,.bx 35 (lx35 p0))],2⟩) ?_ [] R;refine bS hm fun V m hm=>bS hm fun W H hm=>bS hm fun s F hm=>?_;refine .drw [(2,[]),(2,[]),(2,[]),(2,[oF,oT,oT]),(2,fA 1 (tT 3)),(2,[]),(2,[oF,oF,oF,oF,oF,oT]),(2,[]),(2,fA 5 (tT 3)),(2,fA 5 (tT 4)),(2,tT 10),(2,tT 11)] [_,_,_,_,_,_,_,_,_,_,_,_] ⟨[(6,.i s),(5,.i e.1),(4,.i f.1),(3,.h 0),(1,.q 1 0)],[(0,rwI e.2),(1,.bx 35 (lx35 p0))],2⟩ ⟨O.lg (l':=(lx35 p0)) ag35 Z R (.B R) R R R,O.mv Z R R,O.mv Z R R,O.ir sl32 Z R R R m R,O.ld nag3 Z R (.R R m lv3) R R,O.faP yz Z R R,O.ld nag32 Z R (.B R) R R,O.mv Z R R,O.ix sl32 Z R R H R,O.ld nag3 Z R (.E lv3) R R,O.ca0 (y5k F) cf55 R R Z R R R,O.as Z R R,trivial⟩ (by kernel_rfl) R ?_;refine .seqN (.sr (.mv R (.bi R (.mv R (bS hm fun S eb59 hm=>?_)))));refine .cut 5 (fun (t:Bool)=>S=t) (fun t=>⟨[(44,.b t),(6,.i s),(5,.i e.1),(4,.i f.1),(3,.h 0),(1,.q 1 0)],[(0,rwI e.2),(1,.bx 35 (lx35 p0))],2⟩) ?_ ?_
   ·rintro _ rfl;exact .ns (.cc hm R (fun hm=> .reg (.mv R (.mv R (.bf (r:=qI) ([s]:List Int) bs32 R (.c .k .n) R (bS hm fun X I hm=> .op (O.ap 2 Tryz.underlying32 el3 R R Z R R (.fr R) I R) R (.sa R (.nil (.blkN ((j _ hm).sub [(0,2)] R))))))))) fun hm=> .skip (.blkN ((j _ hm).sub [] R)))
   ·intro w;rcases ifS eb59 with ⟨hc,hm⟩|⟨hc,hm⟩
    ·refine .know (d:=39) R hc ?_;exact .mg R (.mg R (bS hm fun T G hm=> .op (O.caZ (y8q G) cf229 R R (Gu.mk R R) R ⟨⟨R,.hr R,trivial⟩,⟨R,LnL.rf⟩,trivial⟩ (fun _ _ _ _ _ h=>h) R) R (.op (O.not (Gu.mk R R) R R) R (.pT R ((w (!T) (oj hm)).sub [] R)))))
    ·refine .know (d:=39) R hc ?_;exact .sk R (.sk R (.sk R (.sk R (.pF R ((w false (oj hm)).sub [] R)))))
 ·intro x;refine .sr (.fa y1W R (.lb nag3 R (.bi R (.ns ?_))));exact .cc hm R (fun hm=> .reg (.mv R (.bf (r:=qI) ([0]:List Int) bs32 R (.c .k .n) R (bS hm fun Y J hm=> .op (O.apN (r:=qI) 1 Tryz.underlying32 el3 R R Z R (.fr R) J R) R (.sa R (.nil ((x _ hm).sub [(0,1),(1,0)] R))))))) fun hm=> .skip (.nlg qI 3 3 0 R R ((x _ hm).sub [(0,1),(1,0)] R))
def y4m(p0:List Int)(p1:Int)(a:Int):Option (Int⊕(Unit⊕Int)):=
 if decide (a<(p0.length:Int)) then
  (idx p0 a).bind fun b=>
  if(b==p1) then
   some (.inr (.inr (a)))
  else
   some (.inl (W (a+1)))
 else
  some (.inr (.inl ()))
def y5G(p0:List Int)(p1:Int):Option Int:=
 (iter (y4m p0 p1) 0).bind fun a=>
 match a with
 | .inl c=>
  some (-1)
 | .inr (b)=>
  some b
theorem yai{r:Int}(hm:y5G p0 p1=some r):
  F0 230 [.f qI p0,.i p1] [] (.i r) []:=by
 refine Fw.mk2 Tryz.func230 Tryz.ntmps230 R (fun C=>?_) R;refine .sr (.an R (.seq (.sr (.an R (.block (bS hm fun j g hm=>?_))))));refine .cutU (z:= .exit 0) (fun e=> .inl e=j) (fun (e:Unit)=>⟨[],[],0⟩) ?_ fun K7=>?_
 ·rintro e rfl;dsimp only at hm;refine .blkE (.seqN (.sr (.an R (.ret ?_))));cases hm;exact .rr [] Tryz.results230 (.tmp R .nil) R I3 trivial
 refine .cutU (z:= .ret) (fun a=> .inr (a)=j) (fun (a:Int)=>⟨[(4,.i a)],[],0⟩) ?_ fun K9=>?_
 ·rintro a rfl;dsimp only at hm;refine .blkR (.seqR ?_);cases hm;exact .rr [] Tryz.results230 (.tmp R .nil) R I3 trivial
 refine .iter (fun (c:Int)=>⟨[(5,.i c),(0,.f qI p0),(1,.i p1)],[],0⟩) g [] R ?_;intro c k hm h b;refine .seq (.sr (.mv R (.mv R (.ln sl32 R (.bi R (.ns ?_))))));refine .cc hm R (fun hm=>?_) fun hm=> .exit (.seqX (.seqX ((K7 _ (b _ (oj hm))).sub [] R)));refine .skip (.seqN (.seq (.block (.sr (.mv R (.mv R (bS hm fun l d hm=> .ix sl32 d R (.le nag3 lv3 R (.mv R (.bi R (.ns ?_)))))))))));exact .cc hm R (fun hm=> .sr (.mv R (.an R (.ret (.blkR (.seqR (.seqR ((K9 _ (b _ (oj hm))).sub [] R)))))))) fun hm=> .skip (.blkN (.seqN (.reg (.mv R (.bi R (.sa R (.nil ((h _ (oj hm)).sub [] R))))))))
def y1N(a:Int×EdgL)(b:List (Int×Int×Int)):Option ((Int×EdgL)⊕EdgL):=
 some (.inl (W (a.1+1),b))
def y1O(p0:AutT)(d:List Int)(b:Int×List Int×EdgL)(a:Int×EdgL):Option ((Int×EdgL)⊕EdgL):=
 if decide (a.1<(p0.1.length:Int)) then
  (idx d b.1).bind fun f=>
  (idx p0.1 a.1).bind fun g=>
  (y1x p0 f g).bind fun c=>
  if decide (c≥0) then
   (idx p0.1 a.1).bind fun h=>
   (y5G d c).bind fun e=>
   (app a.2 ([(b.1,h,e)]:List (Int×Int×Int))).bind fun i=>
   y1N a i
  else
   y1N a a.2
 else
  some (.inr a.2)
def y1P(p0:AutT)(d:List Int)(a:Int×List Int×EdgL)(b:List Int):Option ((Int×List Int×EdgL)⊕(List Int×EdgL)):=
 (iter (y1O p0 d a) (0,a.2.2)).bind fun c=>
 some (.inl (W (a.1+1),b,c))
def y3e(p0:AutT)(b:List Int)(a:Int×List Int×EdgL):Option ((Int×List Int×EdgL)⊕(List Int×EdgL)):=
 if decide (a.1<(b.length:Int)) then
  (idx b a.1).bind fun d=>
  (y4S p0.2.2.1 d).bind fun c=>
  if c then
   (app a.2.1 ([a.1]:List Int)).bind fun e=>
   y1P p0 b a e
  else
   y1P p0 b a a.2.1
 else
  some (.inr a.2)
def y4e(p0:AutT):Option AutT:=
 (y5F p0).bind fun b=>
 (y2L p0.1).bind fun c=>
 (iter (y3e p0 b) (0,c.2.2)).bind fun a=>
 some (c.1,(b.length:Int),a)
theorem y9s{p0:AutT}{r:AutT}(hm:y4e p0=some r):
  F0 195 [.a (lx35 p0)] [] (.g [lH 0,lI r.2.1,lH 1,lH 2]) [rwI r.1,rwI r.2.2.1,ROW qT 124 r.2.2.2]:=by
 refine Fw.mk2 Tryz.func195 Tryz.ntmps195 R (fun C=>?_) R;refine .sr (.bo 0 R (.al 1 zz35 R (.nr (.lg (lx35 p0) ag35 R (.B R) R (bS hm fun e a0 hm=> .op (O.ca (r':= .h 2) [2] [(0,rwI e)] (some 3) (yah a0) cf228 R R Z R R R R ⟨⟨_,R,I4⟩,trivial⟩ I3 R) R (.an R (.sr (.fa yz R (.lb nag32 R (bS hm fun m a1 hm=> .op (O.ca (r':= .g [lH 3,lI m.2.1,lH 4,lH 5]) [3,4,5] [(0,rwI m.1),(1,rwI m.2.2.1),(2,ROW qT 124 m.2.2.2)] (some 6) (y6I a1) cf194 R R Z R R R R ⟨⟨_,R,I4⟩,⟨_,R,I4⟩,⟨_,R,I4⟩,trivial⟩ I3 R) R (.al 6 zz35 R (.st ag35.sz R (.nr (.mv R (.lh sl32 R (.fa y1W R (.st nag3.sz R (.ns (.seq (.sr (.an R (.block (bS hm fun s I hm=>?_)))))))))))))))))))))));refine .cut1 (z:= .exit 0) s (fun (s:List Int×EdgL)=>⟨[(4,.q 0 0),(2,.q 4 0)],[(0,.bx 35 [lH 1,lI e.length,lH 2,lH 3]),(1,rwI m.1),(2,rwI s.1),(3,ROW qT 124 s.2),(4,.bx 35 [lN,lI 0,lN,lN])],5⟩) ?_ fun X=>?_
 ·skip
  refine .blkE (.seqN (.sr (.lg [lH 1,lI e.length,lH 2,lH 3] ag35 R (.B R) R (.st ag35.sz R (.ns (.ret ?_))))));cases hm;exact .rr [1,2,3] Tryz.results195 (.cell R R ag35 R .nil) R I3 ⟨⟨_,R,I4⟩,⟨_,R,I4⟩,⟨_,R,I4⟩,trivial⟩
 refine .iter (fun (d:Int×List Int×EdgL)=>⟨[(5,.i d.1),(4,.q 0 0),(3,.h 4),(2,.q 5 0),(1,.q 6 0)],[(0,.bx 35 [lH 1,lI e.length,lH 2,lH 3]),(1,rwI m.1),(2,rwI d.2.1),(3,ROW qT 124 d.2.2),(4,rwI e),(5,.bx 35 [lN,lI 0,lN,lN]),(6,.bx 35 (lx35 p0))],7⟩) I [(0,6),(1,3),(2,4),(3,5),(4,2),(5,1),(6,0)] R ?_;intro d y hm V T;refine .seq (.sr (.mv R (.mv R (.lh sl32 R (.bi R (.ns ?_))))));refine .cc hm R (fun hm=>?_) fun hm=> .exit (.seqX (.seqX ((X _ (T _ (oj hm))).sub [(4,5)] R)));refine .skip (.seqN (.seq (.block ?_)));refine .join1 (fun (j:List Int)=>y1P p0 e d j=some y) (fun j=>⟨[(5,.i d.1),(4,.q 0 0),(3,.h 4),(2,.q 5 0),(1,.q 6 0)],[(0,.bx 35 [lH 1,lI e.length,lH 2,lH 3]),(1,rwI m.1),(2,rwI j),(3,ROW qT 124 d.2.2),(4,rwI e),(5,.bx 35 [lN,lI 0,lN,lN]),(6,.bx 35 (lx35 p0))],7⟩) ?_ ?_
 ·intro j hm;refine .sr (.an R (.block (bS hm fun x J hm=>?_)));refine .cut1 (z:= .exit 2) x (fun (x:EdgL)=>⟨[(5,.i d.1),(4,.q 0 0),(3,.h 4),(2,.q 5 0),(1,.q 6 0)],[(0,.bx 35 [lH 1,lI e.length,lH 2,lH 3]),(1,rwI m.1),(2,rwI j),(3,ROW qT 124 x),(4,rwI e),(5,.bx 35 [lN,lI 0,lN,lN]),(6,.bx 35 (lx35 p0))],7⟩) ?_ fun Y=>?_
  ·skip
   exact .blkE (.blkN (.seqN (.reg (.mv R (.bi R (.sa R (.nil ((V _ (oj hm)).sub [] R))))))))
  refine .iter (fun (f:Int×EdgL)=>⟨[(6,.i f.1),(5,.i d.1),(4,.q 0 0),(3,.h 4),(2,.q 5 0),(1,.q 6 0)],[(0,.bx 35 [lH 1,lI e.length,lH 2,lH 3]),(1,rwI m.1),(2,rwI j),(3,ROW qT 124 f.2),(4,rwI e),(5,.bx 35 [lN,lI 0,lN,lN]),(6,.bx 35 (lx35 p0))],7⟩) J [] R ?_;intro f D hm W U;refine .seq (.sr (.mv R (.fa yz R (.lb nag32 R (.ln sl32 R (.bi R (.ns ?_)))))));refine .cc hm R (fun hm=>?_) fun hm=> .exit (.seqX (.seqX ((Y _ (U _ (oj hm))).sub [] R)));refine .skip (.seqN ?_);refine .join1 (fun (o:List (Int×Int×Int))=>y1N f o=some D) (fun o=>⟨[(6,.i f.1),(5,.i d.1),(4,.q 0 0),(3,.h 4),(2,.q 5 0),(1,.q 6 0)],[(0,.bx 35 [lH 1,lI e.length,lH 2,lH 3]),(1,rwI m.1),(2,rwI j),(3,ROW qT 124 o),(4,rwI e),(5,.bx 35 [lN,lI 0,lN,lN]),(6,.bx 35 (lx35 p0))],7⟩) ?_ ?_
  ·intro o hm;exact .reg (.mv R (.bi R (.sa R (.nil ((W _ (oj hm)).sub [] R)))))
  ·intro u;refine .block (.seq ?_);refine .sub (τ:=⟨[(6,.i f.1),(5,.i d.1),(4,.q 0 0),(3,.h 4),(2,.q 5 0),(1,.q 6 0)],[(0,.bx 35 [lH 1,lI e.length,lH 2,lH 3]),(1,rwI m.1),(2,rwI j),(3,ROW qT 124 f.2),(4,rwI e),(5,.bx 35 [lN,lI 0,lN,lN]),(6,.bx 35 (lx35 p0))],7⟩) ?_ [] R;refine bS hm fun a4 v hm=>bS hm fun a5 N hm=>bS hm fun F K hm=>?_;refine .drw [(7,[]),(7,[]),(7,[]),(7,[oF,oT,oT]),(7,fA 1 (tT 3)),(7,[]),(7,[oF,oF,oF,oF,oF,oT]),(7,[]),(7,fA 5 (tT 3)),(7,fA 5 (tT 4)),(7,tT 10),(7,tT 11)] [_,_,_,_,_,_,_,_,_,_,_,_] ⟨[(7,.i F),(6,.i f.1),(5,.i d.1),(4,.q 0 0),(3,.h 4),(2,.q 5 0),(1,.q 6 0)],[(0,.bx 35 [lH 1,lI e.length,lH 2,lH 3]),(1,rwI m.1),(2,rwI j),(3,ROW qT 124 f.2),(4,rwI e),(5,.bx 35 [lN,lI 0,lN,lN]),(6,.bx 35 (lx35 p0))],7⟩ ⟨O.lg (l':=(lx35 p0)) ag35 Z R (.B R) R R R,O.mv Z R R,O.mv Z R R,O.ir sl32 Z R R R v R,O.ld nag3 Z R (.R R v lv3) R R,O.faP yz Z R R,O.ld nag32 Z R (.B R) R R,O.mv Z R R,O.ix sl32 Z R R N R,O.ld nag3 Z R (.E lv3) R R,O.ca0 (y5k K) cf55 R R Z R R R,O.as Z R R,trivial⟩ (by kernel_rfl) R ?_;refine .seqN (.sr (.mv R (.bi R (.ns ?_))));refine .cc hm R (fun hm=>?_) fun hm=> .skip (.blkN ((u _ hm).sub [] R));refine .sub (τ:=⟨[(7,.i F),(6,.i f.1),(5,.i d.1),(4,.q 0 0),(3,.h 4),(2,.q 5 0),(1,.q 6 0)],[(0,.bx 35 [lH 1,lI e.length,lH 2,lH 3]),(1,rwI m.1),(2,rwI j),(3,ROW qT 124 f.2),(4,rwI e),(5,.bx 35 [lN,lI 0,lN,lN]),(6,.bx 35 (lx35 p0))],7⟩) ?_ [] R;refine bS hm fun H P hm=>bS hm fun G L hm=>bS hm fun a3 Q hm=>?_;refine .drg 8 [(7,[]),(7,[oT]),(7,[]),(7,[]),(7,[oF,oF,oF,oT]),(7,[]),(7,fA 3 (tT 3)),(7,fA 3 (tT 4)),(7,[]),(7,[]),(7,[oF,oF,oF,oF,oF,oF,oF,oF,oT,oT]),(7,fA 2 (tT 9)),(7,fA 2 (tT 10)),(7,tT 13),(8,tT 14),(8,tT 15)] [_,_,_,_,_,_,_,_,_,_,_,_,_,_,_,_] ⟨[(6,.i f.1),(5,.i d.1),(4,.q 0 0),(3,.h 4),(2,.q 5 0),(1,.q 6 0)],[(0,.bx 35 [lH 1,lI e.length,lH 2,lH 7]),(1,rwI m.1),(2,rwI j),(7,ROW qT 124 a3),(4,rwI e),(5,.bx 35 [lN,lI 0,lN,lN]),(6,.bx 35 (lx35 p0))],8⟩ ⟨O.faP yB Z R R,O.ld nag33 Z R (.B R) R R,O.mv Z R R,O.faP yz Z R R,O.ld nag32 Z R (.B R) R R,O.mv Z R R,O.ix sl32 Z R R P R,O.ld nag3 Z R (.E lv3) R R,O.mv Z R R,O.mv Z R R,O.caZ (yai L) cf230 R R Z R ⟨⟨R,.hr R,trivial⟩,⟨R,LnL.rf⟩,trivial⟩ (fun _ _ _ _ _ h=>h) R,O.bu (l:=[lI d.1,lI H,lI G]) pl124 R Z R R R,O.bsF (r:=qT) (zs:=([(d.1,H,G)]:List (Int×Int×Int))) bs33 R R Z R R R (.c (.p .k (.p .k .k)) .n) R R R,O.ap 7 Tryz.underlying33 el124 R R Z R R (.fr R) Q R,O.faP yB Z R R,O.st nag33.sz Z R R R R R,trivial⟩ (by kernel_rfl) R ?_;exact .blkN ((u _ hm).sub [(3,7)] R)
 ·intro t;refine .seq ?_;refine .sub (τ:=⟨[(5,.i d.1),(4,.q 0 0),(3,.h 4),(2,.q 5 0),(1,.q 6 0)],[(0,.bx 35 [lH 1,lI e.length,lH 2,lH 3]),(1,rwI m.1),(2,rwI d.2.1),(3,ROW qT 124 d.2.2),(4,rwI e),(5,.bx 35 [lN,lI 0,lN,lN]),(6,.bx 35 (lx35 p0))],7⟩) ?_ [] R;refine bS hm fun a6 w hm=>bS hm fun a2 M hm=>?_;refine .drw [(7,[]),(7,[oT]),(7,[]),(7,[]),(7,[oF,oF,oT,oT]),(7,fA 2 (tT 3)),(7,tT 6)] [_,_,_,_,_,_,_] ⟨[(28,.b a2),(5,.i d.1),(4,.q 0 0),(3,.h 4),(2,.q 5 0),(1,.q 6 0)],[(0,.bx 35 [lH 1,lI e.length,lH 2,lH 3]),(1,rwI m.1),(2,rwI d.2.1),(3,ROW qT 124 d.2.2),(4,rwI e),(5,.bx 35 [lN,lI 0,lN,lN]),(6,.bx 35 (lx35 p0))],7⟩ ⟨O.faP y7f Z R R,O.ld nag32 Z R (.B R) R R,O.mv Z R R,O.mv Z R R,O.ir sl32 Z R R R w R,O.ld nag3 Z R (.R R w lv3) R R,O.ca0 (y8q M) cf229 R R Z R R R,trivial⟩ (by kernel_rfl) R ?_;exact .seqN (.cc hm R (fun hm=> .reg (.fa y7f R (.lb nag32 R (.mv R (.bf (r:=qI) ([d.1]:List Int) bs32 R (.c .k .n) R (bS hm fun a7 S hm=> .op (O.ap 7 Tryz.underlying32 el3 R R Z R R (.fr R) S R) R (.fa y7f R (.st nag32.sz R (.nil ((t _ hm).sub [(2,7)] R)))))))))) fun hm=> .skip ((t _ hm).sub [] R))
def y3i(a:Int×EdgL)(b:List (Int×Int×Int)):Option ((Int×EdgL)⊕EdgL):=
 some (.inl (W (a.1+1),b))
def y4J(p0:List Int)(p1:y1d)(b:Int×List Int×EdgL)(a:Int×EdgL):Option ((Int×EdgL)⊕EdgL):=
 if((decide (a.1<(p0.length:Int)))&&(decide (a.1<5))) then
  (rng b.1 5).bind fun _=>
  (rng a.1 5).bind fun _=>
  (([p1.2.2.1.1,p1.2.2.1.2.1,p1.2.2.1.2.2.1,p1.2.2.1.2.2.2.1,p1.2.2.1.2.2.2.2,p1.2.2.2.1.1,p1.2.2.2.1.2.1,p1.2.2.2.1.2.2.1,p1.2.2.2.1.2.2.2.1,p1.2.2.2.1.2.2.2.2,p1.2.2.2.2.1.1,p1.2.2.2.2.1.2.1,p1.2.2.2.2.1.2.2.1,p1.2.2.2.2.1.2.2.2.1,p1.2.2.2.2.1.2.2.2.2,p1.2.2.2.2.2.1.1,p1.2.2.2.2.2.1.2.1,p1.2.2.2.2.2.1.2.2.1,p1.2.2.2.2.2.1.2.2.2.1,p1.2.2.2.2.2.1.2.2.2.2,p1.2.2.2.2.2.2.1,p1.2.2.2.2.2.2.2.1,p1.2.2.2.2.2.2.2.2.1,p1.2.2.2.2.2.2.2.2.2.1,p1.2.2.2.2.2.2.2.2.2.2]:List Int)[b.1.toNat*5+a.1.toNat*1]?).bind fun c=>
  (nz (W ((W (1+(W (p1.1.tmod 5))))+2))).bind fun _=>
  if decide (((W c).tmod (W ((W (1+(W (p1.1.tmod 5))))+2)))<(W (1+(W (p1.1.tmod 5))))) then
   (idx p0 a.1).bind fun d=>
   (app a.2 ([(b.1,d,((W c).tmod (W ((W (1+(W (p1.1.tmod 5))))+2))))]:List (Int×Int×Int))).bind fun e=>
   y3i a e
  else
   y3i a a.2
 else
  some (.inr a.2)
def y3j(p0:List Int)(p1:y1d)(a:Int×List Int×EdgL)(b:List Int):Option ((Int×List Int×EdgL)⊕(List Int×EdgL)):=
 (iter (y4J p0 p1 a) (0,a.2.2)).bind fun c=>
 some (.inl (W (a.1+1),b,c))
def y4K(p0:List Int)(p1:y1d)(a:Int×List Int×EdgL):Option ((Int×List Int×EdgL)⊕(List Int×EdgL)):=
 if decide (a.1<(W (1+(W (p1.1.tmod 5))))) then
  (ng a.1).bind fun _=>
  if((IntKind.u8.wrap (((BitVec.ofInt 8 (p1.2.1.fdiv (2 ^ (min a.1.toNat 8))) &&& BitVec.ofInt 8 1).toNat:Int)))==1) then
   (app a.2.1 ([a.1]:List Int)).bind fun b=>
   y3j p0 p1 a b
  else
   y3j p0 p1 a a.2.1
 else
  some (.inr a.2)
def y4n(p0:List Int)(p1:y1d):Option AutT:=
 if decide (p1.1≥250) then
  (y2L p0).bind fun d=>
  some d
 else
  (y2L p0).bind fun b=>
  (iter (y4K p0 p1) (0,b.2.2)).bind fun a=>
  (y4e (b.1,W (1+(W (p1.1.tmod 5))),a)).bind fun c=>
  some c
theorem y8c{p1:y1d}{r:AutT}(hm:y4n p0 p1=some r):
    F0 143 [.f qI p0,.a (lx26 p1)] [] (.g [lH 0,lI r.2.1,lH 1,lH 2]) [rwI r.1,rwI r.2.2.1,ROW qT 124 r.2.2.2]:=by
  refine Fw.mk2 Tryz.func143 Tryz.ntmps143 R (fun C=>?_) R;refine .sr (.bo 0 R (.al 1 zz35 R (.ns (.seq (.sr (.fa yh8 R (.lb nag5 R (.bi R (.ns ?_)))))))));refine .cc hm R (fun hm=>?_) fun hm=>?_
  ·refine .sr (.mv R (bS hm fun G a2 hm=> .op (O.ca (r':= .g [lH 2,lI G.2.1,lH 3,lH 4]) [2,3,4] [(0,rwI G.1),(1,rwI G.2.2.1),(2,ROW qT 124 G.2.2.2)] (some 5) (y6I a2) cf194 R R Z R R R R ⟨⟨_,R,I4⟩,⟨_,R,I4⟩,⟨_,R,I4⟩,trivial⟩ I3 R) R (.st ag35.sz R (.ns (.ret (.seqR ?_))))));cases hm;exact .rr [2,3,4] Tryz.results143 (.cell R R ag35 R .nil) R I3 ⟨⟨_,R,I4⟩,⟨_,R,I4⟩,⟨_,R,I4⟩,trivial⟩
  ·refine .skip (.seqN (.sr (.mv R (bS hm fun s a3 hm=> .op (O.ca (r':= .g [lH 2,lI s.2.1,lH 3,lH 4]) [2,3,4] [(0,rwI s.1),(1,rwI s.2.2.1),(2,ROW qT 124 s.2.2.2)] (some 5) (y6I a3) cf194 R R Z R R R R ⟨⟨_,R,I4⟩,⟨_,R,I4⟩,⟨_,R,I4⟩,trivial⟩ I3 R) R (.al 5 zz35 R (.st ag35.sz R (.nr (.fa yh8 R (.lb nag5 R (.op (O.rem Z R R (by decide) R) R (.op (O.cv Tryz.underlying5 Tryz.underlying3 Z R R) R (.bi R (.fa y1W R (.st nag3.sz R (.ns (.seq (.sr (.an R (.block (bS hm fun u L hm=>?_))))))))))))))))))));refine .cut1 (z:= .exit 0) u (fun (u:List Int×EdgL)=>⟨[(5,.q 0 0),(4,.q 4 0)],[(0,.bx 35 [lH 1,lI (W (1+(W (p1.1.tmod 5)))),lH 2,lH 3]),(1,rwI s.1),(2,rwI u.1),(3,ROW qT 124 u.2),(4,.bx 35 [lN,lI 0,lN,lN])],5⟩) ?_ fun a0=>?_
   · skip
     refine .blkE (.seqN (.sr (.lg [lH 1,lI (W (1+(W (p1.1.tmod 5)))),lH 2,lH 3] ag35 R (.B R) R (bS hm fun v N hm=> .op (O.caY (r':= .g [lH 5,lI v.2.1,lH 6,lH 7]) [5,6,7] [(0,rwI v.1),(1,rwI v.2.2.1),(2,ROW qT 124 v.2.2.2)] (some 8) (y9s N) cf195 R R Z R R ⟨⟨R,.hr R,.rf,.hr R,.hr R,trivial⟩,trivial⟩ R ⟨.row flr3,.row flr3,.row y4Q,trivial⟩ (fun _ _ _ _ h=>h) ⟨⟨_,R,I4⟩,⟨_,R,I4⟩,⟨_,R,I4⟩,trivial⟩ I3 R) R (.st ag35.sz R (.ns (.ret ?_)))))));cases hm;exact .rr [5,6,7] Tryz.results143 (.cell R R ag35 R .nil) R I3 ⟨⟨_,R,I4⟩,⟨_,R,I4⟩,⟨_,R,I4⟩,trivial⟩
   refine .iter (fun (e:Int×List Int×EdgL)=>⟨[(6,.i e.1),(5,.q 0 0),(4,.q 4 0),(3,.q 5 0),(0,.f qI p0)],[(0,.bx 35 [lH 1,lI (W (1+(W (p1.1.tmod 5)))),lH 2,lH 3]),(1,rwI s.1),(2,rwI e.2.1),(3,ROW qT 124 e.2.2),(4,.bx 35 [lN,lI 0,lN,lN]),(5,.bx 26 (lx26 p1))],6⟩) L [(0,5),(1,2),(2,3),(3,4),(4,1),(5,0)] R ?_;intro e H hm X U;refine .seq (.sr (.mv R (.fa y1W R (.lb nag3 R (.bi R (.ns ?_))))));refine .cc hm R (fun hm=>?_) fun hm=> .exit (.seqX (.seqX ((a0 _ (U _ (oj hm))).sub [] R)));refine .skip (.seqN (.seq (.block ?_)));refine .join1 (fun (o:List Int)=>y3j p0 p1 e o=some H) (fun o=>⟨[(6,.i e.1),(5,.q 0 0),(4,.q 4 0),(3,.q 5 0),(0,.f qI p0)],[(0,.bx 35 [lH 1,lI (W (1+(W (p1.1.tmod 5)))),lH 2,lH 3]),(1,rwI s.1),(2,rwI o),(3,ROW qT 124 e.2.2),(4,.bx 35 [lN,lI 0,lN,lN]),(5,.bx 26 (lx26 p1))],6⟩) ?_ ?_
   · intro o hm;refine .sr (.an R (.block (bS hm fun D M hm=>?_)));refine .cut1 (z:= .exit 2) D (fun (D:EdgL)=>⟨[(6,.i e.1),(5,.q 0 0),(4,.q 4 0),(3,.q 5 0),(0,.f qI p0)],[(0,.bx 35 [lH 1,lI (W (1+(W (p1.1.tmod 5)))),lH 2,lH 3]),(1,rwI s.1),(2,rwI o),(3,ROW qT 124 D),(4,.bx 35 [lN,lI 0,lN,lN]),(5,.bx 26 (lx26 p1))],6⟩) ?_ fun a1=>?_
     · skip
       exact .blkE (.blkN (.seqN (.reg (.mv R (.bi R (.sa R (.nil ((X _ (oj hm)).sub [] R))))))))
     refine .iter (fun (j:Int×EdgL)=>⟨[(7,.i j.1),(6,.i e.1),(5,.q 0 0),(4,.q 4 0),(3,.q 5 0),(0,.f qI p0)],[(0,.bx 35 [lH 1,lI (W (1+(W (p1.1.tmod 5)))),lH 2,lH 3]),(1,rwI s.1),(2,rwI o),(3,ROW qT 124 j.2),(4,.bx 35 [lN,lI 0,lN,lN]),(5,.bx 26 (lx26 p1))],6⟩) M [] R ?_;intro j I hm Y V;refine .seq (.sr (.mv R (.mv R (.ln sl32 R (.bi R (.mv R ?_))))));refine .cut 3 (fun (F:Bool)=>((decide (j.1<(p0.length:Int)))&&(decide (j.1<5)))=F) (fun F=>⟨[(47,.b F),(7,.i j.1),(6,.i e.1),(5,.q 0 0),(4,.q 4 0),(3,.q 5 0),(0,.f qI p0)],[(0,.bx 35 [lH 1,lI (W (1+(W (p1.1.tmod 5)))),lH 2,lH 3]),(1,rwI s.1),(2,rwI o),(3,ROW qT 124 j.2),(4,.bx 35 [lN,lI 0,lN,lN]),(5,.bx 26 (lx26 p1))],6⟩) ?_ ?_
     · rintro _ rfl;refine .ns ?_;refine .cc hm R (fun hm=>?_) fun hm=> .exit (.seqX (.seqX ((a1 _ (V _ (oj hm))).sub [] R)));refine .skip (.seqN ?_);refine .join1 (fun (t:List (Int×Int×Int))=>y3i j t=some I) (fun t=>⟨[(7,.i j.1),(6,.i e.1),(5,.q 0 0),(4,.q 4 0),(3,.q 5 0),(0,.f qI p0)],[(0,.bx 35 [lH 1,lI (W (1+(W (p1.1.tmod 5)))),lH 2,lH 3]),(1,rwI s.1),(2,rwI o),(3,ROW qT 124 t),(4,.bx 35 [lN,lI 0,lN,lN]),(5,.bx 26 (lx26 p1))],6⟩) ?_ ?_
       · intro t hm;exact .reg (.mv R (.bi R (.sa R (.nil ((Y _ (oj hm)).sub [] R)))))
       · intro y;refine .block (.seq ?_);refine .sub (τ:=⟨[(7,.i j.1),(6,.i e.1),(5,.q 0 0),(4,.q 4 0),(3,.q 5 0),(0,.f qI p0)],[(0,.bx 35 [lH 1,lI (W (1+(W (p1.1.tmod 5)))),lH 2,lH 3]),(1,rwI s.1),(2,rwI o),(3,ROW qT 124 j.2),(4,.bx 35 [lN,lI 0,lN,lN]),(5,.bx 26 (lx26 p1))],6⟩) ?_ [] R;refine bS hm fun _ a5 hm=>bS hm fun _ a6 hm=>bS hm fun w P hm=>bS hm fun _ a7 hm=>?_;refine .drw [(6,[]),(6,[]),(6,[]),(6,[oT,oF,oT]),(6,tT 4),(6,tT 5),(6,tT 6),(6,[]),(6,[oF,oF,oF,oF,oF,oF,oF,oT]),(6,[oF,oF,oF,oF,oF,oF,oF,oT,oT]),(6,tT 10),(6,tT 11)] [_,_,_,_,_,_,_,_,_,_,_,_] ⟨[(8,.i ((W w).tmod (W ((W (1+(W (p1.1.tmod 5))))+2)))),(7,.i j.1),(6,.i e.1),(5,.q 0 0),(4,.q 4 0),(3,.q 5 0),(0,.f qI p0)],[(0,.bx 35 [lH 1,lI (W (1+(W (p1.1.tmod 5)))),lH 2,lH 3]),(1,rwI s.1),(2,rwI o),(3,ROW qT 124 j.2),(4,.bx 35 [lN,lI 0,lN,lN]),(5,.bx 26 (lx26 p1))],6⟩ ⟨O.mv Z R R,O.mv Z R R,O.faP ykd Z R R,O.ia ia24 Z R R a5 R,O.ia ia23 Z R R a6 R,O.ldA (off:=2) (k:=e.1.toNat*5+j.1.toNat*1) (m:=25) (cs:=[p1.2.2.1.1,p1.2.2.1.2.1,p1.2.2.1.2.2.1,p1.2.2.1.2.2.2.1,p1.2.2.1.2.2.2.2,p1.2.2.2.1.1,p1.2.2.2.1.2.1,p1.2.2.2.1.2.2.1,p1.2.2.2.1.2.2.2.1,p1.2.2.2.1.2.2.2.2,p1.2.2.2.2.1.1,p1.2.2.2.2.1.2.1,p1.2.2.2.2.1.2.2.1,p1.2.2.2.2.1.2.2.2.1,p1.2.2.2.2.1.2.2.2.2,p1.2.2.2.2.2.1.1,p1.2.2.2.2.2.1.2.1,p1.2.2.2.2.2.1.2.2.1,p1.2.2.2.2.2.1.2.2.2.1,p1.2.2.2.2.2.1.2.2.2.2,p1.2.2.2.2.2.2.1,p1.2.2.2.2.2.2.2.1,p1.2.2.2.2.2.2.2.2.1,p1.2.2.2.2.2.2.2.2.2.1,p1.2.2.2.2.2.2.2.2.2.2]) nag5 Z R R R (by omega) P R,O.cv Tryz.underlying5 Tryz.underlying3 Z R R,O.faP y1W Z R R,O.ld nag3 Z R (.B R) R R,O.bi Z R R R R,O.rem Z R R (yji a7) R,O.as Z R R,trivial⟩ (by kernel_rfl) R ?_;refine .seqN (.sr (.mv R (.fa y1W R (.lb nag3 R (.bi R (.ns ?_))))));refine .cc hm R (fun hm=>?_) fun hm=> .skip (.blkN ((y _ hm).sub [] R));refine .sub (τ:=⟨[(8,.i ((W w).tmod (W ((W (1+(W (p1.1.tmod 5))))+2)))),(7,.i j.1),(6,.i e.1),(5,.q 0 0),(4,.q 4 0),(3,.q 5 0),(0,.f qI p0)],[(0,.bx 35 [lH 1,lI (W (1+(W (p1.1.tmod 5)))),lH 2,lH 3]),(1,rwI s.1),(2,rwI o),(3,ROW qT 124 j.2),(4,.bx 35 [lN,lI 0,lN,lN]),(5,.bx 26 (lx26 p1))],6⟩) ?_ [] R;refine bS hm fun K Q hm=>bS hm fun a4 S hm=>?_;refine .drg 7 [(6,[]),(6,[oT]),(6,[]),(6,[]),(6,[]),(6,[oF,oF,oF,oT,oT]),(6,fA 3 (tT 3)),(6,[]),(6,fA 2 (tT 6)),(6,fA 2 (tT 7)),(6,tT 10),(7,tT 11),(7,tT 12)] [_,_,_,_,_,_,_,_,_,_,_,_,_] ⟨[(7,.i j.1),(6,.i e.1),(5,.q 0 0),(4,.q 4 0),(3,.q 5 0),(0,.f qI p0)],[(0,.bx 35 [lH 1,lI (W (1+(W (p1.1.tmod 5)))),lH 2,lH 6]),(1,rwI s.1),(2,rwI o),(6,ROW qT 124 a4),(4,.bx 35 [lN,lI 0,lN,lN]),(5,.bx 26 (lx26 p1))],7⟩ ⟨O.faP yB Z R R,O.ld nag33 Z R (.B R) R R,O.mv Z R R,O.mv Z R R,O.mv Z R R,O.ix sl32 Z R R Q R,O.ld nag3 Z R (.E lv3) R R,O.mv Z R R,O.bu (l:=[lI e.1,lI K,lI ((W w).tmod (W ((W (1+(W (p1.1.tmod 5))))+2)))]) pl124 R Z R R R,O.bsF (r:=qT) (zs:=([(e.1,K,((W w).tmod (W ((W (1+(W (p1.1.tmod 5))))+2))))]:List (Int×Int×Int))) bs33 R R Z R R R (.c (.p .k (.p .k .k)) .n) R R R,O.ap 6 Tryz.underlying33 el124 R R Z R R (.fr R) S R,O.faP yB Z R R,O.st nag33.sz Z R R R R R,trivial⟩ (by kernel_rfl) R ?_
         exact .blkN ((y _ hm).sub [(3,6)] R)
     · intro J;rcases yEt (decide (j.1<(p0.length:Int))) with hc|hc
       · refine .know (d:=44) R hc ?_;exact .mg R (.bg R (.pT R ((J (decide (j.1<5)) (andT hc).symm).sub [] R)))
       · refine .know (d:=44) R hc ?_;exact .sk R (.sk R (.pF R ((J false (andF hc).symm).sub [] R)))
   · intro x;refine .sr (.fa ykc R (.lb nag5 R (.mv R (bS hm fun _ a8 hm=> .op (O.shr Z R R (ydu a8) R) R (.bi R (.bi R (.ns ?_)))))));exact .cc hm R (fun hm=> .reg (.fa y7f R (.lb nag32 R (.mv R (.bf (r:=qI) ([e.1]:List Int) bs32 R (.c .k .n) R (bS hm fun a9 T hm=> .op (O.ap 6 Tryz.underlying32 el3 R R Z R R (.fr R) T R) R (.fa y7f R (.st nag32.sz R (.nil ((x _ hm).sub [(2,6)] R)))))))))) fun hm=> .skip ((x _ hm).sub [] R)
def y6g(p0:(Int×y1d)×(Int×y1d)×Int):Option PbT:=
 (y1u p0.1.1).bind fun b=>
 (y4n b p0.1.2).bind fun a=>
 (y1u p0.2.1.1).bind fun c=>
 (y3d c a.1).bind fun d=>
 (y4n d p0.2.1.2).bind fun e=>
 (y1u p0.2.2).bind fun f=>
 some (a,e,f)
theorem yas{p0:(Int×y1d)×(Int×y1d)×Int}{r:PbT}(hm:y6g p0=some r):
  F0 72 [.a (lx30 p0)] [] (.tp [.a [lH 0,lI r.1.2.1,lH 1,lH 2],.a [lH 3,lI r.2.1.2.1,lH 4,lH 5],.h 6]) [rwI r.1.1,rwI r.1.2.2.1,ROW qT 124 r.1.2.2.2,rwI r.2.1.1,rwI r.2.1.2.2.1,ROW qT 124 r.2.1.2.2.2,rwI r.2.2]:=by
 refine Fw.mk2 Tryz.func72 Tryz.ntmps72 R (fun C=>?_) R;refine .sr (.bo 0 R (.al 1 zz35 R (.al 2 zz35 R (.an R (.seq ?_)))));refine .sub (τ:=⟨[(3,.q 2 0),(2,.q 1 0),(1,.q 0 0)],[(2,.bx 35 [lN,lI 0,lN,lN]),(1,.bx 35 [lN,lI 0,lN,lN]),(0,.bx 30 (lx30 p0))],3⟩) ?_ [] R;refine bS hm fun n d hm=>bS hm fun b e hm=>?_;refine .drg 7 [(3,[]),(3,[oT]),(3,[oT,oT]),(3,tT 3),(3,[]),(3,[oF,oF,oF,oF,oT]),(3,[oF,oF,oF,oF,oT,oT]),(4,tT 7),(7,tT 8)] [_,_,_,_,_,_,_,_,_] ⟨[(3,.q 2 0),(2,.q 1 0),(1,.q 0 0)],[(2,.bx 35 [lN,lI 0,lN,lN]),(1,.bx 35 [lH 4,lI b.2.1,lH 5,lH 6]),(4,rwI b.1),(5,rwI b.2.2.1),(6,ROW qT 124 b.2.2.2),(0,.bx 30 (lx30 p0))],7⟩ ⟨O.faP yhb Z R R,O.faP yh9 Z R R,O.ld nag22 Z R (.B R) R R,O.ca (r':= .h 3) [3] [(0,rwI n)] (some 4) (y5d d) cf144 R R Z R R R R ⟨⟨_,R,I4⟩,trivial⟩ I3 R,O.faP yhb Z R R,O.faP yha Z R R,O.lg (l':=(lx26 p0.1.2)) ag26 Z R (.B R) R R R,O.caY (r':= .g [lH 4,lI b.2.1,lH 5,lH 6]) [4,5,6] [(0,rwI b.1),(1,rwI b.2.2.1),(2,ROW qT 124 b.2.2.2)] (some 7) (y8c e) cf143 R R Z R R ⟨⟨R,.hr R,trivial⟩,⟨R,LnL.rf⟩,trivial⟩ R ⟨.row flr3,.row flr3,.row y4Q,trivial⟩ (fun _ _ _ _ h=>h) ⟨⟨_,R,I4⟩,⟨_,R,I4⟩,⟨_,R,I4⟩,trivial⟩ I3 R,O.st ag35.sz Z R R R R R,trivial⟩ (by kernel_rfl) R ?_;refine .seqN (.seq ?_);refine .sub (τ:=⟨[(3,.q 2 0),(2,.q 1 0),(1,.q 0 0)],[(2,.bx 35 [lN,lI 0,lN,lN]),(1,.bx 35 [lH 4,lI b.2.1,lH 5,lH 6]),(4,rwI b.1),(5,rwI b.2.2.1),(6,ROW qT 124 b.2.2.2),(0,.bx 30 (lx30 p0))],7⟩) ?_ [] R;refine bS hm fun o f hm=>bS hm fun p i hm=>bS hm fun c j hm=>?_;refine .drg 12 [(7,[]),(7,[oT]),(7,[oT,oT]),(7,tT 3),(7,[]),(7,[oF,oF,oF,oF,oT]),(8,tT 6),(7,[]),(7,[oF,oF,oF,oF,oF,oF,oF,oT]),(7,[oF,oF,oF,oF,oF,oF,oF,oT,oT]),(9,tT 10),(12,tT 11)] [_,_,_,_,_,_,_,_,_,_,_,_] ⟨[(3,.q 2 0),(2,.q 1 0),(1,.q 0 0)],[(2,.bx 35 [lH 9,lI c.2.1,lH 10,lH 11]),(9,rwI c.1),(10,rwI c.2.2.1),(11,ROW qT 124 c.2.2.2),(1,.bx 35 [lH 4,lI b.2.1,lH 5,lH 6]),(4,rwI b.1),(5,rwI b.2.2.1),(6,ROW qT 124 b.2.2.2),(0,.bx 30 (lx30 p0))],12⟩ ⟨O.faP yhc Z R R,O.faP yh9 Z R R,O.ld nag22 Z R (.B R) R R,O.ca (r':= .h 7) [7] [(0,rwI o)] (some 8) (y5d f) cf144 R R Z R R R R ⟨⟨_,R,I4⟩,trivial⟩ I3 R,O.faP yz Z R R,O.ld nag32 Z R (.B R) R R,O.caY (r':= .h 8) [8] [(0,rwI p)] (some 9) (y6V i) cf145 R R Z R R ⟨⟨R,.hr R,trivial⟩,⟨R,.hr R,trivial⟩,trivial⟩ R ⟨.row flr3,trivial⟩ (fun _ _ _ _ h=>h) ⟨⟨_,R,I4⟩,trivial⟩ I3 R,O.faP yhc Z R R,O.faP yha Z R R,O.lg (l':=(lx26 p0.2.1.2)) ag26 Z R (.B R) R R R,O.caY (r':= .g [lH 9,lI c.2.1,lH 10,lH 11]) [9,10,11] [(0,rwI c.1),(1,rwI c.2.2.1),(2,ROW qT 124 c.2.2.2)] (some 12) (y8c j) cf143 R R Z R R ⟨⟨R,.hr R,trivial⟩,⟨R,LnL.rf⟩,trivial⟩ R ⟨.row flr3,.row flr3,.row y4Q,trivial⟩ (fun _ _ _ _ h=>h) ⟨⟨_,R,I4⟩,⟨_,R,I4⟩,⟨_,R,I4⟩,trivial⟩ I3 R,O.st ag35.sz Z R R R R R,trivial⟩ (by kernel_rfl) R ?_;refine .seqN (.seq ?_);refine .sub (τ:=⟨[(3,.q 2 0),(2,.q 1 0),(1,.q 0 0)],[(2,.bx 35 [lH 9,lI c.2.1,lH 10,lH 11]),(9,rwI c.1),(10,rwI c.2.2.1),(11,ROW qT 124 c.2.2.2),(1,.bx 35 [lH 4,lI b.2.1,lH 5,lH 6]),(4,rwI b.1),(5,rwI b.2.2.1),(6,ROW qT 124 b.2.2.2),(0,.bx 30 (lx30 p0))],12⟩) ?_ [] R
 refine bS hm fun m k hm=>?_;refine .drd 13 [(12,[],[]),(12,[],[1]),(12,[],[]),(12,[oF,oF,oT],[]),(12,[oF,oF,oT,oT],[]),(13,[oT,oF,oT,oT,oT],[]),(13,[oT,oT,oT,oT,oT,oT],[]),(13,[oT,oT,oT,oT,oT,oT,oT],[])] [_,_,_,_,_,_,_,_] ⟨[(4,.h 12),(3,.q 2 0),(2,.q 1 0)],[(12,rwI m),(2,.bx 35 [lH 9,lI c.2.1,lH 10,lH 11]),(9,rwI c.1),(10,rwI c.2.2.1),(11,ROW qT 124 c.2.2.2),(1,.bx 35 [lH 4,lI b.2.1,lH 5,lH 6]),(4,rwI b.1),(5,rwI b.2.2.1),(6,ROW qT 124 b.2.2.2)],13⟩ ⟨O.lg (l':=[lH 4,lI b.2.1,lH 5,lH 6]) ag35 Z R (.B R) R R R,O.lg (l':=[lH 9,lI c.2.1,lH 10,lH 11]) ag35 Z R (.B R) R R R,O.faP yke Z R R,O.ld nag22 Z R (.B R) R R,O.ca (r':= .h 12) [12] [(0,rwI m)] (some 13) (y5d k) cf144 R R Z R R R R ⟨⟨_,R,I4⟩,trivial⟩ I3 R,O.st ag35.sz Z R R R R R,O.st ag35.sz Z R R R R R,O.as Z R R,trivial⟩ (by kernel_rfl) R ?_;refine .seqN (.ret ?_);cases hm;exact .rr [4,5,6,9,10,11,12] Tryz.results72 (.cell R R ag35 R (.cell R R ag35 R (.tmp R .nil))) R I3 ⟨⟨_,R,I4⟩,⟨_,R,I4⟩,⟨_,R,I4⟩,⟨_,R,I4⟩,⟨_,R,I4⟩,⟨_,R,I4⟩,⟨_,R,I4⟩,trivial⟩
def y4L(p0:AutT)(p1:Int)(p2:Int)(a:Int):Option (Int⊕(Unit⊕Int)):=
 if decide (a<(p0.2.2.2.length:Int)) then
  (idx p0.2.2.2 a).bind fun c=>
  (if (c.1==p1) then
   (idx p0.2.2.2 a).bind fun e=>
   some (e.2.1==p2)
  else
   some false).bind fun b=>
  if b then
   (idx p0.2.2.2 a).bind fun d=>
   some (.inr (.inr (d.2.2)))
  else
   some (.inl (W (a+1)))
 else
  some (.inr (.inl ()))
def y4o(p0:AutT)(p1:Int)(p2:Int):Option Int:=
 (iter (y4L p0 p1 p2) 0).bind fun b=>
 match b with
 | .inl c=>
  some (-1)
 | .inr (a)=>
  some a
theorem y8d{p0:AutT}{r:Int}(hm:y4o p0 p1 p2=some r):
  F0 73 [.a (lx35 p0),.i p1,.i p2] [] (.i r) []:=by
 refine Fw.mk2 Tryz.func73 Tryz.ntmps73 R (fun C=>?_) R;refine .sr (.bo 0 R (.an R (.seq (.sr (.an R (.block (bS hm fun u s hm=>?_)))))));refine .cutU (z:= .exit 0) (fun f=> .inl f=u) (fun (f:Unit)=>⟨[],[],0⟩) ?_ fun n=>?_
 ·rintro f rfl;dsimp only at hm;refine .blkE (.seqN (.sr (.an R (.ret ?_))));cases hm;exact .rr [] Tryz.results73 (.tmp R .nil) R I3 trivial
 refine .cutU (z:= .ret) (fun c=> .inr (c)=u) (fun (c:Int)=>⟨[(6,.i c)],[],0⟩) ?_ fun o=>?_
 ·rintro c rfl;dsimp only at hm;refine .blkR (.seqR ?_);cases hm;exact .rr [] Tryz.results73 (.tmp R .nil) R I3 trivial
 refine .iter (fun (e:Int)=>⟨[(7,.i e),(3,.q 0 0),(1,.i p1),(2,.i p2)],[(0,.bx 35 (lx35 p0))],1⟩) s [] R ?_;intro e w hm t j;refine .seq (.sr (.mv R (.fa yB R (.lb nag33 R (.ln sl33 R (.bi R (.ns ?_)))))));refine .cc hm R (fun hm=>?_) fun hm=> .exit (.seqX (.seqX ((n _ (j _ (oj hm))).sub [] R)));refine .skip (.seqN (.seq (.block (.sr (.fa yB R (.lb nag33 R (.mv R (bS hm fun x k hm=> .ix sl33 k R (.fe y1A R (.le nag3 lv124 R (.mv R (.bi R (.mv R (bS hm fun p eb16 hm=>?_))))))))))))));refine .cut 9 (fun (g:Bool)=>p=g) (fun g=>⟨[(32,.b g),(7,.i e),(3,.q 0 0),(1,.i p1),(2,.i p2)],[(0,.bx 35 (lx35 p0))],1⟩) ?_ ?_
 ·rintro _ rfl;exact .ns (.cc hm R (fun hm=> .sr (.fa yB R (.lb nag33 R (.mv R (bS hm fun y l hm=> .ix sl33 l R (.fe y2J R (.le nag3 lv124 R (.an R (.ret (.blkR (.seqR (.seqR ((o _ (j _ (oj hm))).sub [] R))))))))))))) fun hm=> .skip (.blkN (.seqN (.reg (.mv R (.bi R (.sa R (.nil ((t _ (oj hm)).sub [] R)))))))))
 ·intro h;rcases ifS eb16 with ⟨hc,hm⟩|⟨hc,hm⟩
  ·refine .know (d:=23) R hc ?_;exact .fag yB R (.lbg nag33 R (.mg R (bS hm fun v m hm=> .op (O.ix sl33 (Gu.mk R R) R R m R) R (.op (O.faE y2I (Gu.mk R R) R R) R (.leg nag3 lv124 R (.mg R (.bg R (.pT R ((h (v.2.1==p2) (oj hm)).sub [] R)))))))))
  ·refine .know (d:=23) R hc ?_;exact .sk R (.sk R (.sk R (.sk R (.sk R (.sk R (.sk R (.sk R (.pF R ((h false (oj hm)).sub [] R)))))))))
def y6Z(p0:AutT)(p1:List Int)(p2:List Int):Option Int:=
 (y1p p0).bind fun a=>
 if(a != 0) then
  some a
 else
  (y1l p1 p0.2.1).bind fun b=>
  if(b != 0) then
   some b
  else
   (y1l p2 32).bind fun c=>
   some c
theorem ybH{p0:AutT}{p1:List Int}{p2:List Int}{r:Int}(hm:y6Z p0 p1 p2=some r):
    F0 146 [.a (lx35 p0),.f qI p1,.f qI p2] [] (.i r) []:=by
  refine Fw.mk2 Tryz.func146 Tryz.ntmps146 R (fun C=>?_) R;refine .sr (.bo 0 R (.an R (.seq (.sr (.lg (lx35 p0) ag35 R (.B R) R (bS hm fun e b hm=> .c0 (y4R b) cf101 R (.an R (.sr (.mv R (.bi R (.ns ?_)))))))))));refine .cc hm R (fun hm=>?_) fun hm=>?_
  ·refine .sr (.mv R (.an R (.ret (.seqR ?_))));cases hm;exact .rr [] Tryz.results146 (.tmp R .nil) R I3 trivial
  ·refine .skip (.seqN (.seq (.sr (.mv R (.fa y1W R (.lb nag3 R (bS hm fun g c hm=> .c0 (y2K c) cf25 R (.an R (.sr (.mv R (.bi R (.ns ?_))))))))))));refine .cc hm R (fun hm=>?_) fun hm=>?_
   ·refine .sr (.mv R (.an R (.ret (.seqR ?_))));cases hm;exact .rr [] Tryz.results146 (.tmp R .nil) R I3 trivial
   ·refine .skip (.seqN (.sr (.mv R (bS hm fun h d hm=> .c0 (y2K d) cf25 R (.an R (.ret ?_))))));cases hm;exact .rr [] Tryz.results146 (.tmp R .nil) R I3 trivial
def y6h(p0:AutT)(a:Int×(List (Int×List Int))):Option ((Int×(List (Int×List Int)))⊕(List (Int×List Int))):=
 if decide (a.1<(p0.2.2.2.length:Int)) then
  (idx p0.2.2.2 a.1).bind fun b=>
  (app ((kget a.2 b.2.2).getD []) ([b.1]:List Int)).bind fun c=>
  some (.inl (W (a.1+1),(kput a.2 b.2.2 c)))
 else
  some (.inr a.2)
def y6i(p1:List Int)(a:Int×List Bool):Option ((Int×List Bool)⊕(List Bool)):=
 if decide (a.1<(p1.length:Int)) then
  (idx p1 a.1).bind fun b=>
  (idx a.2 b).bind fun d=>
  (upd a.2 b false).bind fun c=>
  some (.inl (W (a.1+1),c))
 else
  some (.inr a.2)
def y4p(c:List Bool)(a:Int×List Bool):Option ((Int×List Bool)⊕(List Bool)):=
 if decide (a.1<(c.length:Int)) then
  (idx a.2 a.1).bind fun d=>
  (upd a.2 a.1 true).bind fun b=>
  some (.inl (W (a.1+1),b))
 else
  some (.inr a.2)
def y7a(p0:AutT)(p1:List Int)(p2:List Int):Option (AutT×List Int×(List (Int×List Int))×List Bool):=
 (mkL p0.2.1 false).bind fun c=>
 (iter (y4p c) (0,c)).bind fun d=>
 (iter (y6i p1) (0,d)).bind fun a=>
 (iter (y6h p0) (0,([]:List (Int×List Int)))).bind fun b=>
 some (p0,p2,b,a)
theorem ybI{p0:AutT}{p1:List Int}{p2:List Int}{r:(AutT×List Int×(List (Int×List Int))×List Bool)}(hm:y7a p0 p1 p2=some r):
  F0 197 [.a (lx35 p0),.f qI p1,.f qI p2] [] (.q 0 0) [.bx 289 [lF qI r.1.1,lI r.1.2.1,lF qI r.1.2.2.1,lF qT r.1.2.2.2,lF qI r.2.1,lM kvI (rL qI) r.2.2.1,lH 1],ROW rB 4 r.2.2.2]:=by
 refine Fw.mk2 Tryz.func197 Tryz.ntmps197 R (fun C=>?_) R;refine .sr (.bo 0 R (.an R (.seq ?_)));refine .sub (τ:=⟨[(3,.q 0 0),(1,.f qI p1),(2,.f qI p2)],[(0,.bx 35 (lx35 p0))],1⟩) ?_ [] R;refine bS hm fun U Q hm=>?_;refine .drw [(1,[]),(1,[]),(1,[]),(1,[]),(1,[oF,oF,oF,oT]),(1,[oF,oF,oF,oT,oT]),(3,tT 6),(3,tT 7),(4,tT 8)] [_,_,_,_,_,_,_,_,_] ⟨[(7,.q 3 0),(3,.q 0 0),(1,.f qI p1)],[(3,.bx 289 [lF qI p0.1,lI p0.2.1,lF qI p0.2.2.1,lF qT p0.2.2.2,lF qI p2,lH 1,lH 2]),(1,MTB flr3 3 none ([]:List (Int×List Int))),(2,ROW rB 4 U),(0,.bx 35 (lx35 p0))],4⟩ ⟨O.lg (l':=(lx35 p0)) ag35 Z R (.B R) R R R,O.mv Z R R,O.mkM flr3 3 1 R Z R,O.faP y1W Z R R,O.ld nag3 Z R (.B R) R R,O.mk (z:=false) 2 Tryz.underlying144 zr4 R R Z R R Q R,O.bu (l:=[lF qI p0.1,lI p0.2.1,lF qI p0.2.2.1,lF qT p0.2.2.2,lF qI p2,lH 1,lH 2]) pl289 R Z R R R,O.box 3 R Z R R R,O.as Z R R,trivial⟩ (by kernel_rfl) R ?_;refine .seqN (.seq (.sr (.mv R (.op (O.nc .B Z R R) R (.fa y6K R (.lb y2q R (.lh sl144 R (.mv R (.ns (.block (bS hm fun K P hm=>?_)))))))))));refine .cut1 (z:= .exit 0) K (fun (K:List Bool)=>⟨[(7,.q 0 0),(3,.q 3 0),(1,.f qI p1)],[(0,.bx 289 [lF qI p0.1,lI p0.2.1,lF qI p0.2.2.1,lF qT p0.2.2.2,lF qI p2,lH 1,lH 2]),(1,MTB flr3 3 none ([]:List (Int×List Int))),(2,ROW rB 4 K),(3,.bx 35 (lx35 p0))],4⟩) ?_ fun L=>?_
 ·skip
  refine .blkE (.seqN (.seq (.sr (.mv R (.ln sl32 R (.mv R (.ns (.block (bS hm fun h u hm=>?_)))))))));refine .cut1 (z:= .exit 2) h (fun (h:List Bool)=>⟨[(7,.q 0 0),(3,.q 3 0)],[(0,.bx 289 [lF qI p0.1,lI p0.2.1,lF qI p0.2.2.1,lF qT p0.2.2.2,lF qI p2,lH 1,lH 2]),(1,MTB flr3 3 none ([]:List (Int×List Int))),(2,ROW rB 4 h),(3,.bx 35 (lx35 p0))],4⟩) ?_ fun M=>?_
  ·skip
   refine .blkE (.seqN (.seq (.sr (.fa yB R (.lb nag33 R (.ln sl33 R (.mv R (.ns (.block (bS hm fun s v hm=>?_))))))))));refine .cut1 (z:= .exit 4) s (fun (s:(List (Int×List Int)))=>⟨[(7,.q 0 0)],[(0,.bx 289 [lF qI p0.1,lI p0.2.1,lF qI p0.2.2.1,lF qT p0.2.2.2,lF qI p2,lH 1,lH 2]),(1,MTB flr3 3 none s),(2,ROW rB 4 h)],3⟩) ?_ fun N=>?_
   ·skip
    refine .blkE (.seqN (.sr (.mv R (.an R (.ret (.fz 1 [] [0] R R fMt R R ?_))))));cases hm;exact .rr [0,2] Tryz.results197 (.tmp R .nil) R I3 ⟨⟨_,R,I4⟩,⟨_,R,I4⟩,trivial⟩
   refine .iter (fun (g:Int×(List (Int×List Int)))=>⟨[(52,.i g.1),(51,.i p0.2.2.2.length),(50,.f qT p0.2.2.2),(7,.q 0 0)],[(0,.bx 289 [lF qI p0.1,lI p0.2.1,lF qI p0.2.2.1,lF qT p0.2.2.2,lF qI p2,lH 1,lH 2]),(1,MTB flr3 3 none g.2),(2,ROW rB 4 h)],3⟩) v [] R ?_;intro g X hm J H;refine .sr (.bi R (.ns (.seq ?_)));refine .cc hm R (fun hm=>?_) fun hm=> .exit (.seqX (.seqX ((N _ (H _ (oj hm))).sub [] R)));refine .skip (.seqN (.seq (.block (.sr (bS hm fun d w hm=> .ix sl33 w R (.lg [lI d.1,lI d.2.1,lI d.2.2] ag124 R (.E lv124) R (.al 3 zz124 R (.st ag124.sz R (.ns ?_)))))))));refine .sub (τ:=⟨[(12,.q 3 0),(52,.i g.1),(51,.i p0.2.2.2.length),(50,.f qT p0.2.2.2),(7,.q 0 0)],[(3,.bx 124 [lI d.1,lI d.2.1,lI d.2.2]),(0,.bx 289 [lF qI p0.1,lI p0.2.1,lF qI p0.2.2.1,lF qT p0.2.2.2,lF qI p2,lH 1,lH 2]),(1,MTB flr3 3 none g.2),(2,ROW rB 4 h)],4⟩) ?_ [] R;refine bS hm fun V x hm=>?_;refine .drz 6 [(12,1),(12,4),(16,5)] [(4,[],[1],[]),(4,[oT],[1],[]),(4,[oT,oT],[1],[]),(4,[oT,oT,oT],[1],[]),(4,[],[1],[]),(4,[oF,oF,oF,oF,oT],[1],[]),(4,[],[],[]),(4,[oF,oF,oF,oF,oF,oF,oT],[],[]),(4,[oF,oF,oF,oF,oF,oF,oT,oT],[],[]),(4,[oF,oF,oF,oF,oF,oF,oT,oT,oT],[],[]),(4,[],[],[]),(4,[oF,oF,oF,oF,oF,oF,oF,oF,oF,oF,oT],[],[]),(4,[oF,oF,oF,oF,oF,oF,oT,oT,oT,oT,oT,oT],[],[]),(4,[],[1],[]),(4,[oF,oF,oF,oF,oF,oF,oF,oF,oF,oF,oF,oF,oF,oT],[1],[]),(4,[oF,oF,oF,oF,oF,oF,oF,oF,oF,oF,oF,oF,oF,oT,oT],[1],[]),(5,[oF,oF,oF,oF,oF,oF,oT,oT,oT,oT,oT,oT,oT,oT,oT,oT],[],[]),(6,[oT,oT,oT,oT,oT,oT,oT,oT,oT,oT,oT,oT,oT,oT,oT,oT,oT],[],[(12,4)])] [_,_,_,_,_,_,_,_,_,_,_,_,_,_,_,_,_,_] ⟨[(52,.i g.1),(51,.i p0.2.2.2.length),(50,.f qT p0.2.2.2),(7,.q 0 0)],[(0,.bx 289 [lF qI p0.1,lI p0.2.1,lF qI p0.2.2.1,lF qT p0.2.2.2,lF qI p2,lH 1,lH 2]),(1,MTB flr3 3 none (kput g.2 d.2.2 V)),(2,ROW rB 4 h)],6⟩ ⟨O.mv Z R R,O.nc .B Z R R,O.faP ydJ Z R R,O.ld yf0 Z R (.B R) R R,O.faP y2J Z R R,O.ld nag3 Z R (.B R) R R,O.mv Z R R,O.nc .B Z R R,O.faP ydJ Z R R,O.ld yf0 Z R (.B R) R R,O.faP y2J Z R R,O.ld nag3 Z R (.B R) R R,O.luM (k:=d.2.2) 4 ydh R Z R R (.o R) R,O.faP y1A Z R R,O.ld nag3 Z R (.B R) R R,O.bsF (r:=qI) (zs:=([d.1]:List Int)) bs32 R R Z R R R (.c .k .n) R R R,O.ap 5 Tryz.underlying32 el3 R R Z R R (.fr R) x R,O.muM (k:=d.2.2) ydh Z R R (.o R) R R R (fun _ e=>by cases e;rfl),trivial⟩ (by kernel_rfl) R ?_;exact .blkN (.seqN (.reg (.bi R (.mv R (.nil ((J _ (oj hm)).sub [] R))))))
  refine .iter (fun (j:Int×List Bool)=>⟨[(38,.i j.1),(37,.i p1.length),(36,.f qI p1),(7,.q 0 0),(3,.q 3 0)],[(0,.bx 289 [lF qI p0.1,lI p0.2.1,lF qI p0.2.2.1,lF qT p0.2.2.2,lF qI p2,lH 1,lH 2]),(1,MTB flr3 3 none ([]:List (Int×List Int))),(2,ROW rB 4 j.2),(3,.bx 35 (lx35 p0))],4⟩) u [] R ?_;intro j W hm I G;refine .sr (.bi R (.ns (.seq ?_)));exact .cc hm R (fun hm=> .skip (.seqN (.seq (.block (.sr (bS hm fun a0 y hm=> .ix sl32 y R (.le nag3 lv3 R (.an R (.reg (.mv R (.op (O.nc .B Z R R) R (.fa y6K R (.lb y2q R (.mv R (bS hm fun a1 m hm=> .op (O.ir sl144 Z R R R m R) R (bS hm fun a2 D hm=> .op (O.su (z:=false) nag4.sz Z R R m D R R R lv4 R .b) R (.nil (.blkN (.seqN (.reg (.bi R (.mv R (.nil ((I _ (oj hm)).sub [] R)))))))))))))))))))))))) fun hm=> .exit (.seqX (.seqX ((M _ (G _ (oj hm))).sub [] R)))
 refine .iter (fun (t:Int×List Bool)=>⟨[(26,.i t.1),(25,.i U.length),(7,.q 0 0),(3,.q 3 0),(1,.f qI p1)],[(0,.bx 289 [lF qI p0.1,lI p0.2.1,lF qI p0.2.2.1,lF qT p0.2.2.2,lF qI p2,lH 1,lH 2]),(1,MTB flr3 3 none ([]:List (Int×List Int))),(2,ROW rB 4 t.2),(3,.bx 35 (lx35 p0))],4⟩) P [(0,3),(3,0)] R ?_;intro t Y hm T S;refine .sr (.bi R (.ns (.seq ?_)));exact .cc hm R (fun hm=> .skip (.seqN (.seq (.block (.sr (.mv R (.an R (.reg (.mv R (.op (O.nc .B Z R R) R (.fa y6K R (.lb y2q R (.mv R (bS hm fun a3 p hm=> .op (O.ir sl144 Z R R R p R) R (bS hm fun a4 F hm=> .op (O.su (z:=true) nag4.sz Z R R p F R R R lv4 R .b) R (.nil (.blkN (.seqN (.reg (.bi R (.mv R (.nil ((T _ (oj hm)).sub [] R))))))))))))))))))))))) fun hm=> .exit (.seqX (.seqX ((L _ (S _ (oj hm))).sub [] R)))
def y1o(a:Int×(List (Int×Int×Int×Int)))(b:List (Int×Int×Int×Int)):Option ((Int×(List (Int×Int×Int×Int)))⊕(List (Int×Int×Int×Int))):=
 some (.inl (W (a.1+1),b))
def y1Y(p1:Int)(a:Int×(List (Int×Int×Int×Int)))(b:Int×Int×Int)(c:Bool):Option ((Int×(List (Int×Int×Int×Int)))⊕(List (Int×Int×Int×Int))):=
 if c then
  y1o a a.2
 else
  (app a.2 ([(b.1,p1,2,b.2.1)]:List (Int×Int×Int×Int))).bind fun d=>
  y1o a d
def yH(p1:Int)(a:Int×(List (Int×Int×Int×Int)))(b:Int×Int×Int)(c:Bool):Option ((Int×(List (Int×Int×Int×Int)))⊕(List (Int×Int×Int×Int))):=
 if c then
  y1o a a.2
 else
  if decide ((a.2.length:Int)>0) then
   (idx a.2 (W ((a.2.length:Int)-1))).bind fun d=>
   y1Y p1 a b (d.1==b.1)
  else
   y1Y p1 a b false
def y3o(p0:AutT×List Int×(List (Int×List Int))×List Bool)(p1:Int)(a:Int×(List (Int×Int×Int×Int))):Option ((Int×(List (Int×Int×Int×Int)))⊕(List (Int×Int×Int×Int))):=
 if decide (a.1<(p0.1.2.2.2.length:Int)) then
  (idx p0.1.2.2.2 a.1).bind fun b=>
  (idx p0.2.2.2 b.1).bind fun d=>
  if(!d) then
   yH p1 a b true
  else
   (idx p0.2.2.2 b.2.2).bind fun e=>
   if e then
    yH p1 a b true
   else
    (yf p0.2.1 b.2.1).bind fun c=>
    yH p1 a b (!c)
 else
  some (.inr a.2)
def y4q(p0:AutT×List Int×(List (Int×List Int))×List Bool)(p1:Int):Option (List (Int×Int×Int×Int)):=
 (iter (y3o p0 p1) (0,([]:List (Int×Int×Int×Int)))).bind fun a=>
 some a
theorem y9D{p0:AutT×List Int×(List (Int×List Int))×List Bool}{r:(List (Int×Int×Int×Int))}(hm:y4q p0 p1=some r):
  F0 231 [.o (lQ 289 (lx289 p0) 0),.i p1] [] (.h 0) [ROW rE286 286 r]:=by
 refine Fw.mk2 Tryz.func231 Tryz.ntmps231 R (fun C=>?_) R;refine .sr (.an R (.sr (.an R (.seq (.sr (.mv R (.op (O.nc .Q Z R R) R (.fq y8p R (.fq yB R (.lq nag33 R (.ln sl33 R (.mv R (.ns (.block (bS hm fun G H hm=>?_)))))))))))))));refine .cut1 (z:= .exit 0) G (fun (G:(List (Int×Int×Int×Int)))=>⟨[(5,.h 0)],[(0,ROW rE286 286 G)],1⟩) ?_ fun S=>?_
 ·skip
  refine .blkE (.seqN (.sr (.mv R (.an R (.ret ?_)))));cases hm;exact .rr [0] Tryz.results231 (.tmp R .nil) R I3 ⟨⟨_,R,I4⟩,trivial⟩
 refine .nlg rE286 286 5 0 R R (.iter (fun (d:Int×(List (Int×Int×Int×Int)))=>⟨[(15,.i d.1),(14,.i p0.1.2.2.2.length),(13,.f qT p0.1.2.2.2),(5,.h 0),(0,.o (lQ 289 (lx289 p0) 0)),(1,.i p1)],[(0,ROW rE286 286 d.2)],1⟩) H [] R ?_);intro d e hm P N;refine .sr (.bi R (.ns (.seq ?_)));refine .cc hm R (fun hm=>?_) fun hm=> .exit (.seqX (.seqX ((S _ (N _ (oj hm))).sub [] R)));refine .skip (.seqN ?_);refine .join1 (fun (v:List (Int×Int×Int×Int))=>y1o d v=some e) (fun v=>⟨[(15,.i d.1),(14,.i p0.1.2.2.2.length),(13,.f qT p0.1.2.2.2),(5,.h 0),(0,.o (lQ 289 (lx289 p0) 0)),(1,.i p1)],[(0,ROW rE286 286 v)],1⟩) ?_ ?_
 ·intro v hm;exact .reg (.bi R (.mv R (.nil ((P _ (oj hm)).sub [] R))))
 ·intro g;refine .block (.sr (bS hm fun a J hm=> .ix sl33 J R (.lg [lI a.1,lI a.2.1,lI a.2.2] ag124 R (.E lv124) R (.al 1 zz124 R (.st ag124.sz R (.ns (.seq ?_)))))));refine .join1 (fun (t:Bool)=>yH p1 d a t=some e) (fun t=>⟨[(47,.b t),(7,.q 0 0),(15,.i d.1),(14,.i p0.1.2.2.2.length),(13,.f qT p0.1.2.2.2),(5,.h 1),(0,.o (lQ 289 (lx289 p0) 0)),(1,.i p1)],[(0,.bx 124 [lI a.1,lI a.2.1,lI a.2.2]),(1,ROW rE286 286 d.2)],2⟩) ?_ ?_
  ·intro t hm;refine .cc hm R (fun hm=> .exit (.seqX (.blkE ((g _ hm).sub [(0,1)] R)))) fun hm=>?_;refine .skip (.seqN (.seq (.sr (.mv R (.lh sl127 R (.an R ?_))))));refine .join1 (fun (u:Bool)=>y1Y p1 d a u=some e) (fun u=>⟨[(62,.b u),(7,.q 0 0),(15,.i d.1),(14,.i p0.1.2.2.2.length),(13,.f qT p0.1.2.2.2),(5,.h 1),(0,.o (lQ 289 (lx289 p0) 0)),(1,.i p1)],[(0,.bx 124 [lI a.1,lI a.2.1,lI a.2.2]),(1,ROW rE286 286 d.2)],2⟩) ?_ ?_
   ·intro u hm;exact .cc hm R (fun hm=> .exit (.seqX (.blkE ((g _ hm).sub [(0,1)] R)))) fun hm=> .skip (.seqN (.reg (.mv R (.fa y1A R (.lb nag3 R (.mv R (.fa y2I R (.lb nag3 R (.bu [lI a.1,lI p1,lI 2,lI a.2.1] pl286 R (.op (O.bsF (r:=rE286) (zs:=([(a.1,p1,2,a.2.1)]:List (Int×Int×Int×Int))) bs127 R R Z R R R (.c (.p .k (.p .k (.p .k .k))) .n) R R R) R (bS hm fun V K hm=> .op (O.ap 2 Tryz.underlying127 el286 R R Z R R (.fr R) K R) R (.sa R (.nil (.blkN ((g _ hm).sub [(0,2)] R)))))))))))))))
   ·intro w;refine .sub (τ:=⟨[(8,.i d.2.length),(7,.q 0 0),(15,.i d.1),(14,.i p0.1.2.2.2.length),(13,.f qT p0.1.2.2.2),(5,.h 1),(0,.o (lQ 289 (lx289 p0) 0)),(1,.i p1)],[(0,.bx 124 [lI a.1,lI a.2.1,lI a.2.2]),(1,ROW rE286 286 d.2)],2⟩) ?_ [] R;refine .drP 2 [(2,[]),(2,[oT])] [_,_] ⟨O.mv Z R R,O.bi Z R R R R,trivial⟩ fun y=>?_;rcases ifS hm with ⟨l,hm⟩|⟨l,hm⟩
    ·skip
     exact bS hm fun U x hm=> .drF y [(2,[oT,oT]),(2,tT 3),(2,tT 3),(2,tA 3 (fA 1 (tT 1))),(2,tT 6),(2,tT 7),(2,tT 8),(2,tT 3),(2,tA 3 (fA 6 (tT 1))),(2,tT 11),(2,tT 12)] [_,_,_,_,_,_,_,_,_,_,_] ⟨[(62,.b (U.1==a.1)),(7,.q 0 0),(15,.i d.1),(14,.i p0.1.2.2.2.length),(13,.f qT p0.1.2.2.2),(5,.h 1),(0,.o (lQ 289 (lx289 p0) 0)),(1,.i p1)],[(0,.bx 124 [lI a.1,lI a.2.1,lI a.2.2]),(1,ROW rE286 286 d.2)],2⟩ ⟨O.kn (O.mv Z R R) l,O.mv (Gu.mk R R) R R,O.mv (Gu.mk R R) R R,O.bi (Gu.mk R R) R R R R,O.ir sl127 (Gu.mk R R) R R R x R,O.faR yfO (Gu.mk R R) R R,O.ld nag3 (Gu.mk R R) R (.R R x lv286) R R,O.faP y1A (Gu.mk R R) R R,O.ld nag3 (Gu.mk R R) R (.B R) R R,O.bi (Gu.mk R R) R R R R,O.pkT Z R R R R,trivial⟩ (by kernel_rfl) R ((w _ hm).sub [] R)
    ·skip
     exact .drF y [(2,[oT,oT]),(2,tT 3),(2,tT 3),(2,tA 3 (fA 1 (tT 1))),(2,tT 6),(2,tT 7),(2,tT 8),(2,tT 3),(2,tA 3 (fA 6 (tT 1))),(2,tT 11),(2,tT 12)] [_,_,_,_,_,_,_,_,_,_,_] ⟨[(62,.b false),(7,.q 0 0),(15,.i d.1),(14,.i p0.1.2.2.2.length),(13,.f qT p0.1.2.2.2),(5,.h 1),(0,.o (lQ 289 (lx289 p0) 0)),(1,.i p1)],[(0,.bx 124 [lI a.1,lI a.2.1,lI a.2.2]),(1,ROW rE286 286 d.2)],2⟩ ⟨O.kn (O.mv Z R R) l,O.skip R R R R,O.skip R R R R,O.skip R R R R,O.skip R R R R,O.skip R R R R,O.skip R R R R,O.skip R R R R,O.skip R R R R,O.skip R R R R,O.pkF Z R R R R,trivial⟩ (by kernel_rfl) R ((w _ hm).sub [] R)
  ·intro j;refine .sub (τ:=⟨[(7,.q 1 0),(15,.i d.1),(14,.i p0.1.2.2.2.length),(13,.f qT p0.1.2.2.2),(5,.h 0),(0,.o (lQ 289 (lx289 p0) 0)),(1,.i p1)],[(1,.bx 124 [lI a.1,lI a.2.1,lI a.2.2]),(0,ROW rE286 286 d.2)],2⟩) ?_ [] R;refine bS hm fun W L hm=> .drP 9 [(2,[]),(2,[oT]),(2,[oT,oT]),(2,tT 3),(2,[]),(2,[oF,oF,oF,oF,oT]),(2,tT 6),(2,tT 7),(2,tT 8)] [_,_,_,_,_,_,_,_,_] ⟨O.mv Z R R,O.nc .Q Z R R,O.faQ y6K Z R R,O.ld y2q Z R .Q R R,O.faP y1A Z R R,O.ld nag3 Z R (.B R) R R,O.ix sl144 Z R R L R,O.ld nag4 Z R (.E lv4) R R,O.not Z R R,trivial⟩ fun D=>?_;rcases ifS hm with ⟨m,hm⟩|⟨m,hm⟩
   ·skip
    exact .drF D [(2,tT 9),(2,tT 10),(2,tT 11),(2,tT 12),(2,tT 13),(2,tT 10),(2,tA 10 (fA 4 (tT 1))),(2,tT 16),(2,tT 17),(2,tT 18),(2,tT 19),(2,tT 20),(2,tT 21),(2,tT 22),(2,tT 23),(2,tT 20),(2,tA 20 (fA 4 (tT 1))),(2,tT 26),(2,tT 27),(2,tT 28)] [_,_,_,_,_,_,_,_,_,_,_,_,_,_,_,_,_,_,_,_] ⟨[(47,.b true),(7,.q 1 0),(15,.i d.1),(14,.i p0.1.2.2.2.length),(13,.f qT p0.1.2.2.2),(5,.h 0),(0,.o (lQ 289 (lx289 p0) 0)),(1,.i p1)],[(1,.bx 124 [lI a.1,lI a.2.1,lI a.2.2]),(0,ROW rE286 286 d.2)],2⟩ ⟨O.kn (O.mv Z R R) m,O.skip R R R R,O.skip R R R R,O.skip R R R R,O.skip R R R R,O.skip R R R R,O.skip R R R R,O.skip R R R R,O.skip R R R R,O.pkT Z R R R R,O.mv Z R R,O.skip R R R R,O.skip R R R R,O.skip R R R R,O.skip R R R R,O.skip R R R R,O.skip R R R R,O.skip R R R R,O.skip R R R R,O.pkT Z R R R R,trivial⟩ (by kernel_rfl) R ((j _ hm).sub [(0,1),(1,0)] R)
   ·skip
    refine bS hm fun X M hm=> .drX D 19 [(2,tT 9),(2,tT 10),(2,tT 11),(2,tT 12),(2,tT 13),(2,tT 10),(2,tA 10 (fA 4 (tT 1))),(2,tT 16),(2,tT 17),(2,tT 18)] [_,_,_,_,_,_,_,_,_,_] ⟨O.kn (O.mv Z R R) m,O.mv (Gu.mk R R) R R,O.nc .Q (Gu.mk R R) R R,O.faQ y6K (Gu.mk R R) R R,O.ld y2q (Gu.mk R R) R .Q R R,O.faP y2J (Gu.mk R R) R R,O.ld nag3 (Gu.mk R R) R (.B R) R R,O.ix sl144 (Gu.mk R R) R R M R,O.ld nag4 (Gu.mk R R) R (.E lv4) R R,O.pkF Z R R R R,trivial⟩ (by kernel_rfl) fun F=>?_;rcases ifS hm with ⟨s,hm⟩|⟨s,hm⟩
    ·skip
     exact .drF F [(2,tT 19),(2,tT 20),(2,tT 21),(2,tT 22),(2,tT 23),(2,tT 20),(2,tA 20 (fA 4 (tT 1))),(2,tT 26),(2,tT 27),(2,tT 28)] [_,_,_,_,_,_,_,_,_,_] ⟨[(47,.b true),(7,.q 1 0),(15,.i d.1),(14,.i p0.1.2.2.2.length),(13,.f qT p0.1.2.2.2),(5,.h 0),(0,.o (lQ 289 (lx289 p0) 0)),(1,.i p1)],[(1,.bx 124 [lI a.1,lI a.2.1,lI a.2.2]),(0,ROW rE286 286 d.2)],2⟩ ⟨O.kn (O.mv Z R R) s,O.skip R R R R,O.skip R R R R,O.skip R R R R,O.skip R R R R,O.skip R R R R,O.skip R R R R,O.skip R R R R,O.skip R R R R,O.pkT Z R R R R,trivial⟩ (by kernel_rfl) R ((j _ hm).sub [(0,1),(1,0)] R)
    ·skip
     exact bS hm fun T I hm=> .drF F [(2,tT 19),(2,tT 20),(2,tT 21),(2,tT 22),(2,tT 23),(2,tT 20),(2,tA 20 (fA 4 (tT 1))),(2,tT 26),(2,tT 27),(2,tT 28)] [_,_,_,_,_,_,_,_,_,_] ⟨[(47,.b (!T)),(7,.q 1 0),(15,.i d.1),(14,.i p0.1.2.2.2.length),(13,.f qT p0.1.2.2.2),(5,.h 0),(0,.o (lQ 289 (lx289 p0) 0)),(1,.i p1)],[(1,.bx 124 [lI a.1,lI a.2.1,lI a.2.2]),(0,ROW rE286 286 d.2)],2⟩ ⟨O.kn (O.mv Z R R) s,O.mv (Gu.mk R R) R R,O.nc .Q (Gu.mk R R) R R,O.faQ yjw (Gu.mk R R) R R,O.ld nag32 (Gu.mk R R) R .Q R R,O.faP y2I (Gu.mk R R) R R,O.ld nag3 (Gu.mk R R) R (.B R) R R,O.ca0 (yj I) cf104 R R (Gu.mk R R) R R R,O.not (Gu.mk R R) R R,O.pkF Z R R R R,trivial⟩ (by kernel_rfl) R ((j _ hm).sub [(0,1),(1,0)] R)
def y1e(c:Int×List Int×List Int)(a:List Int)(b:List Int):Option ((Int×List Int×List Int)⊕(List Int×List Int)):=
 some (.inl (W (c.1+1),a,b))
def y1f(p0:AutT×List Int×(List (Int×List Int))×List Bool)(e:Int×List Int×List Int)(c:Int)(a:Int×List Int×List Int):Option ((Int×List Int×List Int)⊕(List Int×List Int)):=
 if decide (a.1<(((kget p0.2.2.1 c).getD []).length:Int)) then
  (idx ((kget p0.2.2.1 c).getD []) a.1).bind fun b=>
  (idx p0.2.2.2 b).bind fun f=>
  (if f then
   (idx a.2.2 b).bind fun k=>
   some (decide (k<0))
  else
   some false).bind fun d=>
  if d then
   (idx a.2.1 e.1).bind fun g=>
   (idx a.2.2 g).bind fun h=>
   (idx a.2.2 b).bind fun l=>
   (upd a.2.2 b (W (h+1))).bind fun i=>
   (app a.2.1 ([b]:List Int)).bind fun j=>
   y1e a j i
  else
   y1e a a.2.1 a.2.2
 else
  some (.inr a.2)
def y1g(p0:AutT×List Int×(List (Int×List Int))×List Bool)(a:Int×List Int×List Int):Option ((Int×List Int×List Int)⊕(List Int)):=
 if decide (a.1<(a.2.1.length:Int)) then
  (idx a.2.1 a.1).bind fun c=>
  (iter (y1f p0 a c) (0,a.2)).bind fun b=>
  some (.inl (W (a.1+1),b))
 else
  some (.inr a.2.2)
def y1h(c:Int×List Int×List Int)(a:List Int)(b:List Int):Option ((Int×List Int×List Int)⊕(List Int×List Int)):=
 some (.inl (W (c.1+1),a,b))
def y1i(p0:AutT×List Int×(List (Int×List Int))×List Bool)(a:Int×List Int×List Int):Option ((Int×List Int×List Int)⊕(List Int×List Int)):=
 if decide (a.1<(p0.1.2.2.1.length:Int)) then
  (idx p0.1.2.2.1 a.1).bind fun b=>
  (idx p0.2.2.2 b).bind fun c=>
  if c then
   (idx a.2.2 b).bind fun f=>
   (upd a.2.2 b 0).bind fun d=>
   (app a.2.1 ([b]:List Int)).bind fun e=>
   y1h a e d
  else
   y1h a a.2.1 a.2.2
 else
  some (.inr a.2)
def y1j(c:List Int)(a:Int×List Int):Option ((Int×List Int)⊕(List Int)):=
 if decide (a.1<(c.length:Int)) then
  (idx a.2 a.1).bind fun d=>
  (upd a.2 a.1 (-1)).bind fun b=>
  some (.inl (W (a.1+1),b))
 else
  some (.inr a.2)
def y1D(p0:AutT×List Int×(List (Int×List Int))×List Bool):Option (List Int):=
 (mkL p0.1.2.1 (0:Int)).bind fun c=>
 (iter (y1j c) (0,c)).bind fun d=>
 (iter (y1i p0) (0,([]:List Int),d)).bind fun a=>
 (iter (y1g p0) (0,a)).bind fun b=>
 some b
theorem y6G{p0:AutT×List Int×(List (Int×List Int))×List Bool}{r:List Int}(hm:y1D p0=some r):
  F0 201 [.o (lQ 289 (lx289 p0) 0)] [] (.h 0) [rwI r]:=by
 refine Fw.mk2 Tryz.func201 Tryz.ntmps201 R (fun C=>?_) R;refine .sr (.an R (.sr (.mv R (.op (O.nc .Q Z R R) R (.fq y8p R (.fq y1W R (.lq nag3 R (bS hm fun x1 b9 hm=> .op (O.mk (z:=(0:Int)) 0 Tryz.underlying32 zr3 R R Z R R b9 R) R (.an R (.seq (.sr (.mv R (.lh sl32 R (.mv R (.ns (.block (bS hm fun o8 b8 hm=>?_)))))))))))))))));refine .cut1 (z:= .exit 0) o8 (fun (o8:List Int)=>⟨[(3,.h 0),(0,.o (lQ 289 (lx289 p0) 0))],[(0,rwI o8)],1⟩) ?_ fun b5=>?_
 ·skip
  refine .blkE (.seqN (.sr (.an R (.seq (.sr (.mv R (.op (O.nc .Q Z R R) R (.fq y8p R (.fq y7f R (.lq nag32 R (.ln sl32 R (.mv R (.ns (.block (bS hm fun E a3 hm=>?_)))))))))))))));refine .cut1 (z:= .exit 2) E (fun (E:List Int×List Int)=>⟨[(5,.h 0),(3,.h 1),(0,.o (lQ 289 (lx289 p0) 0))],[(0,rwI E.1),(1,rwI E.2)],2⟩) ?_ fun b6=>?_
  ·skip
   refine .blkE (.seqN (.seq (.sr (.an R (.block (bS hm fun I a4 hm=>?_))))));refine .cut1 (z:= .exit 4) I (fun (I:List Int)=>⟨[(3,.h 0)],[(0,rwI I)],1⟩) ?_ fun b7=>?_
   ·skip
    refine .blkE (.seqN (.sr (.mv R (.an R (.ret ?_)))));cases hm;exact .rr [0] Tryz.results201 (.tmp R .nil) R I3 ⟨⟨_,R,I4⟩,trivial⟩
   refine .iter (fun (a:Int×List Int×List Int)=>⟨[(8,.i a.1),(5,.h 0),(3,.h 1),(0,.o (lQ 289 (lx289 p0) 0))],[(0,rwI a.2.1),(1,rwI a.2.2)],2⟩) a4 [] R ?_;intro a c2 hm b0 a7;refine .seq (.sr (.mv R (.mv R (.lh sl32 R (.bi R (.ns ?_))))));refine .cc hm R (fun hm=>?_) fun hm=> .exit (.seqX (.seqX ((b7 _ (a7 _ (oj hm))).sub [(0,1)] R)));refine .skip (.seqN (.seq (.block (.seq ?_))));refine .sub (τ:=⟨[(8,.i a.1),(5,.h 0),(3,.h 1),(0,.o (lQ 289 (lx289 p0) 0))],[(0,rwI a.2.1),(1,rwI a.2.2)],2⟩) ?_ [] R;refine bS hm fun g H hm=>?_;refine .drw [(2,[]),(2,[oT]),(2,[oT,oT]),(2,tT 3),(2,[]),(2,[]),(2,[oF,oF,oF,oF,oT,oT]),(2,fA 4 (tT 3)),(2,tT 8),(2,tT 9),(2,[])] [_,_,_,_,_,_,_,_,_,_,_] ⟨[(67,.i 0),(66,.i (((kget p0.2.2.1 g).getD []).length:Int)),(65,.f qI ((kget p0.2.2.1 g).getD [])),(8,.i a.1),(5,.h 0),(3,.h 1),(0,.o (lQ 289 (lx289 p0) 0))],[(0,rwI a.2.1),(1,rwI a.2.2)],2⟩ ⟨O.mv Z R R,O.nc .Q Z R R,O.faQ ydJ Z R R,O.ld yf0 Z R .Q R R,O.mv Z R R,O.mv Z R R,O.ir sl32 Z R R R H R,O.ld nag3 Z R (.R R H lv3) R R,O.mlS (k:=g) yhd Z R (.o R) R,O.len sl32 Z R R,O.mv Z R R,trivial⟩ (by kernel_rfl) R ?_;refine .seqN (.block (bS hm fun F a5 hm=>?_));refine .cut1 (z:= .exit 6) F (fun (F:List Int×List Int)=>⟨[(8,.i a.1),(5,.h 0),(3,.h 1),(0,.o (lQ 289 (lx289 p0) 0))],[(0,rwI F.1),(1,rwI F.2)],2⟩) ?_ fun a1=>?_
   ·skip
    exact .blkE (.blkN (.seqN (.reg (.mv R (.bi R (.sa R (.nil ((b0 _ (oj hm)).sub [] R))))))))
   refine .iter (fun (e:Int×List Int×List Int)=>⟨[(67,.i e.1),(66,.i (((kget p0.2.2.1 g).getD []).length:Int)),(65,.f qI ((kget p0.2.2.1 g).getD [])),(8,.i a.1),(5,.h 0),(3,.h 1),(0,.o (lQ 289 (lx289 p0) 0))],[(0,rwI e.2.1),(1,rwI e.2.2)],2⟩) a5 [] R ?_;intro e a0 hm b1 a8;refine .sr (.bi R (.ns (.seq ?_)));refine .cc hm R (fun hm=>?_) fun hm=> .exit (.seqX (.seqX ((a1 _ (a8 _ (oj hm))).sub [] R)));refine .skip (.seqN ?_);refine .join2 (fun (l:List Int) (m:List Int)=>y1e e l m=some a0) (fun l m=>⟨[(5,.h 0),(67,.i e.1),(66,.i (((kget p0.2.2.1 g).getD []).length:Int)),(65,.f qI ((kget p0.2.2.1 g).getD [])),(8,.i a.1),(3,.h 1),(0,.o (lQ 289 (lx289 p0) 0))],[(0,rwI l),(1,rwI m)],2⟩) ?_ ?_
   ·intro l m hm;exact .reg (.bi R (.mv R (.nil ((b1 _ (oj hm)).sub [] R))))
   ·intro t;refine .block (.sr (bS hm fun K L hm=> .ix sl32 L R (.le nag3 lv3 R (.an R (.sr (.mv R (.op (O.nc .Q Z R R) R (.fq y6K R (.lq y2q R (.mv R (bS hm fun c4 M hm=> .ix sl144 M R (.le nag4 lv4 R (.mv R (bS hm fun a2 eb107 hm=>?_))))))))))))));refine .cut 6 (fun (s:Bool)=>a2=s) (fun s=>⟨[(84,.b s),(10,.i K),(67,.i e.1),(66,.i (((kget p0.2.2.1 g).getD []).length:Int)),(65,.f qI ((kget p0.2.2.1 g).getD [])),(8,.i a.1),(5,.h 0),(3,.h 1),(0,.o (lQ 289 (lx289 p0) 0))],[(0,rwI e.2.1),(1,rwI e.2.2)],2⟩) ?_ ?_
    ·rintro _ rfl;exact .ns (.cc hm R (fun hm=> .sr (.mv R (.mv R (.mv R (.mv R (.mv R (bS hm fun c5 v hm=> .op (O.ir sl32 Z R R R v R) R (.op (O.ld nag3 Z R (.R R v lv3) R R) R (bS hm fun b2 w hm=> .op (O.ir sl32 Z R R R w R) R (.op (O.ld nag3 Z R (.R R w lv3) R R) R (.bi R (bS hm fun c6 x hm=> .op (O.ir sl32 Z R R R x R) R (bS hm fun c7 N hm=> .op (O.su (z:=W (b2+1)) nag3.sz Z R R x N R R R lv3 R .k) R (.ns (.reg (.mv R (.mv R (.bf (r:=qI) ([K]:List Int) bs32 R (.c .k .n) R (bS hm fun c8 P hm=> .op (O.ap 2 Tryz.underlying32 el3 R R Z R R (.fr R) P R) R (.sa R (.nil (.blkN ((t _ _ hm).sub [(0,2)] R))))))))))))))))))))))) fun hm=> .skip (.blkN ((t _ _ hm).sub [] R)))
    ·intro G;rcases ifS eb107 with ⟨hc,hm⟩|⟨hc,hm⟩
     ·refine .know (d:=78) R hc ?_;exact .mg R (.mg R (bS hm fun b3 y hm=> .op (O.ir sl32 (Gu.mk R R) R R R y R) R (.op (O.ld nag3 (Gu.mk R R) R (.R R y lv3) R R) R (.bg R (.pT R ((G (decide (b3<0)) (oj hm)).sub [] R))))))
     ·refine .know (d:=78) R hc ?_;exact .sk R (.sk R (.sk R (.sk R (.sk R (.pF R ((G false (oj hm)).sub [] R))))))
  refine .nlg qI 3 5 0 R R (.iter (fun (j:Int×List Int×List Int)=>⟨[(32,.i j.1),(31,.i p0.1.2.2.1.length),(30,.f qI p0.1.2.2.1),(5,.h 0),(3,.h 1),(0,.o (lQ 289 (lx289 p0) 0))],[(0,rwI j.2.1),(1,rwI j.2.2)],2⟩) a3 [(0,1),(1,0)] R ?_);intro j Y hm a9 a6;refine .sr (.bi R (.ns (.seq ?_)));refine .cc hm R (fun hm=>?_) fun hm=> .exit (.seqX (.seqX ((b6 _ (a6 _ (oj hm))).sub [] R)));refine .skip (.seqN ?_);refine .join2 (fun (p:List Int) (q:List Int)=>y1h j p q=some Y) (fun p q=>⟨[(5,.h 0),(32,.i j.1),(31,.i p0.1.2.2.1.length),(30,.f qI p0.1.2.2.1),(3,.h 1),(0,.o (lQ 289 (lx289 p0) 0))],[(0,rwI p),(1,rwI q)],2⟩) ?_ ?_
  ·intro p q hm;exact .reg (.bi R (.mv R (.nil ((a9 _ (oj hm)).sub [] R))))
  ·intro u;refine .block (.sr (bS hm fun b4 S hm=> .ix sl32 S R (.le nag3 lv3 R (.an R (.sr (.mv R (.op (O.nc .Q Z R R) R (.fq y6K R (.lq y2q R (.mv R (bS hm fun c9 T hm=> .ix sl144 T R (.le nag4 lv4 R (.ns ?_)))))))))))));exact .cc hm R (fun hm=> .sr (.mv R (.mv R (bS hm fun d0 B hm=> .op (O.ir sl32 Z R R R B R) R (bS hm fun d1 U hm=> .op (O.su (z:=0) nag3.sz Z R R B U R R R lv3 R .k) R (.ns (.reg (.mv R (.mv R (.bf (r:=qI) ([b4]:List Int) bs32 R (.c .k .n) R (bS hm fun d2 V hm=> .op (O.ap 2 Tryz.underlying32 el3 R R Z R R (.fr R) V R) R (.sa R (.nil (.blkN ((u _ _ hm).sub [(0,2)] R))))))))))))))) fun hm=> .skip (.blkN ((u _ _ hm).sub [] R))
 refine .iter (fun (J:Int×List Int)=>⟨[(19,.i J.1),(18,.i x1.length),(3,.h 0),(0,.o (lQ 289 (lx289 p0) 0))],[(0,rwI J.2)],1⟩) b8 [] R ?_;intro J c3 hm c1 c0;refine .sr (.bi R (.ns (.seq ?_)));exact .cc hm R (fun hm=> .skip (.seqN (.seq (.block (.sr (.mv R (.an R (.reg (.mv R (.mv R (bS hm fun d3 D hm=> .op (O.ir sl32 Z R R R D R) R (bS hm fun d4 X hm=> .op (O.su (z:=(-1)) nag3.sz Z R R D X R R R lv3 R .k) R (.nil (.blkN (.seqN (.reg (.bi R (.mv R (.nil ((c1 _ (oj hm)).sub [] R)))))))))))))))))))) fun hm=> .exit (.seqX (.seqX ((b5 _ (c0 _ (oj hm))).sub [] R)))
def y1y(a:Int×(List (Int×Int×Int×Int)))(b:List (Int×Int×Int×Int)):Option ((Int×(List (Int×Int×Int×Int)))⊕(List (Int×Int×Int×Int))):=
 some (.inl (W (a.1+1),b))
def y2D(p0:AutT×List Int×(List (Int×List Int))×List Bool)(p1:Int)(b:List Int)(a:Int×(List (Int×Int×Int×Int))):Option ((Int×(List (Int×Int×Int×Int)))⊕(List (Int×Int×Int×Int))):=
 if decide (a.1<(b.length:Int)) then
  (idx b a.1).bind fun c=>
  (idx p0.2.2.2 a.1).bind fun d=>
  if(d&&(decide (c<0))) then
   (app a.2 ([(a.1,p1,3,(-1))]:List (Int×Int×Int×Int))).bind fun e=>
   y1y a e
  else
   y1y a a.2
 else
  some (.inr a.2)
def y3p(p0:AutT×List Int×(List (Int×List Int))×List Bool)(p1:Int):Option (List (Int×Int×Int×Int)):=
 (y1D p0).bind fun b=>
 (iter (y2D p0 p1 b) (0,([]:List (Int×Int×Int×Int)))).bind fun a=>
 some a
theorem y8H{p0:AutT×List Int×(List (Int×List Int))×List Bool}{r:(List (Int×Int×Int×Int))}(hm:y3p p0 p1=some r):
  F0 232 [.o (lQ 289 (lx289 p0) 0),.i p1] [] (.h 0) [ROW rE286 286 r]:=by
 refine Fw.mk2 Tryz.func232 Tryz.ntmps232 R (fun C=>?_) R;refine .sr (.an R (.sr (.an R (.seq (.sr (.mv R (bS hm fun e E hm=> .op (O.ca (r':= .h 0) [0] [(0,rwI e)] (some 1) (y6G E) cf201 R R Z R R R R ⟨⟨_,R,I4⟩,trivial⟩ I3 R) R (.lh sl32 R (.mv R (.ns (.block (bS hm fun l v hm=>?_))))))))))));refine .cut1 (z:= .exit 0) l (fun (l:(List (Int×Int×Int×Int)))=>⟨[(5,.h 0)],[(0,ROW rE286 286 l)],1⟩) ?_ fun D=>?_
 ·skip
  refine .blkE (.seqN (.sr (.mv R (.an R (.ret ?_)))));cases hm;exact .rr [0] Tryz.results232 (.tmp R .nil) R I3 ⟨⟨_,R,I4⟩,trivial⟩
 refine .nlg rE286 286 5 0 R R (.iter (fun (a:Int×(List (Int×Int×Int×Int)))=>⟨[(11,.i a.1),(10,.i e.length),(9,.h 0),(5,.h 1),(0,.o (lQ 289 (lx289 p0) 0)),(1,.i p1)],[(0,rwI e),(1,ROW rE286 286 a.2)],2⟩) v [] R ?_);intro a q hm B y;refine .sr (.bi R (.ns (.seq ?_)));refine .cc hm R (fun hm=>?_) fun hm=> .exit (.seqX (.seqX ((D _ (y _ (oj hm))).sub [(0,1)] R)));refine .skip (.seqN ?_);refine .join1 (fun (f:List (Int×Int×Int×Int))=>y1y a f=some q) (fun f=>⟨[(5,.h 0),(11,.i a.1),(10,.i e.length),(9,.h 1),(0,.o (lQ 289 (lx289 p0) 0)),(1,.i p1)],[(0,ROW rE286 286 f),(1,rwI e)],2⟩) ?_ ?_
 ·intro f hm;exact .reg (.bi R (.mv R (.nil ((B _ (oj hm)).sub [(0,1),(1,0)] R))))
 ·intro g;refine .block (.sr (.mv R (bS hm fun t j hm=> .op (O.ir sl32 Z R R R j R) R (.op (O.ld nag3 Z R (.R R j lv3) R R) R (.sa R (.an R (.sr (.mv R (.op (O.nc .Q Z R R) R (.fq y6K R (.lq y2q R (.mv R (bS hm fun u w hm=> .ix sl144 w R (.le nag4 lv4 R (.mv R ?_)))))))))))))));refine .cut 3 (fun (m:Bool)=>(u&&(decide (t<0)))=m) (fun m=>⟨[(26,.b m),(6,.i a.1),(11,.i a.1),(10,.i e.length),(9,.h 0),(5,.h 1),(0,.o (lQ 289 (lx289 p0) 0)),(1,.i p1)],[(0,rwI e),(1,ROW rE286 286 a.2)],2⟩) ?_ ?_
  ·rintro _ rfl;exact .ns (.cc hm R (fun hm=> .reg (.mv R (.mv R (.mv R (.bu [lI a.1,lI p1,lI 3,lI (-1)] pl286 R (.op (O.bsF (r:=rE286) (zs:=([(a.1,p1,3,(-1))]:List (Int×Int×Int×Int))) bs127 R R Z R R R (.c (.p .k (.p .k (.p .k .k))) .n) R R R) R (bS hm fun F x hm=> .op (O.ap 2 Tryz.underlying127 el286 R R Z R R (.fr R) x R) R (.sa R (.nil (.blkN ((g _ hm).sub [(0,2),(1,0)] R))))))))))) fun hm=> .skip (.blkN ((g _ hm).sub [(0,1),(1,0)] R)))
  ·intro s;rcases yEt u with hc|hc
   ·refine .know (d:=23) R hc ?_;exact .mg R (.bg R (.pT R ((s (decide (t<0)) (andT hc).symm).sub [] R)))
   ·refine .know (d:=23) R hc ?_;exact .sk R (.sk R (.pF R ((s false (andF hc).symm).sub [] R)))
def y4r(p0:AutT×List Int×(List (Int×List Int))×List Bool)(p1:Int)(p2:Bool):Option (List (Int×Int×Int×Int)):=
 (y4q p0 p1).bind fun a=>
 if((decide ((a.length:Int)>0))||(!p2)) then
  some a
 else
  (y3p p0 p1).bind fun b=>
  some b
theorem y9E{p0:AutT×List Int×(List (Int×List Int))×List Bool}{p2:Bool}{r:(List (Int×Int×Int×Int))}(hm:y4r p0 p1 p2=some r):
    F0 198 [.o (lQ 289 (lx289 p0) 0),.i p1,.b p2] [] (.h 0) [ROW rE286 286 r]:=by
  refine Fw.mk2 Tryz.func198 Tryz.ntmps198 R (fun C=>?_) R;refine .sr (.an R (.seq (.sr (.mv R (.mv R (bS hm fun a f hm=> .op (O.ca (r':= .h 0) [0] [(0,ROW rE286 286 a)] (some 1) (y9D f) cf231 R R Z R R R R ⟨⟨_,R,I4⟩,trivial⟩ I3 R) R (.an R (.sr (.mv R (.lh sl127 R (.bi R (.mv R ?_))))))))))));refine .cut 3 (fun (c:Bool)=>((decide ((a.length:Int)>0))||(!p2))=c) (fun c=>⟨[(17,.b c),(7,.h 0),(0,.o (lQ 289 (lx289 p0) 0)),(1,.i p1)],[(0,ROW rE286 286 a)],1⟩) ?_ ?_
  · rintro _ rfl;refine .ns ?_;refine .cc hm R (fun hm=>?_) fun hm=>?_
    ·refine .sr (.mv R (.an R (.ret (.seqR ?_))));cases hm;exact .rr [0] Tryz.results198 (.tmp R .nil) R I3 ⟨⟨_,R,I4⟩,trivial⟩
    ·refine .skip (.seqN (.sr (.mv R (.mv R (bS hm fun j g hm=> .op (O.ca (r':= .h 1) [1] [(0,ROW rE286 286 j)] (some 2) (y8H g) cf232 R R Z R R R R ⟨⟨_,R,I4⟩,trivial⟩ I3 R) R (.an R (.ret ?_)))))));cases hm;exact .rr [1] Tryz.results198 (.tmp R .nil) R I3 ⟨⟨_,R,I4⟩,trivial⟩
  · intro e;rcases yEt (decide ((a.length:Int)>0)) with hc|hc
    · refine .know (d:=14) R hc ?_;exact .sk R (.sk R (.pT R ((e true (orT hc).symm).sub [] R)))
    · refine .know (d:=14) R hc ?_;exact .mg R (.op (O.not (Gu.mk R R) R R) R (.pF R ((e (!p2) (orF hc).symm).sub [] R)))
def yV(a:Int×List Int×(List (Int×Int))×List Int×EdgL)(b:List Int)(c:List (Int×Int))(d:List Int)(e:List (Int×Int×Int)):Option ((Int×List Int×(List (Int×Int))×List Int×EdgL)⊕(List Int×List Int×EdgL)):=
 some (.inl (W (a.1+1),b,c,d,e))
def yW(e:Int×List Int×(List (Int×Int))×List Int×EdgL)(f:Int×Int×Int)(a:Int×List Int×(List (Int×Int))×EdgL)(b:List Int)(d:Int)(c:List (Int×Int)):Option ((Int×List Int×(List (Int×Int))×EdgL)⊕(List Int×(List (Int×Int))×EdgL)):=
 (app a.2.2.2 ([(e.1,f.2.1,d)]:List (Int×Int×Int))).bind fun g=>
 some (.inl (W (a.1+1),b,c,g))
def yX(c:Int×List Int×(List (Int×Int))×List Int×EdgL)(d:List (Int×Int×Int))(a:Int×List Int×(List (Int×Int))×EdgL):Option ((Int×List Int×(List (Int×Int))×EdgL)⊕(List Int×(List (Int×Int))×EdgL)):=
 if decide (a.1<(d.length:Int)) then
  (idx d a.1).bind fun b=>
  if(!((kget a.2.2.1 b.2.2).isSome)) then
   (app a.2.1 ([b.2.2]:List Int)).bind fun e=>
   yW c b a e (a.2.1.length:Int) (kput a.2.2.1 b.2.2 (a.2.1.length:Int))
  else
   yW c b a a.2.1 ((kget a.2.2.1 b.2.2).getD 0) a.2.2.1
 else
  some (.inr a.2)
def yY(p0:AutT×List Int×(List (Int×List Int))×List Bool)(f:(List EdgL))(a:Int×List Int×(List (Int×Int))×List Int×EdgL):Option ((Int×List Int×(List (Int×Int))×List Int×EdgL)⊕(List Int×List Int×EdgL)):=
 if decide (a.1<(a.2.1.length:Int)) then
  (idx a.2.1 a.1).bind fun g=>
  (idx f g).bind fun h=>
  (iter (yX a h) (0,a.2.1,a.2.2.1,a.2.2.2.2)).bind fun b=>
  (idx b.1 a.1).bind fun d=>
  (yf p0.1.2.2.1 d).bind fun c=>
  if c then
   (app a.2.2.2.1 ([a.1]:List Int)).bind fun e=>
   yV a b.1 b.2.1 e b.2.2
  else
   yV a b.1 b.2.1 a.2.2.2.1 b.2.2
 else
  some (.inr (a.2.1,a.2.2.2))
def yZ(b:Int×(List EdgL))(a:List EdgL):Option ((Int×(List EdgL))⊕(List EdgL)):=
 some (.inl (W (b.1+1),a))
def y1a(p0:AutT×List Int×(List (Int×List Int))×List Bool)(a:Int×(List EdgL)):Option ((Int×(List EdgL))⊕(List EdgL)):=
 if decide (a.1<(p0.1.2.2.2.length:Int)) then
  (idx p0.1.2.2.2 a.1).bind fun b=>
  (idx p0.2.2.2 b.2.2).bind fun c=>
  if c then
   (idx a.2 b.1).bind fun d=>
   (app d ([b]:List (Int×Int×Int))).bind fun e=>
   (idx a.2 b.1).bind fun g=>
   (upd a.2 b.1 e).bind fun f=>
   yZ a f
  else
   yZ a a.2
 else
  some (.inr a.2)
def y2E(p0:AutT×List Int×(List (Int×List Int))×List Bool):Option (AutT×List Int):=
 (yT p0.1.1).bind fun d=>
 (if (p0.1.2.1==0) then
  some true
 else
  (idx p0.2.2.2 0).bind fun b=>
  some (!b)).bind fun e=>
 if e then
  some ((d,0,([]:List Int),([]:List (Int×Int×Int))),([]:List Int))
 else
  (mkL p0.1.2.1 ([]:List (Int×Int×Int))).bind fun f=>
  (iter (y1a p0) (0,f)).bind fun c=>
  (iter (yY p0 c) (0,([0]:List Int),(kput ([]:List (Int×Int)) 0 0),([]:List Int),([]:List (Int×Int×Int)))).bind fun a=>
  some ((d,(a.1.length:Int),a.2),a.1)
theorem y8k{p0:AutT×List Int×(List (Int×List Int))×List Bool}{r:AutT×List Int}(hm:y2E p0=some r):
    F0 202 [.o (lQ 289 (lx289 p0) 0)] [] (.tp [.a [lH 0,lI r.1.2.1,lH 1,lH 2],.h 3]) [rwI r.1.1,rwI r.1.2.2.1,ROW qT 124 r.1.2.2.2,rwI r.2]:=by
  refine Fw.mk2 Tryz.func202 Tryz.ntmps202 R (fun C=>?_) R;refine .sr (.al 0 zz35 R (.an R (.sr (.mv R (.op (O.nc .Q Z R R) R (.fq y8p R (.fq yz R (.lq nag32 R (bS hm fun w c9 hm=> .op (O.ca (r':= .h 1) [1] [(0,rwI w)] (some 2) (y4k c9) cf103 R R Z R R R R ⟨⟨_,R,I4⟩,trivial⟩ I3 R) R (.bu [lH 1,lI 0,lN,lN] pl35 R (.al 2 zz35 R (.st ag35.sz R (.ns (.seq (.sr (.mv R (.op (O.nc .Q Z R R) R (.fq y8p R (.fq y1W R (.lq nag3 R (.bi R (.mv R (bS hm fun b2 eb2 hm=>?_)))))))))))))))))))))));refine .cut 8 (fun (v3:Bool)=>b2=v3) (fun v3=>⟨[(36,.b v3),(4,.q 2 0),(2,.q 0 0),(0,.o (lQ 289 (lx289 p0) 0))],[(2,.bx 35 [lH 1,lI 0,lN,lN]),(1,rwI w),(0,.bx 35 [lN,lI 0,lN,lN])],3⟩) ?_ ?_
  · rintro _ rfl;refine .ns ?_;refine .cc hm R (fun hm=>?_) fun hm=>?_
    ·refine .sr (.lg [lH 1,lI 0,lN,lN] ag35 R (.B R) R (.st ag35.sz R (.an R (.ret (.seqR (.nlb qI 3 0 2 R R (.nlb qT 124 0 3 R R (.nlg qI 3 3 0 R R ?_))))))));cases hm;exact .rr [1,3,4,5] Tryz.results202 (.cell R R ag35 R (.tmp R .nil)) R I3 ⟨⟨_,R,I4⟩,⟨_,R,I4⟩,⟨_,R,I4⟩,⟨_,R,I4⟩,trivial⟩
    ·refine .skip (.seqN (.sr (.mv R (.op (O.nc .Q Z R R) R (.fq y8p R (.fq y1W R (.lq nag3 R (bS hm fun x5 d0 hm=> .op (O.mkT y4Q 124 3 Tryz.underlying314 zv33 R R Z R R d0 R) R (.an R (.seq (.sr (.mv R (.op (O.nc .Q Z R R) R (.fq y8p R (.fq yB R (.lq nag33 R (.ln sl33 R (.mv R (.ns (.block (bS hm fun x b1 hm=>?_)))))))))))))))))))));refine .cut1 (z:= .exit 0) x (fun (x:(List EdgL))=>⟨[(5,.h 0),(4,.q 1 0),(2,.q 3 0),(0,.o (lQ 289 (lx289 p0) 0))],[(0,TAB y4Q 33 124 none x),(1,.bx 35 [lH 2,lI 0,lN,lN]),(2,rwI w),(3,.bx 35 [lN,lI 0,lN,lN])],4⟩) ?_ fun c6=>?_
     · skip
       refine .blkE (.seqN (.sr (.op (O.mk2 (kv:=kvI) (r:=qI) 4 R Z R) R (.op (O.ins (k:=0) (v:=0) md229 (fun _ _=>eqI) Z R R (.o R) R .k) R (.mv R (.an R (.sr (.op (O.bsO (r:=qI) (zs:=([0]:List Int)) 5 R bs32 R R Z R R R (.c .k .n) R R R) R (.an R (.seq (.sr (.an R (.block (bS hm fun D b3 hm=>?_))))))))))))));refine .cut1 (z:= .exit 2) D (fun (D:List Int×List Int×EdgL)=>⟨[(9,.h 0),(4,.q 1 0),(2,.q 5 0)],[(0,rwI D.1),(1,.bx 35 [lH 2,lI 0,lH 3,lH 4]),(2,rwI w),(3,rwI D.2.1),(4,ROW qT 124 D.2.2),(5,.bx 35 [lN,lI 0,lN,lN])],6⟩) ?_ fun c7=>?_
       · skip
         refine .blkE (.seqN (.sr (.mv R (.lh sl32 R (.fa y1W R (.st nag3.sz R (.nr (.lg [lH 2,lI D.1.length,lH 3,lH 4] ag35 R (.B R) R (.mv R (.st ag35.sz R (.an R (.ret ?_))))))))))));cases hm;exact .rr [2,3,4,0] Tryz.results202 (.cell R R ag35 R (.tmp R .nil)) R I3 ⟨⟨_,R,I4⟩,⟨_,R,I4⟩,⟨_,R,I4⟩,⟨_,R,I4⟩,trivial⟩
       refine .fz 0 [5] [] R R fTb R R (.nlb qI 3 1 2 R R (.nlb qT 124 1 3 R R (.iter (fun (g:Int×List Int×(List (Int×Int))×List Int×EdgL)=>⟨[(10,.i g.1),(9,.h 0),(8,.h 1),(5,.f (rL qT) x),(4,.q 2 0),(2,.q 6 0),(0,.o (lQ 289 (lx289 p0) 0))],[(0,rwI g.2.1),(1,MAP kvI qI 229 g.2.2.1),(2,.bx 35 [lH 3,lI 0,lH 4,lH 5]),(3,rwI w),(4,rwI g.2.2.2.1),(5,ROW qT 124 g.2.2.2.2),(6,.bx 35 [lN,lI 0,lN,lN])],7⟩) b3 [(0,5),(1,4),(2,1),(3,2),(4,6),(5,7),(6,3)] R ?_)));intro g a9 hm c0 b7;refine .seq (.sr (.mv R (.mv R (.lh sl32 R (.bi R (.ns ?_))))));refine .cc hm R (fun hm=>?_) fun hm=> .exit (.seqX (.seqX ((c7 _ (b7 _ (oj hm))).sub [(1,2),(2,3),(3,4),(4,5),(5,6)] R)));refine .skip (.seqN ?_);refine .join4 (fun (M:List Int) (N:List (Int×Int)) (P:List Int) (S:List (Int×Int×Int))=>yV g M N P S=some a9) (fun M N P S=>⟨[(10,.i g.1),(9,.h 0),(8,.h 1),(5,.f (rL qT) x),(4,.q 2 0),(2,.q 6 0),(0,.o (lQ 289 (lx289 p0) 0))],[(0,rwI M),(1,MAP kvI qI 229 N),(2,.bx 35 [lH 3,lI 0,lH 4,lH 5]),(3,rwI w),(4,rwI P),(5,ROW qT 124 S),(6,.bx 35 [lN,lI 0,lN,lN])],7⟩) ?_ ?_
       · intro M N P S hm;exact .reg (.mv R (.bi R (.sa R (.nil ((c0 _ (oj hm)).sub [] R)))))
       · intro U;refine .block (.seq (.sr (.mv R (.mv R (.mv R (bS hm fun d8 V hm=> .op (O.ir sl32 Z R R R V R) R (.op (O.ld nag3 Z R (.R R V lv3) R R) R (bS hm fun T b5 hm=> .ix sl314 b5 R (.le nag33 lv33 R (.ln sl33 R (.mv R (.ns (.block (bS hm fun u b4 hm=>?_))))))))))))));refine .cut1 (z:= .exit 4) u (fun (u:List Int×(List (Int×Int))×EdgL)=>⟨[(10,.i g.1),(9,.h 0),(8,.h 1),(5,.f (rL qT) x),(4,.q 2 0),(2,.q 6 0),(0,.o (lQ 289 (lx289 p0) 0))],[(0,rwI u.1),(1,MAP kvI qI 229 u.2.1),(2,.bx 35 [lH 3,lI 0,lH 4,lH 5]),(3,rwI w),(4,rwI g.2.2.2.1),(5,ROW qT 124 u.2.2),(6,.bx 35 [lN,lI 0,lN,lN])],7⟩) ?_ fun c8=>?_
         · skip
           refine .blkE (.seqN (.seq ?_));refine .sub (τ:=⟨[(10,.i g.1),(9,.h 0),(8,.h 1),(5,.f (rL qT) x),(4,.q 2 0),(2,.q 6 0),(0,.o (lQ 289 (lx289 p0) 0))],[(0,rwI u.1),(1,MAP kvI qI 229 u.2.1),(2,.bx 35 [lH 3,lI 0,lH 4,lH 5]),(3,rwI w),(4,rwI g.2.2.2.1),(5,ROW qT 124 u.2.2),(6,.bx 35 [lN,lI 0,lN,lN])],7⟩) ?_ [] R;refine bS hm fun d1 K hm=>bS hm fun c2 W hm=>?_;refine .drw [(7,[]),(7,[oT]),(7,[oT,oT]),(7,tT 3),(7,tT 4),(7,[]),(7,[]),(7,[oF,oF,oF,oF,oF,oT,oT]),(7,fA 5 (tT 3)),(7,tT 9)] [_,_,_,_,_,_,_,_,_,_] ⟨[(136,.b c2),(10,.i g.1),(9,.h 0),(8,.h 1),(5,.f (rL qT) x),(4,.q 2 0),(2,.q 6 0),(0,.o (lQ 289 (lx289 p0) 0))],[(0,rwI u.1),(1,MAP kvI qI 229 u.2.1),(2,.bx 35 [lH 3,lI 0,lH 4,lH 5]),(3,rwI w),(4,rwI g.2.2.2.1),(5,ROW qT 124 u.2.2),(6,.bx 35 [lN,lI 0,lN,lN])],7⟩ ⟨O.mv Z R R,O.nc .Q Z R R,O.faQ y8p Z R R,O.faQ y7f Z R R,O.ld nag32 Z R .Q R R,O.mv Z R R,O.mv Z R R,O.ir sl32 Z R R R K R,O.ld nag3 Z R (.R R K lv3) R R,O.ca0 (yj W) cf104 R R Z R R R,trivial⟩ (by kernel_rfl) R ?_;exact .seqN (.cc hm R (fun hm=> .reg (.fa y7f R (.lb nag32 R (.mv R (.bf (r:=qI) ([g.1]:List Int) bs32 R (.c .k .n) R (bS hm fun d2 X hm=> .op (O.ap 7 Tryz.underlying32 el3 R R Z R R (.fr R) X R) R (.fa y7f R (.st nag32.sz R (.nil (.blkN ((U _ _ _ _ hm).sub [(4,7)] R))))))))))) fun hm=> .skip (.blkN ((U _ _ _ _ hm).sub [] R)))
         refine .iter (fun (t:Int×List Int×(List (Int×Int))×EdgL)=>⟨[(92,.i t.1),(91,.i T.length),(90,.f qT T),(10,.i g.1),(9,.h 0),(8,.h 1),(5,.f (rL qT) x),(4,.q 2 0),(2,.q 6 0),(0,.o (lQ 289 (lx289 p0) 0))],[(0,rwI t.2.1),(1,MAP kvI qI 229 t.2.2.1),(2,.bx 35 [lH 3,lI 0,lH 4,lH 5]),(3,rwI w),(4,rwI g.2.2.2.1),(5,ROW qT 124 t.2.2.2),(6,.bx 35 [lN,lI 0,lN,lN])],7⟩) b4 [] R ?_;intro t b0 hm c1 b8;refine .sr (.bi R (.ns (.seq ?_)));refine .cc hm R (fun hm=>?_) fun hm=> .exit (.seqX (.seqX ((c8 _ (b8 _ (oj hm))).sub [] R)));refine .skip (.seqN (.seq (.block (.sr (bS hm fun s Y hm=> .ix sl33 Y R (.lg [lI s.1,lI s.2.1,lI s.2.2] ag124 R (.E lv124) R (.al 7 zz124 R (.st ag124.sz R (.nr (.mv R (.fa y2J R (.lb nag3 R (.op (O.mi2 (k:=s.2.2) md229 Z (.ow R R) (.o R) R) R (.mv R (.ex R (.ex R (.sa R (.an R ?_))))))))))))))))));refine .join3 (fun (F:List Int) (y:Int) (G:List (Int×Int))=>yW g s t F y G=some b0) (fun F y G=>⟨[(9,.h 0),(13,.i y),(12,.q 1 0),(92,.i t.1),(91,.i T.length),(90,.f qT T),(10,.i g.1),(8,.h 2),(5,.f (rL qT) x),(4,.q 3 0),(2,.q 7 0),(0,.o (lQ 289 (lx289 p0) 0))],[(0,rwI F),(1,.bx 124 [lI s.1,lI s.2.1,lI s.2.2]),(2,MAP kvI qI 229 G),(3,.bx 35 [lH 4,lI 0,lH 5,lH 6]),(4,rwI w),(5,rwI g.2.2.2.1),(6,ROW qT 124 t.2.2.2),(7,.bx 35 [lN,lI 0,lN,lN])],8⟩) ?_ ?_
         · intro F y G hm;exact .reg (.fa yB R (.lb nag33 R (.mv R (.fa y2I R (.lb nag3 R (.mv R (.bu [lI g.1,lI s.2.1,lI y] pl124 R (.bf (r:=qT) ([(g.1,s.2.1,y)]:List (Int×Int×Int)) bs33 R (.c (.p .k (.p .k .k)) .n) R (bS hm fun d3 a0 hm=> .op (O.ap 8 Tryz.underlying33 el124 R R Z R R (.fr R) a0 R) R (.fa yB R (.st nag33.sz R (.nil (.blkN (.seqN (.reg (.bi R (.mv R (.nil ((c1 _ (oj hm)).sub [(1,2),(2,3),(3,4),(4,5),(5,8),(6,7)] R)))))))))))))))))))
         · intro I;refine .sr (.mv R (.no R (.ns ?_)));exact .cc hm R (fun hm=> .sr (.mv R (.lh sl32 R (.an R (.sr (.mv R (.fa y2J R (.lb nag3 R (.mv R (.op (O.mu (k:=s.2.2) (v:=(t.2.1.length:Int)) md229 (fun _ _=>eqI) Z R R (.o R) R .k) R (.ns (.reg (.mv R (.fa y2J R (.lb nag3 R (.bf (r:=qI) ([s.2.2]:List Int) bs32 R (.c .k .n) R (bS hm fun d4 a1 hm=> .op (O.ap 8 Tryz.underlying32 el3 R R Z R R (.fr R) a1 R) R (.sa R (.nil ((I _ _ _ hm).sub [(0,8),(1,7),(2,1),(3,2),(4,3),(5,4),(6,5),(7,6)] R)))))))))))))))))))) fun hm=> .skip ((I _ _ _ hm).sub [(1,7),(2,1),(3,2),(4,3),(5,4),(6,5),(7,6)] R)
     refine .iter (fun (m:Int×(List EdgL))=>⟨[(50,.i m.1),(49,.i p0.1.2.2.2.length),(48,.f qT p0.1.2.2.2),(5,.h 0),(4,.q 1 0),(2,.q 3 0),(0,.o (lQ 289 (lx289 p0) 0))],[(0,TAB y4Q 33 124 none m.2),(1,.bx 35 [lH 2,lI 0,lN,lN]),(2,rwI w),(3,.bx 35 [lN,lI 0,lN,lN])],4⟩) b1 [(0,3),(1,2),(2,1),(3,0)] R ?_;intro m a8 hm b9 b6;refine .sr (.bi R (.ns (.seq ?_)));refine .cc hm R (fun hm=>?_) fun hm=> .exit (.seqX (.seqX ((c6 _ (b6 _ (oj hm))).sub [] R)));refine .skip (.seqN ?_);refine .join1 (fun (H:List EdgL)=>yZ m H=some a8) (fun H=>⟨[(50,.i m.1),(49,.i p0.1.2.2.2.length),(48,.f qT p0.1.2.2.2),(5,.h 0),(4,.q 1 0),(2,.q 3 0),(0,.o (lQ 289 (lx289 p0) 0))],[(0,TAB y4Q 33 124 none H),(1,.bx 35 [lH 2,lI 0,lN,lN]),(2,rwI w),(3,.bx 35 [lN,lI 0,lN,lN])],4⟩) ?_ ?_
     · intro H hm;exact .reg (.bi R (.mv R (.nil ((b9 _ (oj hm)).sub [] R))))
     · intro J;refine .block (.sr (bS hm fun j a2 hm=> .ix sl33 a2 R (.lg [lI j.1,lI j.2.1,lI j.2.2] ag124 R (.E lv124) R (.al 4 zz124 R (.st ag124.sz R (.ns (.seq ?_)))))));refine .sub (τ:=⟨[(7,.q 4 0),(50,.i m.1),(49,.i p0.1.2.2.2.length),(48,.f qT p0.1.2.2.2),(5,.h 0),(4,.q 1 0),(2,.q 3 0),(0,.o (lQ 289 (lx289 p0) 0))],[(4,.bx 124 [lI j.1,lI j.2.1,lI j.2.2]),(0,TAB y4Q 33 124 none m.2),(1,.bx 35 [lH 2,lI 0,lN,lN]),(2,rwI w),(3,.bx 35 [lN,lI 0,lN,lN])],5⟩) ?_ [] R;refine bS hm fun c3 a3 hm=>?_;refine .drw [(5,[]),(5,[oT]),(5,[oT,oT]),(5,tT 3),(5,[]),(5,[oF,oF,oF,oF,oT]),(5,tT 6),(5,tT 7)] [_,_,_,_,_,_,_,_] ⟨[(61,.b c3),(7,.q 4 0),(50,.i m.1),(49,.i p0.1.2.2.2.length),(48,.f qT p0.1.2.2.2),(5,.h 0),(4,.q 1 0),(2,.q 3 0),(0,.o (lQ 289 (lx289 p0) 0))],[(4,.bx 124 [lI j.1,lI j.2.1,lI j.2.2]),(0,TAB y4Q 33 124 none m.2),(1,.bx 35 [lH 2,lI 0,lN,lN]),(2,rwI w),(3,.bx 35 [lN,lI 0,lN,lN])],5⟩ ⟨O.mv Z R R,O.nc .Q Z R R,O.faQ y6K Z R R,O.ld y2q Z R .Q R R,O.faP y2J Z R R,O.ld nag3 Z R (.B R) R R,O.ix sl144 Z R R a3 R,O.ld nag4 Z R (.E lv4) R R,trivial⟩ (by kernel_rfl) R ?_;refine .seqN ?_;refine .cc hm R (fun hm=>?_) fun hm=> .skip (.blkN ((J _ hm).sub [] R));refine .sub (τ:=⟨[(7,.q 4 0),(50,.i m.1),(49,.i p0.1.2.2.2.length),(48,.f qT p0.1.2.2.2),(5,.h 0),(4,.q 1 0),(2,.q 3 0),(0,.o (lQ 289 (lx289 p0) 0))],[(4,.bx 124 [lI j.1,lI j.2.1,lI j.2.2]),(0,TAB y4Q 33 124 none m.2),(1,.bx 35 [lH 2,lI 0,lN,lN]),(2,rwI w),(3,.bx 35 [lN,lI 0,lN,lN])],5⟩) ?_ [] R;refine bS hm fun d5 L hm=>bS hm fun d6 a4 hm=>bS hm fun d7 a5 hm=>bS hm fun c4 a6 hm=>?_;refine .drz 7 [(7,0),(7,5),(10,6)] [(5,[],[0],[]),(5,[],[0],[]),(5,[oF,oT],[0],[]),(5,[],[],[]),(5,[],[],[]),(5,[oF,oF,oF,oF,oT],[],[]),(5,[oF,oF,oF,oT,oT,oT],[],[]),(5,[oF,oF,oF,oT,oT,oT,oT],[],[]),(5,[],[0],[]),(5,[oF,oF,oF,oF,oF,oF,oF,oF,oT],[0],[]),(6,[oF,oF,oF,oT,oT,oT,oT,oT,oT,oT],[],[]),(7,[oT,oT,oT,oT,oT,oT,oT,oT,oT,oT,oT],[],[(7,5)]),(7,[oT,oT,oT,oT,oT,oT,oT,oT,oT,oT,oT,oT],[],[(7,5)])] [_,_,_,_,_,_,_,_,_,_,_,_,_] ⟨[(50,.i m.1),(49,.i p0.1.2.2.2.length),(48,.f qT p0.1.2.2.2),(5,.h 0),(4,.q 1 0),(2,.q 3 0),(0,.o (lQ 289 (lx289 p0) 0))],[(0,TAB y4Q 33 124 none c4),(1,.bx 35 [lH 2,lI 0,lN,lN]),(2,rwI w),(3,.bx 35 [lN,lI 0,lN,lN])],7⟩ ⟨O.mv Z R R,O.faP y1A Z R R,O.ld nag3 Z R (.B R) R R,O.mv Z R R,O.faP y1A Z R R,O.ld nag3 Z R (.B R) R R,O.irT sl314 Z R R R L R,O.ldT 5 nag33 R Z R R L R,O.lg (l':=[lI j.1,lI j.2.1,lI j.2.2]) ag124 Z R (.B R) R R R,O.bsF (r:=qT) (zs:=([j]:List (Int×Int×Int))) bs33 R R Z R R R (.c (.p .k (.p .k .k)) .n) R R R,O.ap 6 Tryz.underlying33 el124 R R Z R R (.fr R) a4 R,O.irT sl314 Z R R R a5 R,O.stT nag33.sz Z R R a6 R R R (fun _ e=>by cases e;rfl),trivial⟩ (by kernel_rfl) R ?_;exact .blkN ((J _ hm).sub [] R)
  · intro J4;rcases ifS eb2 with ⟨hc,hm⟩|⟨hc,hm⟩
    · refine .know (d:=28) R hc ?_;exact .sk R (.sk R (.sk R (.sk R (.sk R (.sk R (.sk R (.pT R ((J4 true (oj hm)).sub [] R))))))))
    · refine .know (d:=28) R hc ?_;exact .mg R (.op (O.nc .Q (Gu.mk R R) R R) R (.op (O.faQ y6K (Gu.mk R R) R R) R (.op (O.ld y2q (Gu.mk R R) R .Q R R) R (bS hm fun c5 a7 hm=> .op (O.ix sl144 (Gu.mk R R) R R a7 R) R (.leg nag4 lv4 R (.op (O.not (Gu.mk R R) R R) R (.pF R ((J4 (!c5) (oj hm)).sub [] R))))))))
end
end Go.Proofs.YtecmobjeeonmaaaGreatDoor
namespace Go.Proofs.YtecmobjeeonmaaaGreatDoor
open Go Go.RowKit Go.Sort Go.Lib
theorem ycV{β:Type}{f:β→List Value}{k:Nat}(hk:∀x,(f x).length=k)(k0:0<k):∀(l:List β) (t:Nat),(l.flatMap f)[t]? =(l[t/k]?).bind fun x=>(f x)[t % k]?
 | [],t=>by simp
 | x::l,t=>by
  rw [List.flatMap_cons];by_cases h:t<k
  ·rw [List.getElem?_append_left (by rw [hk];exact h),Nat.div_eq_of_lt h,Nat.mod_eq_of_lt h];rfl
  ·obtain ⟨u,rfl⟩:∃u,t=u+k:=⟨t-k,by omega⟩;rw [List.getElem?_append_right (by rw [hk];omega),hk,Nat.add_sub_cancel,ycV hk k0 l u,Nat.add_div_right u k0,Nat.add_mod_right];rfl
theorem yf1{β:Type}{f:β→List Value}{k:Nat}(hk:∀x,(f x).length=k):∀l:List β,(l.flatMap f).length=l.length*k
 | []=>by simp
 | x::l=>by rw [List.flatMap_cons,List.length_append,hk,yf1 hk l,List.length_cons,Nat.succ_mul,Nat.add_comm]
theorem Cells.enc{α:Type}{r:Rep α}{enc:α→List Value}(hr:∀s cs x,r.rd s cs x↔cs=enc x){s:Sig}:∀{cs:List Value} {xs:List α},Cells r s cs xs↔cs=xs.flatMap enc
 | cs,[]=>by simp [Cells]
 | cs,x::xs=>by
  rw [List.flatMap_cons];constructor
  ·rintro ⟨c,d,rfl,h1,h2⟩;rw [(hr _ _ _).1 h1,(Cells.enc hr).1 h2]
  ·intro h;exact⟨_,_,h,(hr _ _ _).2 rfl,(Cells.enc hr).2 rfl⟩
theorem ygo{w:World}{b off n:Nat}{d:Array Value}{os:Array Obj}{cur:Array Value}{T:TypeId}(h:w.heap[b]? =some (.cells cur T (0,0))):(grow (putRow id (Sort.ahead w n) b off d) os).heap[b]? =some (.cells (putCells id off d cur) T (0,0)):=by
 have hb:b<w.heap.size:=(Array.getElem?_eq_some_iff.1 h).1;show((w.heap.modify b (onCells (putCells id off d)))++os)[b]? =_;rw [Array.getElem?_append_left (by simpa using hb),Array.getElem?_modify,if_pos rfl,h];rfl
theorem ygp{w:World}{b b' off n:Nat}{d:Array Value}{os:Array Obj}(hb:b'<w.heap.size)(hne:b'≠b):(grow (putRow id (Sort.ahead w n) b off d) os).heap[b']? =w.heap[b']? :=by
 show((w.heap.modify b (onCells (putCells id off d)))++os)[b']? =_;rw [Array.getElem?_append_left (by simpa using hb),Array.getElem?_modify,if_neg (Ne.symm hne)]
theorem RowT.sortK{α:Type}{r:Rep α}{enc:α→List Value}(hr:∀s cs x,r.rd s cs x↔cs=enc x)(hk:∀x,(enc x).length=r.sz)(k0:0<r.sz){s:Sig}{t:Nat}{T:TypeId}{a:Option Addr}{cap:Nat}{xs:List α}(h:RowT r s t T a cap xs)[Inhabited (_root_.Fin xs.length)](h0:0<xs.length)(ht:0<t):
  ∃b off,a=some ⟨b,off,none⟩∧b<s.w.heap.size∧s.tag b=t∧HoldsK (fun i:_root_.Fin xs.length=>enc (xs.get i)) r.sz s.w b off (List.finRange xs.length).toArray∧∀(d:Array (_root_.Fin xs.length)) (n:Nat) (os:Array Obj),d.size=xs.length→
   ∃s',sortWorldK (fun i=>enc (xs.get i)) r.sz s.w b off n d os=s'.w∧Mv (One t) s s'∧RowT r s' t T (some ⟨b,off,none⟩) cap (d.toList.map xs.get):=by
 obtain⟨cs,⟨hl,hrow⟩,hc⟩:=h;rcases hrow with ⟨e,hn⟩|⟨b,off,cap',cur,e,ho,k1,k2,k3,k4⟩
 ·omega
 simp only [Value.slice.injEq,true_and] at e;obtain⟨rfl,rfl⟩:=e;have hcs:=(Cells.enc hr).1 hc;have hkF:∀i:_root_.Fin xs.length,(enc (xs.get i)).length=r.sz:=fun i=>hk _;have hb:b<s.w.heap.size:=(Array.getElem?_eq_some_iff.1 ho.heap).1;have hdz:∀(d:Array (_root_.Fin xs.length)) (j:Nat),d.size=xs.length→j<xs.length*r.sz→∃(q:Nat) (hq:q<d.size) (x:Value),q=j/r.sz∧(enc (xs.get d[q]))[j % r.sz]? =some x∧(flatK (fun i:_root_.Fin xs.length=>enc (xs.get i)) r.sz d)[j]! =x:=fun d j hd hj=>by
  have hq:j/r.sz<d.size:=by rw [hd];exact Nat.div_lt_of_lt_mul (by rw [Nat.mul_comm];exact hj)
  have hm:j % r.sz<(enc (xs.get d[j/r.sz])).length:=by rw [hk];exact Nat.mod_lt _ k0
  refine⟨_,hq,_,rfl,yGe hm,?_⟩;rw [get_flatK _ _ _ _ (by rw [hd];exact hj),getElem!_pos d _ hq,getElem!_pos (enc (xs.get d[j/r.sz])) _ hm]
 refine⟨b,off,rfl,hb,ho.htag,fun j hj=>?_,fun d n os hd=>?_⟩
 ·have hj':j<xs.length*r.sz:=by simpa using hj
  obtain⟨q,hq,x,rfl,h1,h2⟩:=hdz (List.finRange xs.length).toArray j (by simp) hj';have hcell:cur[off+j]? =some x:=by
   have e2:cs[j]? =cur.toList[off+j]? :=by rw [←k4,List.getElem?_take,if_pos hj',List.getElem?_drop]
   rw [hcs,ycV hk k0] at e2;have hx:xs[j/r.sz]? =some (xs.get ((List.finRange xs.length).toArray[j/r.sz])):=by
    rw [yGe (by simpa using hq)];simp
   rw [hx,yOb,h1] at e2;rw [←Array.getElem?_toList];exact e2.symm
  refine⟨?_,?_⟩
  ·unfold World.cell?;rw [ho.heap];show cur[off+j]? =_;rw [hcell,h2];rfl
  ·unfold World.frozen?;rw [ho.heap];show(decide (0≤off+j)&&decide (off+j<0))=false;simp
 ·have hm:Mv (One t) s ⟨sortWorldK (fun i=>enc (xs.get i)) r.sz s.w b off n d os,fun b=>if b<s.w.heap.size then s.tag b else 0⟩:=⟨rfl,rfl,rfl,(by show _≤((s.w.heap.modify b _)++os).size;simp),fun b' hb' hn=>⟨ygp hb' fun e=>hn (by rw [e];exact ho.htag),if_pos hb'⟩⟩;refine⟨_,rfl,hm,(d.toList.map xs.get).flatMap enc,⟨by rw [yf1 hk],.inr ⟨b,off,cap,putCells id off (flatK (fun i:_root_.Fin xs.length=>enc (xs.get i)) r.sz d) cur,rfl,⟨ygo ho.heap,?_,yZl _⟩,?_,k2,?_,?_⟩⟩,(Cells.enc hr).2 rfl⟩
  ·show (if b<s.w.heap.size then s.tag b else 0)=t;rw [if_pos hb];exact ho.htag
  ·rw [List.length_map,Array.length_toList,hd];exact k1
  ·rw [putCells,Array.size_mapIdx];exact k3
  ·apply List.ext_getElem?;intro j;have hmul:xs.length*r.sz≤cap*r.sz:=Nat.mul_le_mul_right _ k1;rw [List.getElem?_take,List.getElem?_drop,List.length_map,Array.length_toList,hd,ycV hk k0,List.getElem?_map];by_cases hj:j<xs.length*r.sz
   ·obtain ⟨q,hq,x,rfl,h1,h2⟩:=hdz d j hd hj;rw [if_pos hj,Array.getElem?_toList,putCells,Array.getElem?_mapIdx,Array.getElem?_eq_getElem (by omega),Option.map_some,if_pos ⟨by omega,by rw [size_flatK,hd];omega⟩,Nat.add_sub_cancel_left,h2,Array.getElem?_toList,Array.getElem?_eq_getElem hq,Option.map_some,yOb,h1];rfl
   ·rw [if_neg hj];have hdj:¬j/r.sz<d.size:=fun hlt=>hj (by
     have:=(Nat.div_lt_iff_lt_mul k0).1 hlt;rw [hd] at this;exact this)
    rw [Array.getElem?_toList,Array.getElem?_eq_none (by omega)];rfl
end Go.Proofs.YtecmobjeeonmaaaGreatDoor
namespace Go.Proofs
open Go.Shelf
def Tryz.sortR_ren :Go.Shelf.Ren:=⟨fun|6=>199|15=>234|14=>233|28=>254|29=>255|20=>246|21=>247|22=>248|23=>249|24=>250|25=>251|26=>252|27=>253|46=>273|47=>274|48=>275|49=>276|50=>277|57=>299|n=>n,fun|22=>127|24=>286|25=>291|3=>3|39=>295|0=>0|53=>334|55=>336|4=>4|46=>328|45=>327|50=>170|5=>5|9=>9|66=>351|70=>355|76=>378|77=>58|n=>n,fun|n=>n⟩
theorem Tryz.sortR :Go.Proofs.SlLaysF0.n6 Tryz.prog Tryz.sortR_ren:={
 mixed:=by kernel_rfl
 f6:=⟨Tryz.f199.name,by decide,Tryz.func199.trans (congrArg some (by kernel_rfl))⟩
 f14:=⟨Tryz.f233.name,by decide,Tryz.func233.trans (congrArg some (by kernel_rfl))⟩
 f15:=Tryz.func234.trans (congrArg some (by kernel_rfl))
 f20:=⟨Tryz.f246.name,by decide,Tryz.func246.trans (congrArg some (by kernel_rfl))⟩
 f21:=⟨Tryz.f247.name,by decide,Tryz.func247.trans (congrArg some (by kernel_rfl))⟩
 f22:=⟨Tryz.f248.name,by decide,Tryz.func248.trans (congrArg some (by kernel_rfl))⟩
 f23:=⟨Tryz.f249.name,by decide,Tryz.func249.trans (congrArg some (by kernel_rfl))⟩
 f24:=⟨Tryz.f250.name,by decide,Tryz.func250.trans (congrArg some (by kernel_rfl))⟩
 f25:=⟨Tryz.f251.name,by decide,Tryz.func251.trans (congrArg some (by kernel_rfl))⟩
 f26:=⟨Tryz.f252.name,by decide,Tryz.func252.trans (congrArg some (by kernel_rfl))⟩
 f27:=⟨Tryz.f253.name,by decide,Tryz.func253.trans (congrArg some (by kernel_rfl))⟩
 f28:=Tryz.func254.trans (congrArg some (by kernel_rfl))
 f29:=Tryz.func255.trans (congrArg some (by kernel_rfl))
 f46:=⟨Tryz.f273.name,by decide,Tryz.func273.trans (congrArg some (by kernel_rfl))⟩
 f47:=Tryz.func274.trans (congrArg some (by kernel_rfl))
 f48:=Tryz.func275.trans (congrArg some (by kernel_rfl))
 f49:=⟨Tryz.f276.name,by decide,Tryz.func276.trans (congrArg some (by kernel_rfl))⟩
 f50:=⟨Tryz.f277.name,by decide,Tryz.func277.trans (congrArg some (by kernel_rfl))⟩
 f57:=⟨Tryz.f299.name,by decide,Tryz.func299.trans (congrArg some (by kernel_rfl))⟩
 t0:=Tryz.underlying0
 a0:=Tryz.isAgg0
 z0:=Tryz.sizeOf0
 v0:=Tryz.zeroValue0
 t3:=Tryz.underlying3
 a3:=Tryz.isAgg3
 z3:=Tryz.sizeOf3
 v3:=Tryz.zeroValue3
 t4:=Tryz.underlying4
 a4:=Tryz.isAgg4
 z4:=Tryz.sizeOf4
 v4:=Tryz.zeroValue4
 t5:=Tryz.underlying5
 a5:=Tryz.isAgg5
 z5:=Tryz.sizeOf5
 v5:=Tryz.zeroValue5
 t9:=Tryz.underlying9
 a9:=Tryz.isAgg9
 z9:=Tryz.sizeOf9
 v9:=Tryz.zeroValue9
 t22:=Tryz.underlying127
 a22:=Tryz.isAgg127
 z22:=Tryz.sizeOf127
 v22:=Tryz.zeroValue127
 t25:=Tryz.underlying291
 a25:=Tryz.isAgg291
 z25:=Tryz.sizeOf291
 v25:=Tryz.zeroValue291
 t39:=Tryz.underlying295
 a39:=Tryz.isAgg295
 z39:=Tryz.sizeOf295
 v39:=Tryz.zeroValue295
 t45:=Tryz.underlying327
 a45:=Tryz.isAgg327
 z45:=Tryz.sizeOf327
 v45:=Tryz.zeroValue327
 t46:=Tryz.underlying328
 a46:=Tryz.isAgg328
 z46:=Tryz.sizeOf328
 v46:=Tryz.zeroValue328
 t50:=Tryz.underlying170
 a50:=Tryz.isAgg170
 z50:=Tryz.sizeOf170
 v50:=Tryz.zeroValue170
 t53:=Tryz.underlying334
 a53:=Tryz.isAgg334
 z53:=Tryz.sizeOf334
 v53:=Tryz.zeroValue334
 t55:=Tryz.underlying336
 a55:=Tryz.isAgg336
 z55:=Tryz.sizeOf336
 v55:=Tryz.zeroValue336
 t66:=Tryz.underlying351
 a66:=Tryz.isAgg351
 z66:=Tryz.sizeOf351
 v66:=Tryz.zeroValue351
 t70:=Tryz.underlying355
 a70:=Tryz.isAgg355
 z70:=Tryz.sizeOf355
 v70:=Tryz.zeroValue355
 t76:=Tryz.underlying378
 a76:=Tryz.isAgg378
 z76:=Tryz.sizeOf378
 v76:=Tryz.zeroValue378
 t77:=Tryz.underlying58
 a77:=Tryz.isAgg58
 z77:=Tryz.sizeOf58
 v77:=Tryz.zeroValue58 }
end Go.Proofs
namespace Go.Proofs.YtecmobjeeonmaaaGreatDoor
open Go Go.RowKit Go.Sort Go.Lib
def encR(x:Int×Int×Int×Int):List Value:=[.int .i64 x.1,.int .i64 x.2.1,.int .i64 x.2.2.1,.int .i64 x.2.2.2]
theorem yjH(s:Sig)(cs:List Value)(x:Int×Int×Int×Int):(rP qI (rP qI (rP qI qI))).rd s cs x↔cs=encR x:=by
 constructor
 ·rintro ⟨_,_,rfl,rfl,_,_,rfl,rfl,_,_,rfl,rfl,rfl⟩;rfl
 ·rintro rfl;exact⟨_,_,rfl,rfl,_,_,rfl,rfl,_,_,rfl,rfl,rfl⟩
noncomputable def y1B(p0:List (Int×Int×Int×Int)):Option (List (Int×Int×Int×Int)):=
 if h:(∀x∈p0,0≤x.1∧x.1<4294967296)∧p0.length≤4294967296∧0<p0.length then
  haveI:Inhabited (_root_.Fin p0.length):=⟨⟨0,h.2.2⟩⟩
  some ((pdq (ltOf fun i j:_root_.Fin p0.length=>(p0.get i).1-(p0.get j).1) (List.finRange p0.length).toArray 0 p0.length (Lib.bitLen p0.length) true true).toList.map p0.get)
 else if p0= [] then some [] else none
set_option maxHeartbeats 2000000 in
theorem yfk(x y:Int×Int×Int×Int)(w:World)(hx:0≤x.1∧x.1<4294967296)(hy:0≤y.1∧y.1<4294967296):
  Calls Tryz.prog 200 #[.agg (encR x).toArray,.agg (encR y).toArray] w fun e w'=>e= .returned (.int .i64 (x.1-y.1))∧∃q os',w'=grow (w.drewN q) os':=by
 obtain⟨x1,x2,x3,x4⟩:=x;obtain⟨y1,y2,y3,y4⟩:=y;simp only at hx hy ⊢;show Calls Tryz.prog _ #[.agg #[.int .i64 x1,.int .i64 x2,.int .i64 x3,.int .i64 x4],.agg #[.int .i64 y1,.int .i64 y2,.int .i64 y3,.int .i64 y4]] w _
 go_enter Tryz.func200,Tryz.ntmps200
 go_wp2_with fail
 go_ret
 exact⟨rfl,0,_,by rw [alloc_eq_grow,alloc_eq_grow,grow_grow];rfl⟩
theorem y9t{s:Sig}{p0:List (Int×Int×Int×Int)}{t0:Nat}{a1:Option Addr}{c1:Nat}{r:List (Int×Int×Int×Int)}(zt0:0<t0)(h1:RowT (rP qI (rP qI (rP qI qI))) s t0 286 a1 c1 p0)(hm:y1B p0=some r):
  Calls Tryz.prog 199 #[.slice a1 p0.length c1,.func (.func 200) #[] #[]] s.w (RetS (One t0) s fun v s'=>v= .tuple #[]∧r.length=p0.length∧RowT (rP qI (rP qI (rP qI qI))) s' t0 286 a1 c1 r):=by
 unfold y1B at hm;split at hm
 ·rename_i h;obtain⟨hb,hl,h0⟩:=h
  letI:Inhabited (_root_.Fin p0.length):=⟨⟨0,h0⟩⟩
  obtain⟨b,off,rfl,hblk,htag,hH,hput⟩:=h1.sortK yjH (fun _=>rfl) (by decide) h0 zt0;have hin:∀i:_root_.Fin p0.length,0≤(p0.get i).1∧(p0.get i).1<4294967296:=fun i=>hb _ (List.get_mem _ _);have hO:SWO (ltOf fun i j:_root_.Fin p0.length=>(p0.get i).1-(p0.get j).1):=⟨fun i=>by unfold ltOf;simp,fun i j k g1 g2=>by unfold ltOf at *;simp at *;omega,fun i j k g1 g2=>by unfold ltOf at *;simp at *;omega⟩;have eg:∀args w,(callFunc 200 args).run Tryz.prog w= .ok (.enter 200 args) w:=enters_of Tryz.func200 (by kernel_rfl) rfl;have hsz:(List.finRange p0.length).toArray.size=p0.length:=by simp
  have hcmp:CmpLays Tryz.prog 200 #[] (fun i:_root_.Fin p0.length=>encR (p0.get i)) 4 (fun i j=>(p0.get i).1-(p0.get j).1) b off (List.finRange p0.length).toArray.size s.w:=fun m os dk hdk i j=>yfk _ _ _ (hin i) (hin j);have hS:=AnyQ.slices_SortFunc_eq Tryz.sortR 4 Tryz.isAgg286 Tryz.sizeOf286 (fun i:_root_.Fin p0.length=>encR (p0.get i)) (fun _=>rfl) (fun x v hv=>by simp [encR] at hv;rcases hv with rfl|rfl|rfl|rfl <;> rfl) (fun i j=>(p0.get i).1-(p0.get j).1) hO 200 #[] b off c1 (List.finRange p0.length).toArray s.w eg hcmp hH hblk (by rw [hsz];omega);rw [hsz] at hS;have hS:Calls Tryz.prog 199 #[.slice (some ⟨b,off,none⟩) p0.length c1,.func (.func 200) #[] #[]] s.w _:=hS;refine hS.mono ?_;rintro e w' ⟨rfl,n,os,rfl⟩;have hz:=(pdq_sorts (ltOf fun i j:_root_.Fin p0.length=>(p0.get i).1-(p0.get j).1) hO (List.finRange p0.length).toArray 0 p0.length (Lib.bitLen p0.length) true true (yZl _) (Nat.le_of_eq hsz.symm) (Or.inl rfl)).1.1;rw [hsz] at hz;obtain⟨s',hw',hm',hr⟩:=hput _ n os hz;cases hm;exact⟨_,s',hw',rfl,hm',rfl,by rw [List.length_map,Array.length_toList,hz],hr⟩
 ·split at hm
  ·rename_i h0;cases hm;subst h0;refine(AnyF.slices_SortFunc_none (P:=Tryz.prog) (ρ:=Tryz.sortR_ren) Tryz.sortR a1 c1 (.func (.func 200) #[] #[]) s.w).mono ?_;rintro e w' ⟨rfl,rfl⟩;exact⟨_,s,rfl,rfl,Mv.refl _ _,rfl,rfl,h1⟩
  ·cases hm
theorem y9u{p0:List (Int×Int×Int×Int)}{r:List (Int×Int×Int×Int)}(hm:y1B p0=some r):Fw Tryz.prog 199 ⟨1,[0]⟩ [.h 0,.o (lV (.func (.func 200) #[] #[]))] [ROW (rP qI (rP qI (rP qI qI))) 286 p0] (.tp []) [ROW (rP qI (rP qI (rP qI qI))) 286 r]:=
 ⟨fun ts β s vs ht _ _ hp ⟨v,us,h,⟨v2,us2,h2,hu,e3⟩,e2⟩ ho=>by
  have hu:us2= []:=hu;subst hu;subst e3;subst e2;obtain⟨rfl,_⟩:=h2;obtain⟨t,rfl⟩:∃t,ts= [t]:=by
   match ts,ht with
   | [t],_=>exact⟨t,rfl⟩
  obtain⟨a,c,e,h2⟩:=ho 0 _ rfl;have hv:v= .slice a p0.length c:=h.1.trans e;subst hv;exact Calls.mono (y9t (hp t (.head _)) h2 hm) fun en w' ⟨v,s',e1,e2,m,hv,hl,hr⟩=>⟨v,s',e1,e2,m.weak fun t' ht'=>⟨0,.head _,by rw [show t'=t from ht'];rfl⟩,β,fun _ _=>rfl,⟨[],rfl,hv⟩,fun i o ho=>by
   match i,ho with
   | 0,ho=>cases ho;exact⟨a,c,by rw [e,hl],hr⟩⟩⟩
end Go.Proofs.YtecmobjeeonmaaaGreatDoor
set_option maxRecDepth 100000
set_option maxHeartbeats 8000000
namespace Go.Proofs.YtecmobjeeonmaaaGreatDoor
open Go Go.RowKit
noncomputable section
def y3W(a:Int×List Int×List Int)(b:List Int)(c:List Int):Option ((Int×List Int×List Int)⊕(List Int×List Int)):=
 some (.inl (W (a.1+1),b,c))
def y3X(c:(List (Int×Int×Int×Int))×Int×List Bool)(b:List Int)(a:Int×List Int×List Int):Option ((Int×List Int×List Int)⊕(List Int×List Int)):=
 if decide (a.1<(b.length:Int)) then
  (idx b a.1).bind fun d=>
  (idx c.2.2 a.1).bind fun e=>
  if e then
   (app a.2.1 ([a.1]:List Int)).bind fun f=>
   (app a.2.2 ([d]:List Int)).bind fun g=>
   y3W a f g
  else
   y3W a a.2.1 a.2.2
 else
  some (.inr a.2)
def y3Y(b:(List (Int×Int×Int×Int)))(a:Int×List Bool):Option ((Int×List Bool)⊕(List Bool)):=
 if decide (a.1<(b.length:Int)) then
  (idx b a.1).bind fun c=>
  (idx a.2 c.1).bind fun e=>
  (upd a.2 c.1 false).bind fun d=>
  some (.inl (W (a.1+1),d))
 else
  some (.inr a.2)
def y5H(p3:Bool)(c:(AutT×List Int×(List (Int×List Int))×List Bool))(a:Int×(List (Int×Int×Int×Int))×Int×List Bool):Option ((Int×(List (Int×Int×Int×Int))×Int×List Bool)⊕((List (Int×Int×Int×Int))×Int×List Bool)):=
 (y4r (c.1,c.2.1,c.2.2.1,a.2.2.2) a.1 p3).bind fun b=>
 if((b.length:Int)==0) then
  some (.inr a.2)
 else
  (iter (y3Y b) (0,a.2.2.2)).bind fun d=>
  (app a.2.1 b).bind fun e=>
  some (.inl (W (a.1+1),e,a.1,d))
def y5I(p1:List Int)(a:Int×(List (Int×Int×Int×Int))×Int):Option ((Int×(List (Int×Int×Int×Int))×Int)⊕((List (Int×Int×Int×Int))×Int)):=
 if decide (a.1<(p1.length:Int)) then
  (idx p1 a.1).bind fun b=>
  (app a.2.1 ([(b,1,1,(-1))]:List (Int×Int×Int×Int))).bind fun c=>
  some (.inl (W (a.1+1),c,1))
 else
  some (.inr a.2)
def y6N(p0:AutT)(p1:List Int)(p2:List Int)(p3:Bool):Option ((List Int×List Int×(List (Int×Int×Int×Int)))×Int×AutT×List Int):=
 (y7a p0 p1 p2).bind fun b=>
 (iter (y5I p1) (0,([]:List (Int×Int×Int×Int)),0)).bind fun c=>
 (iter (y5H p3 b) (2,c.1,c.2,b.2.2.2)).bind fun a=>
 (y1B a.1).bind fun e=>
 (y1D (b.1,b.2.1,b.2.2.1,a.2.2)).bind fun f=>
 (iter (y3X a f) (0,([]:List Int),([]:List Int))).bind fun d=>
 (y2E (b.1,b.2.1,b.2.2.1,a.2.2)).bind fun g=>
 some ((d.1,d.2,e),a.2.1,g)
theorem ybl{p0:AutT}{p1:List Int}{p2:List Int}{p3:Bool}{r:((List Int×List Int×(List (Int×Int×Int×Int)))×Int×AutT×List Int)}(hm:y6N p0 p1 p2 p3=some r):
  F0 147 [.a (lx35 p0),.f qI p1,.f qI p2,.b p3] [] (.g [lH 0,lH 1,lH 2,lI r.2.1,lH 3,lI r.2.2.1.2.1,lH 4,lH 5,lH 6]) [rwI r.1.1,rwI r.1.2.1,ROW rE286 286 r.1.2.2,rwI r.2.2.1.1,rwI r.2.2.1.2.2.1,ROW qT 124 r.2.2.1.2.2.2,rwI r.2.2.2]:=by
 refine Fw.mk2 Tryz.func147 Tryz.ntmps147 R (fun C=>?_) R;refine .sr (.bo 0 R (.al 1 zz131 R (.nr (.lg (lx35 p0) ag35 R (.B R) R (.mv R (.mv R (bS hm fun d b6 hm=> .op (O.ca (r':= .q 2 0) [2,3] [(1,ROW rB 4 d.2.2.2),(0,.bx 289 [lF qI d.1.1,lI d.1.2.1,lF qI d.1.2.2.1,lF qT d.1.2.2.2,lF qI d.2.1,lM kvI (rL qI) d.2.2.1,lH 3])] (some 4) (ybI b6) cf197 R R Z R R R R ⟨⟨_,R,I4⟩,⟨_,R,I4⟩,trivial⟩ I3 R) R (.an R (.sr (.al 4 zz131 R (.ns (.seq (.sr (.mv R (.ln sl32 R (.mv R (.ns (.block (bS hm fun x N hm=>?_)))))))))))))))))));refine .cut1 (z:= .exit 0) x (fun (x:(List (Int×Int×Int×Int))×Int)=>⟨[(10,.q 0 0),(9,.q 2 0),(8,.q 4 0),(3,.b p3)],[(0,.bx 131 [lN,lN,lH 1,lI x.2,lN,lI 0,lN,lN,lN]),(1,ROW rE286 286 x.1),(2,.bx 289 [lF qI d.1.1,lI d.1.2.1,lF qI d.1.2.2.1,lF qT d.1.2.2.2,lF qI d.2.1,lM kvI (rL qI) d.2.2.1,lH 3]),(3,ROW rB 4 d.2.2.2),(4,.bx 131 [lN,lN,lN,lI 0,lN,lI 0,lN,lN,lN])],5⟩) ?_ fun b2=>?_
 ·skip
  refine .blkE (.seqN (.seq (.sr (.an R (.block (bS hm fun j P hm=>?_))))));refine .cut1 (z:= .exit 2) j (fun (j:(List (Int×Int×Int×Int))×Int×List Bool)=>⟨[(10,.q 0 0),(9,.q 2 0),(8,.q 4 0)],[(0,.bx 131 [lN,lN,lH 1,lI j.2.1,lN,lI 0,lN,lN,lN]),(1,ROW rE286 286 j.1),(2,.bx 289 [lF qI d.1.1,lI d.1.2.1,lF qI d.1.2.2.1,lF qT d.1.2.2.2,lF qI d.2.1,lM kvI (rL qI) d.2.2.1,lH 3]),(3,ROW rB 4 j.2.2),(4,.bx 131 [lN,lN,lN,lI 0,lN,lI 0,lN,lN,lN])],5⟩) ?_ fun b3=>?_
  ·skip
   refine .blkE (.seqN (.sr (.fa y7U R (.fa yaP R (.lb ybU R (bS hm fun D T hm=> .op (O.ca (r':= .tp []) [1] [(0,ROW rE286 286 D)] none (y9u T) cf199 R R Z R R R R ⟨⟨_,R,I4⟩,trivial⟩ I3 R) R (.ns (.seq (.sr (.mv R (bS hm fun u U hm=> .op (O.caY (r':= .h 5) [5] [(0,rwI u)] (some 6) (y6G U) cf201 R R Z R R ⟨⟨R,(.q R ⟨.rf,.rf,.rf,.rf,.rf,.rf,.hr R,trivial⟩),trivial⟩,trivial⟩ R ⟨.row flr3,trivial⟩ (fun _ _ _ _ h=>h) ⟨⟨_,R,I4⟩,trivial⟩ I3 R) R (.lh sl32 R (.mv R (.ns (.block (bS hm fun y Q hm=>?_))))))))))))))));refine .cut1 (z:= .exit 6) y (fun (y:List Int×List Int)=>⟨[(10,.q 0 0),(9,.q 4 0),(8,.q 6 0)],[(0,.bx 131 [lH 1,lH 2,lH 3,lI j.2.1,lN,lI 0,lN,lN,lN]),(1,rwI y.1),(2,rwI y.2),(3,ROW rE286 286 D),(4,.bx 289 [lF qI d.1.1,lI d.1.2.1,lF qI d.1.2.2.1,lF qT d.1.2.2.2,lF qI d.2.1,lM kvI (rL qI) d.2.2.1,lH 5]),(5,ROW rB 4 j.2.2),(6,.bx 131 [lN,lN,lN,lI 0,lN,lI 0,lN,lN,lN])],7⟩) ?_ fun b4=>?_
   ·skip
    refine .blkE (.seqN (.sr (.mv R (bS hm fun s V hm=> .op (O.caY (r':= .tp [.a [lH 7,lI s.1.2.1,lH 8,lH 9],.h 10]) [7,8,9,10] [(0,rwI s.1.1),(1,rwI s.1.2.2.1),(2,ROW qT 124 s.1.2.2.2),(3,rwI s.2)] (some 11) (y8k V) cf202 R R Z R R ⟨⟨R,(.q R ⟨.rf,.rf,.rf,.rf,.rf,.rf,.hr R,trivial⟩),trivial⟩,trivial⟩ R ⟨.row flr3,.row flr3,.row y4Q,.row flr3,trivial⟩ (fun _ _ _ _ h=>h) ⟨⟨_,R,I4⟩,⟨_,R,I4⟩,⟨_,R,I4⟩,⟨_,R,I4⟩,trivial⟩ I3 R) R (.mv R (.ex R (.ex R (.fa yfS R (.st ag35.sz R (.fa yjx R (.st nag32.sz R (.nr (.lg [lH 1,lH 2,lH 3,lI j.2.1,lH 7,lI s.1.2.1,lH 8,lH 9,lH 10] ag131 R (.B R) R (.st ag131.sz R (.ns (.ret ?_))))))))))))))));cases hm;exact .rr [1,2,3,7,8,9,10] Tryz.results147 (.cell R R ag131 R .nil) R I3 ⟨⟨_,R,I4⟩,⟨_,R,I4⟩,⟨_,R,I4⟩,⟨_,R,I4⟩,⟨_,R,I4⟩,⟨_,R,I4⟩,⟨_,R,I4⟩,trivial⟩
   refine .nlb qI 3 0 0 R R (.nlb qI 3 0 1 R R (.iter (fun (l:Int×List Int×List Int)=>⟨[(79,.i l.1),(78,.i u.length),(77,.h 0),(10,.q 1 0),(9,.q 5 0),(8,.q 7 0)],[(0,rwI u),(1,.bx 131 [lH 2,lH 3,lH 4,lI j.2.1,lN,lI 0,lN,lN,lN]),(2,rwI l.2.1),(3,rwI l.2.2),(4,ROW rE286 286 D),(5,.bx 289 [lF qI d.1.1,lI d.1.2.1,lF qI d.1.2.2.1,lF qT d.1.2.2.2,lF qI d.2.1,lM kvI (rL qI) d.2.2.1,lH 6]),(6,ROW rB 4 j.2.2),(7,.bx 131 [lN,lN,lN,lI 0,lN,lI 0,lN,lN,lN])],8⟩) Q [(0,5),(1,0),(2,6),(3,7),(4,1),(5,2),(6,3),(7,4)] R ?_));intro l K hm b0 a6;refine .sr (.bi R (.ns (.seq ?_)));refine .cc hm R (fun hm=>?_) fun hm=> .exit (.seqX (.seqX ((b4 _ (a6 _ (oj hm))).sub [(0,1),(1,2),(2,3),(3,4),(4,5),(5,6),(6,7)] R)));refine .skip (.seqN ?_);refine .join2 (fun (v:List Int) (w:List Int)=>y3W l v w=some K) (fun v w=>⟨[(79,.i l.1),(78,.i u.length),(77,.h 0),(10,.q 1 0),(9,.q 5 0),(8,.q 7 0)],[(0,rwI u),(1,.bx 131 [lH 2,lH 3,lH 4,lI j.2.1,lN,lI 0,lN,lN,lN]),(2,rwI v),(3,rwI w),(4,ROW rE286 286 D),(5,.bx 289 [lF qI d.1.1,lI d.1.2.1,lF qI d.1.2.2.1,lF qT d.1.2.2.2,lF qI d.2.1,lM kvI (rL qI) d.2.2.1,lH 6]),(6,ROW rB 4 j.2.2),(7,.bx 131 [lN,lN,lN,lI 0,lN,lI 0,lN,lN,lN])],8⟩) ?_ ?_
   ·intro v w hm;exact .reg (.bi R (.mv R (.nil ((b0 _ (oj hm)).sub [] R))))
   ·intro E;refine .block (.sr (.mv R (bS hm fun b7 F hm=> .op (O.ir sl32 Z R R R F R) R (.op (O.ld nag3 Z R (.R R F lv3) R R) R (.sa R (.an R (.sr (.mv R (.op (O.nc .B Z R R) R (.fa y6K R (.lb y2q R (.mv R (bS hm fun c2 G hm=> .op (O.ir sl144 Z R R R G R) R (.op (O.ld nag4 Z R (.R R G lv4) R R) R (.ns ?_)))))))))))))));exact .cc hm R (fun hm=> .sr (.fa y7U R (.fa yfP R (.lb nag32 R (.mv R (.bf (r:=qI) ([l.1]:List Int) bs32 R (.c .k .n) R (bS hm fun c3 X hm=> .op (O.ap 8 Tryz.underlying32 el3 R R Z R R (.fr R) X R) R (.fa y7U R (.fa yfP R (.st nag32.sz R (.ns (.reg (.fa y7U R (.fa yfQ R (.lb nag32 R (.mv R (.bf (r:=qI) ([b7]:List Int) bs32 R (.c .k .n) R (bS hm fun c4 Y hm=> .op (O.ap 9 Tryz.underlying32 el3 R R Z R R (.fr R) Y R) R (.fa y7U R (.fa yfQ R (.st nag32.sz R (.nil (.blkN ((E _ _ hm).sub [(2,8),(3,9)] R)))))))))))))))))))))))) fun hm=> .skip (.blkN ((E _ _ hm).sub [] R))
  refine .iter (fun (e:Int×(List (Int×Int×Int×Int))×Int×List Bool)=>⟨[(13,.i e.1),(10,.q 0 0),(9,.q 2 0),(8,.q 4 0),(3,.b p3)],[(0,.bx 131 [lN,lN,lH 1,lI e.2.2.1,lN,lI 0,lN,lN,lN]),(1,ROW rE286 286 e.2.1),(2,.bx 289 [lF qI d.1.1,lI d.1.2.1,lF qI d.1.2.2.1,lF qT d.1.2.2.2,lF qI d.2.1,lM kvI (rL qI) d.2.2.1,lH 3]),(3,ROW rB 4 e.2.2.2),(4,.bx 131 [lN,lN,lN,lI 0,lN,lI 0,lN,lN,lN])],5⟩) P [] R ?_;intro e c0 hm a9 a5;refine .seq (.block (.sr (.mv R (.mv R (.mv R (bS hm fun o W hm=> .op (O.caY (r':= .h 5) [5] [(0,ROW rE286 286 o)] (some 6) (y9E W) cf198 R R Z R R ⟨⟨R,(.q R ⟨.rf,.rf,.rf,.rf,.rf,.rf,.hr R,trivial⟩),trivial⟩,⟨R,LnL.rf⟩,⟨R,LnL.rf⟩,trivial⟩ R ⟨.row yhe,trivial⟩ (fun _ _ _ _ h=>h) ⟨⟨_,R,I4⟩,trivial⟩ I3 R) R (.an R (.seq (.sr (.mv R (.lh sl127 R (.bi R (.ns ?_)))))))))))));refine .cc hm R (fun hm=> .exit (.seqX (.blkX R (.seqX (.seqX ((b3 _ (a5 _ (oj hm))).sub [] R)))))) fun hm=>?_;refine .skip (.seqN (.seq (.sr (.mv R (.lh sl127 R (.mv R (.ns (.block (bS hm fun J S hm=>?_)))))))));refine .cut1 (z:= .exit 4) J (fun (J:List Bool)=>⟨[(14,.h 0),(13,.i e.1),(10,.q 1 0),(9,.q 3 0),(8,.q 5 0),(3,.b p3)],[(0,ROW rE286 286 o),(1,.bx 131 [lN,lN,lH 2,lI e.2.2.1,lN,lI 0,lN,lN,lN]),(2,ROW rE286 286 e.2.1),(3,.bx 289 [lF qI d.1.1,lI d.1.2.1,lF qI d.1.2.2.1,lF qT d.1.2.2.2,lF qI d.2.1,lM kvI (rL qI) d.2.2.1,lH 4]),(4,ROW rB 4 J),(5,.bx 131 [lN,lN,lN,lI 0,lN,lI 0,lN,lN,lN])],6⟩) ?_ fun b5=>?_
  ·skip
   exact .blkE (.seqN (.sr (.fa y7U R (.fa yaP R (.lb ybU R (.mv R (bS hm fun c5 a0 hm=> .op (O.ap 6 Tryz.underlying127 el286 R R Z R R (.ow R R) a0 R) R (.fa y7U R (.fa yaP R (.st ybU.sz R (.ns (.reg (.mv R (.fa yfR R (.st nag3.sz R (.nil (.blkN (.seqN (.reg (.mv R (.bi R (.sa R (.nil ((a9 _ (oj hm)).sub [(0,1),(1,6),(2,3),(3,4),(4,5)] R))))))))))))))))))))))))
  refine .iter (fun (m:Int×List Bool)=>⟨[(51,.i m.1),(50,.i o.length),(49,.h 0),(14,.h 0),(13,.i e.1),(10,.q 1 0),(9,.q 3 0),(8,.q 5 0),(3,.b p3)],[(0,ROW rE286 286 o),(1,.bx 131 [lN,lN,lH 2,lI e.2.2.1,lN,lI 0,lN,lN,lN]),(2,ROW rE286 286 e.2.1),(3,.bx 289 [lF qI d.1.1,lI d.1.2.1,lF qI d.1.2.2.1,lF qT d.1.2.2.2,lF qI d.2.1,lM kvI (rL qI) d.2.2.1,lH 4]),(4,ROW rB 4 m.2),(5,.bx 131 [lN,lN,lN,lI 0,lN,lI 0,lN,lN,lN])],6⟩) S [(0,5),(1,0),(2,1),(3,2),(4,3),(5,4)] R ?_;intro m c1 hm b1 a7;refine .sr (.bi R (.ns (.seq ?_)));refine .cc hm R (fun hm=>?_) fun hm=> .exit (.seqX (.seqX ((b5 _ (a7 _ (oj hm))).sub [] R)));refine .skip (.seqN (.seq (.block (.sr (bS hm fun L H hm=> .op (O.ir sl127 Z R R R H R) R (.lg (lx286 L) ag286 R (.R R H lv286) R (.al 6 zz286 R (.st ag286.sz R (.ns ?_)))))))));refine .sub (τ:=⟨[(16,.q 6 0),(51,.i m.1),(50,.i o.length),(49,.h 0),(14,.h 0),(13,.i e.1),(10,.q 1 0),(9,.q 3 0),(8,.q 5 0),(3,.b p3)],[(6,.bx 286 (lx286 L)),(0,ROW rE286 286 o),(1,.bx 131 [lN,lN,lH 2,lI e.2.2.1,lN,lI 0,lN,lN,lN]),(2,ROW rE286 286 e.2.1),(3,.bx 289 [lF qI d.1.1,lI d.1.2.1,lF qI d.1.2.2.1,lF qT d.1.2.2.2,lF qI d.2.1,lM kvI (rL qI) d.2.2.1,lH 4]),(4,ROW rB 4 m.2),(5,.bx 131 [lN,lN,lN,lI 0,lN,lI 0,lN,lN,lN])],7⟩) ?_ [] R;refine bS hm fun c6 I hm=>bS hm fun b8 a1 hm=>?_;refine .drg 7 [(7,[]),(7,[oT]),(7,[oT,oT]),(7,tT 3),(7,[]),(7,[oF,oF,oF,oF,oT]),(7,tT 6),(7,tT 7)] [_,_,_,_,_,_,_,_] ⟨[(51,.i m.1),(50,.i o.length),(49,.h 0),(14,.h 0),(13,.i e.1),(10,.q 1 0),(9,.q 3 0),(8,.q 5 0),(3,.b p3)],[(0,ROW rE286 286 o),(1,.bx 131 [lN,lN,lH 2,lI e.2.2.1,lN,lI 0,lN,lN,lN]),(2,ROW rE286 286 e.2.1),(3,.bx 289 [lF qI d.1.1,lI d.1.2.1,lF qI d.1.2.2.1,lF qT d.1.2.2.2,lF qI d.2.1,lM kvI (rL qI) d.2.2.1,lH 4]),(4,ROW rB 4 b8),(5,.bx 131 [lN,lN,lN,lI 0,lN,lI 0,lN,lN,lN])],7⟩ ⟨O.mv Z R R,O.nc .B Z R R,O.faP y6K Z R R,O.ld y2q Z R (.B R) R R,O.faP yfO Z R R,O.ld nag3 Z R (.B R) R R,O.ir sl144 Z R R R I R,O.su (z:=false) nag4.sz Z R R I a1 R R R lv4 R .b,trivial⟩ (by kernel_rfl) R ?_;exact .blkN (.seqN (.reg (.bi R (.mv R (.nil ((b1 _ (oj hm)).sub [] R))))))
 refine .nlb rE286 286 4 2 R R (.iter (fun (t:Int×(List (Int×Int×Int×Int))×Int)=>⟨[(25,.i t.1),(24,.i p1.length),(23,.f qI p1),(10,.q 0 0),(9,.q 2 0),(8,.q 4 0),(3,.b p3)],[(0,.bx 131 [lN,lN,lH 1,lI t.2.2,lN,lI 0,lN,lN,lN]),(1,ROW rE286 286 t.2.1),(2,.bx 289 [lF qI d.1.1,lI d.1.2.1,lF qI d.1.2.2.1,lF qT d.1.2.2.2,lF qI d.2.1,lM kvI (rL qI) d.2.2.1,lH 3]),(3,ROW rB 4 d.2.2.2),(4,.bx 131 [lN,lN,lN,lI 0,lN,lI 0,lN,lN,lN])],5⟩) N [(0,4),(1,5),(4,1)] R ?_);intro t b9 hm a8 a4;refine .sr (.bi R (.ns (.seq ?_)));exact .cc hm R (fun hm=> .skip (.seqN (.seq (.block (.sr (bS hm fun M a2 hm=> .ix sl32 a2 R (.le nag3 lv3 R (.an R (.sr (.fa y7U R (.fa yaP R (.lb ybU R (.mv R (.bu [lI M,lI 1,lI 1,lI (-1)] pl286 R (.op (O.bsF (r:=rE286) (zs:=([(M,1,1,(-1))]:List (Int×Int×Int×Int))) bs127 R R Z R R R (.c (.p .k (.p .k (.p .k .k))) .n) R R R) R (bS hm fun c7 a3 hm=> .op (O.ap 5 Tryz.underlying127 el286 R R Z R R (.fr R) a3 R) R (.fa y7U R (.fa yaP R (.st ybU.sz R (.ns (.reg (.fa yfR R (.st nag3.sz R (.nil (.blkN (.seqN (.reg (.bi R (.mv R (.nil ((a8 _ (oj hm)).sub [(1,5)] R))))))))))))))))))))))))))))))) fun hm=> .exit (.seqX (.seqX ((b2 _ (a4 _ (oj hm))).sub [] R)))
def y3w(p0:AutT)(p1:List Int)(p2:List Int):Option (((List Int×List Int×(List (Int×Int×Int×Int)))×Int×AutT×List Int)×Int):=
 (y6Z p0 p1 p2).bind fun a=>
 if(a != 0) then
  some (((([]:List Int),([]:List Int),([]:List (Int×Int×Int×Int))),0,(([]:List Int),0,([]:List Int),([]:List (Int×Int×Int))),([]:List Int)),a)
 else
  (y6N p0 p1 p2 true).bind fun b=>
  some (b,0)
theorem yaa{p0:AutT}{p1:List Int}{p2:List Int}{r:((List Int×List Int×(List (Int×Int×Int×Int)))×Int×AutT×List Int)×Int}(hm:y3w p0 p1 p2=some r):
    F0 74 [.a (lx35 p0),.f qI p1,.f qI p2] [] (.tp [.a [lH 0,lH 1,lH 2,lI r.1.2.1,lH 3,lI r.1.2.2.1.2.1,lH 4,lH 5,lH 6],.i r.2]) [rwI r.1.1.1,rwI r.1.1.2.1,ROW rE286 286 r.1.1.2.2,rwI r.1.2.2.1.1,rwI r.1.2.2.1.2.2.1,ROW qT 124 r.1.2.2.1.2.2.2,rwI r.1.2.2.2]:=by
  refine Fw.mk2 Tryz.func74 Tryz.ntmps74 R (fun C=>?_) R;refine .sr (.bo 0 R (.al 1 zz131 R (.an R (.seq (.sr (.lg (lx35 p0) ag35 R (.B R) R (.mv R (.mv R (bS hm fun e c hm=> .c0 (ybH c) cf146 R (.an R (.sr (.mv R (.bi R (.ns ?_))))))))))))));refine .cc hm R (fun hm=>?_) fun hm=>?_
  ·refine .sr (.bu [lN,lN,lN,lI 0,lN,lI 0,lN,lN,lN] pl131 R (.mv R (.st ag131.sz R (.an R (.ret (.seqR (.nlb qI 3 1 0 R R (.nlb qI 3 1 1 R R (.nlb rE286 286 1 2 R R (.nlb qI 3 1 4 R R (.nlb qI 3 1 6 R R (.nlb qT 124 1 7 R R (.nlb qI 3 1 8 R R ?_)))))))))))));cases hm;exact .rr [2,3,4,5,6,7,8] Tryz.results74 (.cell R R ag131 R (.tmp R .nil)) R I3 ⟨⟨_,R,I4⟩,⟨_,R,I4⟩,⟨_,R,I4⟩,⟨_,R,I4⟩,⟨_,R,I4⟩,⟨_,R,I4⟩,⟨_,R,I4⟩,trivial⟩
  ·refine .skip (.seqN (.sr (.lg (lx35 p0) ag35 R (.B R) R (.mv R (.mv R (bS hm fun b d hm=> .op (O.ca (r':= .g [lH 2,lH 3,lH 4,lI b.2.1,lH 5,lI b.2.2.1.2.1,lH 6,lH 7,lH 8]) [2,3,4,5,6,7,8] [(0,rwI b.1.1),(1,rwI b.1.2.1),(2,ROW rE286 286 b.1.2.2),(3,rwI b.2.2.1.1),(4,rwI b.2.2.1.2.2.1),(5,ROW qT 124 b.2.2.1.2.2.2),(6,rwI b.2.2.2)] (some 9) (ybl d) cf147 R R Z R R R R ⟨⟨_,R,I4⟩,⟨_,R,I4⟩,⟨_,R,I4⟩,⟨_,R,I4⟩,⟨_,R,I4⟩,⟨_,R,I4⟩,⟨_,R,I4⟩,trivial⟩ I3 R) R (.st ag131.sz R (.an R (.ret ?_)))))))));cases hm;exact .rr [2,3,4,5,6,7,8] Tryz.results74 (.cell R R ag131 R (.tmp R .nil)) R I3 ⟨⟨_,R,I4⟩,⟨_,R,I4⟩,⟨_,R,I4⟩,⟨_,R,I4⟩,⟨_,R,I4⟩,⟨_,R,I4⟩,⟨_,R,I4⟩,trivial⟩
end
end Go.Proofs.YtecmobjeeonmaaaGreatDoor
