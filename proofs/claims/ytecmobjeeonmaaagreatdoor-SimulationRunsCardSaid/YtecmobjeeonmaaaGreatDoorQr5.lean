/- Parts of the proof, without what nothing here names. -/
import Derived.Test.YtecmobjeeonmaaaGreatDoorProg
import Derived.Lib.AppendZeros
import Derived.Test.YtecmobjeeonmaaaGreatDoorQr4
set_option maxRecDepth 100000
set_option maxRecDepth 100000
set_option maxHeartbeats 8000000
namespace Go.Proofs.YtecmobjeeonmaaaGreatDoor
open Go Go.RowKit
noncomputable section
variable{p0:Bool}{p1:Int}{r:Bool}
def y2X(p0:PbT)(p1:List Int)(a:Int):Option (Int⊕(Unit⊕Int)):=
 if decide (a<(p1.length:Int)) then
  (idx p1 a).bind fun b=>
  (yf p0.1.1 b).bind fun c=>
  if(!c) then
   some (.inr (.inr (9)))
  else
   (yf p0.2.2 b).bind fun d=>
   if(!d) then
    some (.inr (.inr (13)))
   else
    (slc p1 0 a).bind fun f=>
    (yf f b).bind fun e=>
    if e then
     some (.inr (.inr (8)))
    else
     some (.inl (W (a+1)))
 else
  some (.inr (.inl ()))
def y3X(p0:PbT)(p1:List Int):Option Int:=
 if decide ((p1.length:Int)>3) then
  some 3
 else
  (iter (y2X p0 p1) 0).bind fun b=>
  match b with
  | .inl c=>
   some 0
  | .inr (a)=>
   some a
theorem y9q{p0:PbT}{p1:List Int}{r:Int}(hm:y3X p0 p1=some r):
    F0 137 [.a (lx37 p0),.f qI p1] [] (.i r) []:=by
  unfold y3X at hm;refine Fw.mk2 Tryz.func137 Tryz.ntmps137 R (fun C=>?_) R;refine .sr (.bo 0 R (.an R (.seq (.sr (.mv R (.ln sl32 R (.bi R (.ns ?_))))))));refine .cc hm R (fun hm=>?_) fun hm=>?_
  ·refine .sr (.an R (.ret (.seqR ?_)));cases hm;exact .rr [] Tryz.results137 (.tmp R .nil) R I3 trivial
  ·refine .skip (.seqN (.seq (.sr (.mv R (.ln sl32 R (.mv R (.ns (.block (bS hm fun s o hm=>?_)))))))));refine .cutU (z:= .exit 0) (fun e=> .inl e=s) (fun (e:Unit)=>⟨[],[],0⟩) ?_ fun n=>?_
   · rintro e rfl;dsimp only at hm;refine .blkE (.seqN (.sr (.an R (.ret ?_))));cases hm;exact .rr [] Tryz.results137 (.tmp R .nil) R I3 trivial
   refine .cutU (z:= .ret) (fun c=> .inr (c)=s) (fun (c:Int)=>⟨[(4,.i c)],[],0⟩) ?_ fun d=>?_
   · rintro c rfl;dsimp only at hm;refine .blkR (.seqR ?_);cases hm;exact .rr [] Tryz.results137 (.tmp R .nil) R I3 trivial
   refine .iter (fun (g:Int)=>⟨[(12,.i g),(11,.i (p1.length:Int)),(10,.f qI p1),(2,.q 0 0),(1,.f qI p1)],[(0,.bx 37 (lx37 p0))],1⟩) o [] R ?_;intro g t hm p b;unfold y2X at hm;refine .sr (.bi R (.ns (.seq ?_)));refine .cc hm R (fun hm=>?_) fun hm=> .exit (.seqX (.seqX ((n _ (b _ (oi hm).symm)).sub [] R)));refine .skip (.seqN (.seq (.block (.sr (.mv R (bS hm fun x l hm=> .ix sl32 l R (.le nag3 lv3 R (.sa R (.an R (.block (.sr (.fa y3k R (.fa yH R (.lb nag32 R (.mv R (bS hm fun u h hm=> .c0 (yk h) cf104 R (.op (O.not Z R R) R (.an R ?_))))))))))))))))));refine .cc hm R (fun hm=> .sr (.an R (.ret (.blkR (.blkR (.seqR (.seqR ((d _ (b _ (oi hm).symm)).sub [] R)))))))) fun hm=>?_;refine .sr (.fa y8Z R (.lb nag32 R (.mv R (bS hm fun v j hm=> .c0 (yk j) cf104 R (.op (O.not Z R R) R (.an R ?_))))));refine .cc hm R (fun hm=> .sr (.an R (.ret (.blkR (.blkR (.seqR (.seqR ((d _ (b _ (oi hm).symm)).sub [] R)))))))) fun hm=>?_;refine .sr (.mv R (.mv R (bS hm fun y m hm=> .op (O.sh sl32 Z R R m R) R (.mv R (bS hm fun w k hm=> .c0 (yk k) cf104 R (.an R ?_))))));exact .cc hm R (fun hm=> .sr (.an R (.ret (.blkR (.blkR (.seqR (.seqR ((d _ (b _ (oi hm).symm)).sub [] R)))))))) fun hm=> .skip (.blkN (.blkN (.seqN (.reg (.bi R (.mv R (.nil ((p _ (oi hm).symm).sub [] R))))))))
def y1U(a:Int):Option (Int⊕(Unit⊕Int)):=
 some (.inl (W (a+1)))
def y1V(p0:PbT)(b:CycT)(a:Int):Option (Int⊕(Unit⊕Int)):=
 if decide (a<(([b.1,b.2.1]:List (List Int)).length:Int)) then
  (idx ([b.1,b.2.1]:List (List Int)) a).bind fun d=>
  (y3X p0 d).bind fun c=>
  if(c != 0) then
   some (.inr (.inr (c)))
  else
   some (.inl (W (a+1)))
 else
  some (.inr (.inl ()))
def y2Y(p0:PbT)(p1:List CycT)(a:Int):Option (Int⊕(Unit⊕Int)):=
 if decide (a<(p1.length:Int)) then
  (idx p1 a).bind fun b=>
  (iter (y1V p0 b) 0).bind fun c=>
  match c with
  | .inl g=>
   if(b.2.2==(-1)) then
    y1U a
   else
    (yf p0.1.1 b.2.2).bind fun d=>
    if(!d) then
     some (.inr (.inr (9)))
    else
     (yf p0.2.2 b.2.2).bind fun e=>
     if e then
      some (.inr (.inr (13)))
     else
      y1U a
  | .inr (f)=>
   some (.inr (.inr (f)))
 else
  some (.inr (.inl ()))
def y3Y(p0:PbT)(p1:List CycT):Option Int:=
 (y1h p0).bind fun b=>
 if(b != 0) then
  some b
 else
  if decide ((p1.length:Int)>256) then
   some 3
  else
   (iter (y2Y p0 p1) 0).bind fun a=>
   match a with
   | .inl d=>
    some 0
   | .inr (c)=>
    some c
theorem y9r{p0:PbT}{p1:List CycT}{r:Int}(hm:y3Y p0 p1=some r):
    F0 65 [.a (lx37 p0),.f rE114 p1] [] (.i r) []:=by
  unfold y3Y at hm;refine Fw.mk2 Tryz.func65 Tryz.ntmps65 R (fun C=>?_) R;refine .sr (.bo 0 R (.an R (.seq (.sr (.op (O.lg (l':=(lx37 p0)) ag37 Z R (.B R) R R R) R (bS hm fun V N hm=> .c0 (y8p N) cf62 R (.an R (.sr (.mv R (.bi R (.ns ?_)))))))))));refine .cc hm R (fun hm=>?_) fun hm=>?_
  ·refine .sr (.mv R (.an R (.ret (.seqR ?_))));cases hm;exact .rr [] Tryz.results65 (.tmp R .nil) R I3 trivial
  ·refine .skip (.seqN (.seq (.sr (.mv R (.ln sl94 R (.bi R (.ns ?_)))))));refine .cc hm R (fun hm=>?_) fun hm=>?_
   ·refine .sr (.an R (.ret (.seqR ?_)));cases hm;exact .rr [] Tryz.results65 (.tmp R .nil) R I3 trivial
   ·refine .skip (.seqN (.seq (.sr (.mv R (.ln sl94 R (.mv R (.ns (.block (bS hm fun u w hm=>?_)))))))));refine .cutU (z:= .exit 0) (fun p=> .inl p=u) (fun (p:Unit)=>⟨[],[],0⟩) ?_ fun K=>?_
    · rintro p rfl;dsimp only at hm;refine .blkE (.seqN (.sr (.an R (.ret ?_))));cases hm;exact .rr [] Tryz.results65 (.tmp R .nil) R I3 trivial
    refine .cutU (z:= .ret) (fun g=> .inr (g)=u) (fun (g:Int)=>⟨[(4,.i g)],[],0⟩) ?_ fun k=>?_
    · rintro g rfl;dsimp only at hm;refine .blkR (.seqR ?_);cases hm;exact .rr [] Tryz.results65 (.tmp R .nil) R I3 trivial
    refine .iter (fun (d:Int)=>⟨[(21,.i d),(20,.i (p1.length:Int)),(19,.f rE114 p1),(2,.q 0 0)],[(0,.bx 37 (lx37 p0))],1⟩) w [] R ?_;intro d t hm I e;unfold y2Y at hm;refine .sr (.bi R (.ns (.seq ?_)));refine .cc hm R (fun hm=>?_) fun hm=> .exit (.seqX (.seqX ((K _ (e _ (oi hm).symm)).sub [] R)));refine .skip (.seqN ?_);refine .join0 (y1U d=some t) (⟨[(21,.i d),(20,.i (p1.length:Int)),(19,.f rE114 p1),(2,.q 0 0)],[(0,.bx 37 (lx37 p0))],1⟩) ?_ ?_
    · intro hm;unfold y1U at hm;exact .reg (.bi R (.mv R (.nil ((I _ (oi hm).symm).sub [] R))))
    · intro j;refine .block (.sr (bS hm fun b G hm=> .ix sl94 G R (.op (O.lg (l':=[lF qI b.1,lF qI b.2.1,lI b.2.2]) ag114 Z R (.E lv114) R R R) R (.al 1 zz114 R (.st ag114.sz R (.ns (.seq (.sr (.fa ydb R (.lb nag32 R (.fa ydc R (.lb nag32 R (.op (O.bsF (r:=(rL qI)) (zs:=([b.1,b.2.1]:List (List Int))) bs53 R R Z R R R (.c .l (.c .l .n)) R R R) R (.ln sl53 R (.mv R (.ns (.block (bS hm fun v x hm=>?_))))))))))))))))));refine .cutU (z:= .exit 2) (fun s=> .inl s=v) (fun (s:Unit)=>⟨[(7,.q 0 0),(21,.i d),(20,.i (p1.length:Int)),(19,.f rE114 p1),(2,.q 1 0)],[(0,.bx 114 [lF qI b.1,lF qI b.2.1,lI b.2.2]),(1,.bx 37 (lx37 p0))],2⟩) ?_ fun L=>?_
      · rintro s rfl;dsimp only at hm;refine .blkE (.seqN (.block (.sr (.fa y8c R (.lb nag3 R (.bi R (.an R ?_)))))));refine .cc hm R (fun hm=> .skip (.blkN (.blkN ((j hm).sub [(0,1)] R)))) fun hm=>?_;refine .sr (.fa y3k R (.fa yH R (.lb nag32 R (.fa y8c R (.lb nag3 R (bS hm fun Q y hm=> .c0 (yk y) cf104 R (.op (O.not Z R R) R (.an R ?_))))))));refine .cc hm R (fun hm=> .sr (.an R (.ret (.blkR (.blkR (.seqR (.seqR ((k _ (e _ (oi hm).symm)).sub [] R)))))))) fun hm=>?_;refine .sr (.fa y8Z R (.lb nag32 R (.fa y8c R (.lb nag3 R (bS hm fun S D hm=> .c0 (yk D) cf104 R (.an R ?_))))));exact .cc hm R (fun hm=> .sr (.an R (.ret (.blkR (.blkR (.seqR (.seqR ((k _ (e _ (oi hm).symm)).sub [] R)))))))) fun hm=> .skip (.blkN (.blkN ((j hm).sub [(0,1)] R)))
      refine .cutU (z:= .ret) (fun h=> .inr (h)=v) (fun (h:Int)=>⟨[(4,.i h)],[],0⟩) ?_ fun M=>?_
      · rintro h rfl;dsimp only at hm;exact .blkR (.seqR (.blkR (.seqR (.seqR ((k _ (e _ (oi hm).symm)).sub [] R)))))
      refine .iter (fun (o:Int)=>⟨[(31,.i o),(30,.i (([b.1,b.2.1]:List (List Int)).length:Int)),(29,.f (rL qI) ([b.1,b.2.1]:List (List Int))),(7,.q 0 0),(21,.i d),(20,.i (p1.length:Int)),(19,.f rE114 p1),(2,.q 1 0)],[(0,.bx 114 [lF qI b.1,lF qI b.2.1,lI b.2.2]),(1,.bx 37 (lx37 p0))],2⟩) x [(0,1),(1,0)] R ?_;intro o P hm J m;unfold y1V at hm;refine .sr (.bi R (.ns (.seq ?_)));refine .cc hm R (fun hm=>?_) fun hm=> .exit (.seqX (.seqX ((L _ (m _ (oi hm).symm)).sub [] R)));refine .skip (.seqN (.seq (.block (.sr (bS hm fun U H hm=> .ix sl53 H R (.le nag32 lv32 R (.an R (.sr (.op (O.lg (l':=(lx37 p0)) ag37 Z R (.B R) R R R) R (.mv R (bS hm fun T F hm=> .c0 (y9q F) cf137 R (.an R (.sr (.mv R (.bi R (.ns ?_))))))))))))))));exact .cc hm R (fun hm=> .sr (.mv R (.an R (.ret (.blkR (.seqR (.seqR ((M _ (m _ (oi hm).symm)).sub [] R)))))))) fun hm=> .skip (.blkN (.seqN (.reg (.bi R (.mv R (.nil ((J _ (oi hm).symm).sub [] R)))))))
def y3o(p0:Int×Int×Int×List Bool×(List (Int×Int)))(a:Int):Option (Int⊕(Unit⊕Unit)):=
 if decide (a<3) then
  (idx ([p0.1,p0.2.1,p0.2.2.1]:List Int) a).bind fun b=>
  if((decide (b<0))||(decide (b>256))) then
   some (.inr (.inr (())))
  else
   some (.inl (W (a+1)))
 else
  some (.inr (.inl ()))
def y4r(p0:Int×Int×Int×List Bool×(List (Int×Int))):Option Int:=
 (iter (y3o p0) 0).bind fun a=>
 match a with
 | .inl b=>
  if((p0.2.2.2.1.length:Int) != p0.2.2.1) then
   some 4
  else
   if decide ((p0.2.2.2.2.length:Int)>2048) then
    some 3
   else
    some 0
 | .inr (c)=>
  some 2
theorem y9y{p0:Int×Int×Int×List Bool×(List (Int×Int))}{r:Int}(hm:y4r p0=some r):
    F0 269 [.a (lx191 p0)] [] (.i r) []:=by
  unfold y4r at hm;refine Fw.mk2 Tryz.func269 Tryz.ntmps269 R (fun C=>?_) R;refine .sr (.bo 0 R (.an R (.seq (.sr (.fa y9J R (.lb nag3 R (.fa y9K R (.lb nag3 R (.fa yav R (.lb nag3 R (.op (O.bu (l:=[lI p0.1,lI p0.2.1,lI p0.2.2.1]) pl367 R Z R R R) R (.mv R (.ns (.block (bS hm fun t p hm=>?_)))))))))))))));refine .cutU (z:= .exit 0) (fun m=> .inl m=t) (fun (m:Unit)=>⟨[(1,.q 0 0)],[(0,.bx 191 (lx191 p0))],1⟩) ?_ fun K8=>?_
  · rintro m rfl;dsimp only at hm;refine .blkE (.seqN (.seq (.block (.sr (.fa yf7 R (.lb y3l R (.ln sl144 R (.fa yav R (.lb nag3 R (.bi R (.an R ?_)))))))))));refine .cc hm R (fun hm=>?_) fun hm=>?_
    ·refine .sr (.an R (.ret (.blkR (.seqR ?_))));cases hm;exact .rr [] Tryz.results269 (.tmp R .nil) R I3 trivial
    ·refine .sr (.fa y9L R (.lb y7g R (.ln sl189 R (.bi R (.an R ?_)))));refine .cc hm R (fun hm=>?_) fun hm=>?_
     ·refine .sr (.an R (.ret (.blkR (.seqR ?_))));cases hm;exact .rr [] Tryz.results269 (.tmp R .nil) R I3 trivial
     ·refine .skip (.blkN (.seqN (.sr (.an R (.ret ?_)))));cases hm;exact .rr [] Tryz.results269 (.tmp R .nil) R I3 trivial
  refine .cutU (z:= .ret) (fun n=> .inr (n)=t) (fun (n:Unit)=>⟨[(2,.i 2)],[],0⟩) ?_ fun o=>?_
  · rintro n rfl;dsimp only at hm;refine .blkR (.seqR ?_);cases hm;exact .rr [] Tryz.results269 (.tmp R .nil) R I3 trivial
  refine .iter (fun (e:Int)=>⟨[(12,.i e),(11,.g [lI p0.1,lI p0.2.1,lI p0.2.2.1]),(1,.q 0 0)],[(0,.bx 191 (lx191 p0))],1⟩) p [] R ?_;intro e u hm s j;unfold y3o at hm;refine .sr (.bi R (.ns (.seq ?_)));refine .cc hm R (fun hm=>?_) fun hm=> .exit (.seqX (.seqX ((K8 _ (j _ (oi hm).symm)).sub [] R)));refine .skip (.seqN (.seq (.block (.sr (bS hm fun c k hm=> .op (O.ixA (xs:=([p0.1,p0.2.1,p0.2.2.1]:List Int)) nag3 Tryz.underlying367 Z R R R k R) R (.an R (.sr (.mv R (.bi R (.mv R ?_))))))))));refine .cut 3 (fun (f:Bool)=>((decide (c<0))||(decide (c>256)))=f) (fun f=>⟨[(20,.b f),(12,.i e),(11,.g [lI p0.1,lI p0.2.1,lI p0.2.2.1]),(1,.q 0 0)],[(0,.bx 191 (lx191 p0))],1⟩) ?_ ?_
  · rintro _ rfl;exact .ns (.cc hm R (fun hm=> .sr (.an R (.ret (.blkR (.seqR (.seqR ((o _ (j _ (oi hm).symm)).sub [] R))))))) fun hm=> .skip (.blkN (.seqN (.reg (.bi R (.mv R (.nil ((s _ (oi hm).symm).sub [] R))))))))
  · intro h;rcases Bool.eq_false_or_eq_true (decide (c<0)) with hc|hc
    · refine .know (d:=17) R hc ?_;exact .sk R (.sk R (.op (O.pkT Z R R R R) R ((h true (orT hc).symm).sub [] R)))
    · refine .know (d:=17) R hc ?_;exact .op (O.mv (Gu.mk R R) R R) R (.op (O.bi (Gu.mk R R) R R R R) R (.op (O.pkF Z R R R R) R ((h (decide (c>256)) (orF hc).symm).sub [] R)))
def y4P(p0:Bool)(p1:Bool):Option Bool:=
 some p1
theorem y8G{p1:Bool}(hm:y4P p0 p1=some r):
  F0 306 [.b p0,.b p1] [] (.b r) []:=by
 unfold y4P at hm;refine Fw.mk2 Tryz.func306 Tryz.ntmps306 R (fun C=>?_) R;refine .sr (.an R (.sr (.mv R (.an R (.ret ?_)))));cases hm;exact .rr [] Tryz.results306 (.tmp R .nil) R I3 trivial
def y4Q(p0:Bool)(p1:Bool):Option Bool:=
 some (!p1)
theorem y8H{p1:Bool}(hm:y4Q p0 p1=some r):
  F0 307 [.b p0,.b p1] [] (.b r) []:=by
 unfold y4Q at hm;refine Fw.mk2 Tryz.func307 Tryz.ntmps307 R (fun C=>?_) R;refine .sr (.an R (.sr (.mv R (.op (O.not Z R R) R (.an R (.ret ?_))))));cases hm;exact .rr [] Tryz.results307 (.tmp R .nil) R I3 trivial
def y4R(p0:Bool)(p1:Bool):Option Bool:=
 some (p0&&p1)
theorem y8I{p1:Bool}(hm:y4R p0 p1=some r):
  F0 308 [.b p0,.b p1] [] (.b r) []:=by
 unfold y4R at hm;refine Fw.mk2 Tryz.func308 Tryz.ntmps308 R (fun C=>?_) R;refine .sr (.an R (.sr (.mv R (.mv R ?_))));refine .cut 2 (fun (a:Bool)=>(p0&&p1)=a) (fun a=>⟨[(8,.b a)],[],0⟩) ?_ ?_
 ·rintro _ rfl;refine .an R (.ret ?_);cases hm;exact .rr [] Tryz.results308 (.tmp R .nil) R I3 trivial
 ·intro c;rcases Bool.eq_false_or_eq_true p0 with hc|hc
  ·refine .know (d:=6) R hc ?_;exact .op (O.mv (Gu.mk R R) R R) R (.op (O.pkT Z R R R R) R ((c p1 (andT hc).symm).sub [] R))
  ·refine .know (d:=6) R hc ?_;exact .sk R (.op (O.pkF Z R R R R) R ((c false (andF hc).symm).sub [] R))
def y4S(p0:Bool)(p1:Bool):Option Bool:=
 some (p0&&(!p1))
theorem y8J{p1:Bool}(hm:y4S p0 p1=some r):
  F0 309 [.b p0,.b p1] [] (.b r) []:=by
 unfold y4S at hm;refine Fw.mk2 Tryz.func309 Tryz.ntmps309 R (fun C=>?_) R;refine .sr (.an R (.sr (.mv R (.mv R ?_))));refine .cut 3 (fun (a:Bool)=>(p0&&(!p1))=a) (fun a=>⟨[(9,.b a)],[],0⟩) ?_ ?_
 ·rintro _ rfl;refine .an R (.ret ?_);cases hm;exact .rr [] Tryz.results309 (.tmp R .nil) R I3 trivial
 ·intro c;rcases Bool.eq_false_or_eq_true p0 with hc|hc
  ·refine .know (d:=6) R hc ?_;exact .op (O.mv (Gu.mk R R) R R) R (.op (O.not (Gu.mk R R) R R) R (.op (O.pkT Z R R R R) R ((c (!p1) (andT hc).symm).sub [] R)))
  ·refine .know (d:=6) R hc ?_;exact .sk R (.sk R (.op (O.pkF Z R R R R) R ((c false (andF hc).symm).sub [] R)))
def y4T(p0:Bool)(p1:Bool):Option Bool:=
 some (p0||p1)
theorem y8K{p1:Bool}(hm:y4T p0 p1=some r):
  F0 310 [.b p0,.b p1] [] (.b r) []:=by
 unfold y4T at hm;refine Fw.mk2 Tryz.func310 Tryz.ntmps310 R (fun C=>?_) R;refine .sr (.an R (.sr (.mv R (.mv R ?_))));refine .cut 2 (fun (a:Bool)=>(p0||p1)=a) (fun a=>⟨[(8,.b a)],[],0⟩) ?_ ?_
 ·rintro _ rfl;refine .an R (.ret ?_);cases hm;exact .rr [] Tryz.results310 (.tmp R .nil) R I3 trivial
 ·intro c;rcases Bool.eq_false_or_eq_true p0 with hc|hc
  ·refine .know (d:=6) R hc ?_;exact .sk R (.op (O.pkT Z R R R R) R ((c true (orT hc).symm).sub [] R))
  ·refine .know (d:=6) R hc ?_;exact .op (O.mv (Gu.mk R R) R R) R (.op (O.pkF Z R R R R) R ((c p1 (orF hc).symm).sub [] R))
def y4U(p0:Bool)(p1:Bool):Option Bool:=
 some (p0||(!p1))
theorem y8L{p1:Bool}(hm:y4U p0 p1=some r):
  F0 311 [.b p0,.b p1] [] (.b r) []:=by
 unfold y4U at hm;refine Fw.mk2 Tryz.func311 Tryz.ntmps311 R (fun C=>?_) R;refine .sr (.an R (.sr (.mv R (.mv R ?_))));refine .cut 3 (fun (a:Bool)=>(p0||(!p1))=a) (fun a=>⟨[(9,.b a)],[],0⟩) ?_ ?_
 ·rintro _ rfl;refine .an R (.ret ?_);cases hm;exact .rr [] Tryz.results311 (.tmp R .nil) R I3 trivial
 ·intro c;rcases Bool.eq_false_or_eq_true p0 with hc|hc
  ·refine .know (d:=6) R hc ?_;exact .sk R (.sk R (.op (O.pkT Z R R R R) R ((c true (orT hc).symm).sub [] R)))
  ·refine .know (d:=6) R hc ?_;exact .op (O.mv (Gu.mk R R) R R) R (.op (O.not (Gu.mk R R) R R) R (.op (O.pkF Z R R R R) R ((c (!p1) (orF hc).symm).sub [] R)))
def y4V(p0:Bool)(p1:Bool):Option Bool:=
 some p0
theorem y8M{p1:Bool}(hm:y4V p0 p1=some r):
  F0 312 [.b p0,.b p1] [] (.b r) []:=by
 unfold y4V at hm;refine Fw.mk2 Tryz.func312 Tryz.ntmps312 R (fun C=>?_) R;refine .sr (.an R (.sr (.mv R (.an R (.ret ?_)))));cases hm;exact .rr [] Tryz.results312 (.tmp R .nil) R I3 trivial
def y4W(p0:Bool)(p1:Bool):Option Bool:=
 some (!p0)
theorem y8N{p1:Bool}(hm:y4W p0 p1=some r):
  F0 313 [.b p0,.b p1] [] (.b r) []:=by
 unfold y4W at hm;refine Fw.mk2 Tryz.func313 Tryz.ntmps313 R (fun C=>?_) R;refine .sr (.an R (.sr (.mv R (.op (O.not Z R R) R (.an R (.ret ?_))))));cases hm;exact .rr [] Tryz.results313 (.tmp R .nil) R I3 trivial
def y4X(p0:Bool)(p1:Bool):Option Bool:=
 some (p1||p0)
theorem y8O{p1:Bool}(hm:y4X p0 p1=some r):
  F0 314 [.b p0,.b p1] [] (.b r) []:=by
 unfold y4X at hm;refine Fw.mk2 Tryz.func314 Tryz.ntmps314 R (fun C=>?_) R;refine .sr (.an R (.sr (.mv R (.mv R ?_))));refine .cut 2 (fun (a:Bool)=>(p1||p0)=a) (fun a=>⟨[(8,.b a)],[],0⟩) ?_ ?_
 ·rintro _ rfl;refine .an R (.ret ?_);cases hm;exact .rr [] Tryz.results314 (.tmp R .nil) R I3 trivial
 ·intro c;rcases Bool.eq_false_or_eq_true p1 with hc|hc
  ·refine .know (d:=6) R hc ?_;exact .sk R (.op (O.pkT Z R R R R) R ((c true (orT hc).symm).sub [] R))
  ·refine .know (d:=6) R hc ?_;exact .op (O.mv (Gu.mk R R) R R) R (.op (O.pkF Z R R R R) R ((c p0 (orF hc).symm).sub [] R))
def y4x(p0:Bool)(p1:Bool):Option Bool:=
 some (p1&&(!p0))
theorem y8u{p1:Bool}(hm:y4x p0 p1=some r):
  F0 315 [.b p0,.b p1] [] (.b r) []:=by
 unfold y4x at hm;refine Fw.mk2 Tryz.func315 Tryz.ntmps315 R (fun C=>?_) R;refine .sr (.an R (.sr (.mv R (.mv R ?_))));refine .cut 3 (fun (a:Bool)=>(p1&&(!p0))=a) (fun a=>⟨[(9,.b a)],[],0⟩) ?_ ?_
 ·rintro _ rfl;refine .an R (.ret ?_);cases hm;exact .rr [] Tryz.results315 (.tmp R .nil) R I3 trivial
 ·intro c;rcases Bool.eq_false_or_eq_true p1 with hc|hc
  ·refine .know (d:=6) R hc ?_;exact .op (O.mv (Gu.mk R R) R R) R (.op (O.not (Gu.mk R R) R R) R (.op (O.pkT Z R R R R) R ((c (!p0) (andT hc).symm).sub [] R)))
  ·refine .know (d:=6) R hc ?_;exact .sk R (.sk R (.op (O.pkF Z R R R R) R ((c false (andF hc).symm).sub [] R)))
def y4y(p0:Bool):Option Bool:=
 some true
theorem y8v(hm:y4y p0=some r):
  F0 316 [.b p0] [] (.b r) []:=by
 unfold y4y at hm;refine Fw.mk2 Tryz.func316 Tryz.ntmps316 R (fun C=>?_) R;refine .sr (.an R (.sr (.an R (.ret ?_))));cases hm;exact .rr [] Tryz.results316 (.tmp R .nil) R I3 trivial
def y4z(p0:Bool):Option Bool:=
 some p0
theorem y8w(hm:y4z p0=some r):
  F0 317 [.b p0] [] (.b r) []:=by
 unfold y4z at hm;refine Fw.mk2 Tryz.func317 Tryz.ntmps317 R (fun C=>?_) R;refine .sr (.an R (.sr (.mv R (.an R (.ret ?_)))));cases hm;exact .rr [] Tryz.results317 (.tmp R .nil) R I3 trivial
def y4A(p0:Bool):Option Bool:=
 some (!p0)
theorem y8x(hm:y4A p0=some r):
  F0 318 [.b p0] [] (.b r) []:=by
 unfold y4A at hm;refine Fw.mk2 Tryz.func318 Tryz.ntmps318 R (fun C=>?_) R;refine .sr (.an R (.sr (.mv R (.op (O.not Z R R) R (.an R (.ret ?_))))));cases hm;exact .rr [] Tryz.results318 (.tmp R .nil) R I3 trivial
def y1i :Option (List (Int×ByteArray×(Option (Bool→Bool→Option Bool))×(Option (Bool→Bool→Option Bool))×(Option (Bool→Option Bool)))):=
 some ([(1,(⟨#[76,68]⟩:ByteArray),(some y4P),none,none),(2,(⟨#[76,68,78]⟩:ByteArray),(some y4Q),none,none),(3,(⟨#[65,78,68]⟩:ByteArray),(some y4R),none,none),(4,(⟨#[65,78,68,78]⟩:ByteArray),(some y4S),none,none),(5,(⟨#[79,82]⟩:ByteArray),(some y4T),none,none),(6,(⟨#[79,82,78]⟩:ByteArray),(some y4U),none,none),(7,(⟨#[83,84]⟩:ByteArray),none,(some y4V),none),(8,(⟨#[83,84,78]⟩:ByteArray),none,(some y4W),none),(9,(⟨#[83]⟩:ByteArray),none,(some y4X),none),(10,(⟨#[82]⟩:ByteArray),none,(some y4x),none),(11,(⟨#[74,77,80]⟩:ByteArray),none,none,(some y4y)),(12,(⟨#[74,77,80,67]⟩:ByteArray),none,none,(some y4z)),(13,(⟨#[74,77,80,67,78]⟩:ByteArray),none,none,(some y4A))]:List (Int×ByteArray×(Option (Bool→Bool→Option Bool))×(Option (Bool→Bool→Option Bool))×(Option (Bool→Option Bool))))
theorem y7i{r:(List (Int×ByteArray×(Option (Bool→Bool→Option Bool))×(Option (Bool→Bool→Option Bool))×(Option (Bool→Option Bool))))}(hm:y1i=some r):
  F0 293 [] [] (.f rE372 r) []:=by
 unfold y1i at hm;refine Fw.mk2 Tryz.func293 Tryz.ntmps293 R (fun C=>?_) R;refine .sr (.an R (.sr (.op (O.bu (l:=[lI 1,lV (.string (⟨#[76,68]⟩:ByteArray)),lV (.func (.func 306) #[] #[]),lV .nilFunc,lV .nilFunc]) pl372 R Z R R R) R (.op (O.bu (l:=[lI 2,lV (.string (⟨#[76,68,78]⟩:ByteArray)),lV (.func (.func 307) #[] #[]),lV .nilFunc,lV .nilFunc]) pl372 R Z R R R) R (.op (O.bu (l:=[lI 3,lV (.string (⟨#[65,78,68]⟩:ByteArray)),lV (.func (.func 308) #[] #[]),lV .nilFunc,lV .nilFunc]) pl372 R Z R R R) R (.op (O.bu (l:=[lI 4,lV (.string (⟨#[65,78,68,78]⟩:ByteArray)),lV (.func (.func 309) #[] #[]),lV .nilFunc,lV .nilFunc]) pl372 R Z R R R) R (.op (O.bu (l:=[lI 5,lV (.string (⟨#[79,82]⟩:ByteArray)),lV (.func (.func 310) #[] #[]),lV .nilFunc,lV .nilFunc]) pl372 R Z R R R) R (.op (O.bu (l:=[lI 6,lV (.string (⟨#[79,82,78]⟩:ByteArray)),lV (.func (.func 311) #[] #[]),lV .nilFunc,lV .nilFunc]) pl372 R Z R R R) R (.op (O.bu (l:=[lI 7,lV (.string (⟨#[83,84]⟩:ByteArray)),lV .nilFunc,lV (.func (.func 312) #[] #[]),lV .nilFunc]) pl372 R Z R R R) R (.op (O.bu (l:=[lI 8,lV (.string (⟨#[83,84,78]⟩:ByteArray)),lV .nilFunc,lV (.func (.func 313) #[] #[]),lV .nilFunc]) pl372 R Z R R R) R (.op (O.bu (l:=[lI 9,lV (.string (⟨#[83]⟩:ByteArray)),lV .nilFunc,lV (.func (.func 314) #[] #[]),lV .nilFunc]) pl372 R Z R R R) R (.op (O.bu (l:=[lI 10,lV (.string (⟨#[82]⟩:ByteArray)),lV .nilFunc,lV (.func (.func 315) #[] #[]),lV .nilFunc]) pl372 R Z R R R) R (.op (O.bu (l:=[lI 11,lV (.string (⟨#[74,77,80]⟩:ByteArray)),lV .nilFunc,lV .nilFunc,lV (.func (.func 316) #[] #[])]) pl372 R Z R R R) R (.op (O.bu (l:=[lI 12,lV (.string (⟨#[74,77,80,67]⟩:ByteArray)),lV .nilFunc,lV .nilFunc,lV (.func (.func 317) #[] #[])]) pl372 R Z R R R) R (.op (O.bu (l:=[lI 13,lV (.string (⟨#[74,77,80,67,78]⟩:ByteArray)),lV .nilFunc,lV .nilFunc,lV (.func (.func 318) #[] #[])]) pl372 R Z R R R) R (.op (O.bsF (r:=rE372) (zs:=([(1,(⟨#[76,68]⟩:ByteArray),(some y4P),none,none),(2,(⟨#[76,68,78]⟩:ByteArray),(some y4Q),none,none),(3,(⟨#[65,78,68]⟩:ByteArray),(some y4R),none,none),(4,(⟨#[65,78,68,78]⟩:ByteArray),(some y4S),none,none),(5,(⟨#[79,82]⟩:ByteArray),(some y4T),none,none),(6,(⟨#[79,82,78]⟩:ByteArray),(some y4U),none,none),(7,(⟨#[83,84]⟩:ByteArray),none,(some y4V),none),(8,(⟨#[83,84,78]⟩:ByteArray),none,(some y4W),none),(9,(⟨#[83]⟩:ByteArray),none,(some y4X),none),(10,(⟨#[82]⟩:ByteArray),none,(some y4x),none),(11,(⟨#[74,77,80]⟩:ByteArray),none,none,(some y4y)),(12,(⟨#[74,77,80,67]⟩:ByteArray),none,none,(some y4z)),(13,(⟨#[74,77,80,67,78]⟩:ByteArray),none,none,(some y4A))]:List (Int×ByteArray×(Option (Bool→Bool→Option Bool))×(Option (Bool→Bool→Option Bool))×(Option (Bool→Option Bool))))) bs368 R R Z R R R (.c (.p .k (.p .s (.p (.c2 cf306 (fun _ _ r h=>y8G h) (fun _ _ _ _=>⟨_,_,⟨rfl,rfl⟩,⟨_,_,⟨rfl,rfl⟩,rfl,rfl⟩,rfl⟩) (fun _ _ _ _ h=>h.1)) (.p .z2 .z1)))) (.c (.p .k (.p .s (.p (.c2 cf307 (fun _ _ r h=>y8H h) (fun _ _ _ _=>⟨_,_,⟨rfl,rfl⟩,⟨_,_,⟨rfl,rfl⟩,rfl,rfl⟩,rfl⟩) (fun _ _ _ _ h=>h.1)) (.p .z2 .z1)))) (.c (.p .k (.p .s (.p (.c2 cf308 (fun _ _ r h=>y8I h) (fun _ _ _ _=>⟨_,_,⟨rfl,rfl⟩,⟨_,_,⟨rfl,rfl⟩,rfl,rfl⟩,rfl⟩) (fun _ _ _ _ h=>h.1)) (.p .z2 .z1)))) (.c (.p .k (.p .s (.p (.c2 cf309 (fun _ _ r h=>y8J h) (fun _ _ _ _=>⟨_,_,⟨rfl,rfl⟩,⟨_,_,⟨rfl,rfl⟩,rfl,rfl⟩,rfl⟩) (fun _ _ _ _ h=>h.1)) (.p .z2 .z1)))) (.c (.p .k (.p .s (.p (.c2 cf310 (fun _ _ r h=>y8K h) (fun _ _ _ _=>⟨_,_,⟨rfl,rfl⟩,⟨_,_,⟨rfl,rfl⟩,rfl,rfl⟩,rfl⟩) (fun _ _ _ _ h=>h.1)) (.p .z2 .z1)))) (.c (.p .k (.p .s (.p (.c2 cf311 (fun _ _ r h=>y8L h) (fun _ _ _ _=>⟨_,_,⟨rfl,rfl⟩,⟨_,_,⟨rfl,rfl⟩,rfl,rfl⟩,rfl⟩) (fun _ _ _ _ h=>h.1)) (.p .z2 .z1)))) (.c (.p .k (.p .s (.p .z2 (.p (.c2 cf312 (fun _ _ r h=>y8M h) (fun _ _ _ _=>⟨_,_,⟨rfl,rfl⟩,⟨_,_,⟨rfl,rfl⟩,rfl,rfl⟩,rfl⟩) (fun _ _ _ _ h=>h.1)) .z1)))) (.c (.p .k (.p .s (.p .z2 (.p (.c2 cf313 (fun _ _ r h=>y8N h) (fun _ _ _ _=>⟨_,_,⟨rfl,rfl⟩,⟨_,_,⟨rfl,rfl⟩,rfl,rfl⟩,rfl⟩) (fun _ _ _ _ h=>h.1)) .z1)))) (.c (.p .k (.p .s (.p .z2 (.p (.c2 cf314 (fun _ _ r h=>y8O h) (fun _ _ _ _=>⟨_,_,⟨rfl,rfl⟩,⟨_,_,⟨rfl,rfl⟩,rfl,rfl⟩,rfl⟩) (fun _ _ _ _ h=>h.1)) .z1)))) (.c (.p .k (.p .s (.p .z2 (.p (.c2 cf315 (fun _ _ r h=>y8u h) (fun _ _ _ _=>⟨_,_,⟨rfl,rfl⟩,⟨_,_,⟨rfl,rfl⟩,rfl,rfl⟩,rfl⟩) (fun _ _ _ _ h=>h.1)) .z1)))) (.c (.p .k (.p .s (.p .z2 (.p .z2 (.c1 cf316 (fun _ r h=>y8v h) (fun _ _ _=>⟨_,_,⟨rfl,rfl⟩,rfl,rfl⟩) (fun _ _ _ _ h=>h.1)))))) (.c (.p .k (.p .s (.p .z2 (.p .z2 (.c1 cf317 (fun _ r h=>y8w h) (fun _ _ _=>⟨_,_,⟨rfl,rfl⟩,rfl,rfl⟩) (fun _ _ _ _ h=>h.1)))))) (.c (.p .k (.p .s (.p .z2 (.p .z2 (.c1 cf318 (fun _ r h=>y8x h) (fun _ _ _=>⟨_,_,⟨rfl,rfl⟩,rfl,rfl⟩) (fun _ _ _ _ h=>h.1)))))) .n))))))))))))) R R R) R (.an R (.ret ?_))))))))))))))))))
 cases hm;exact .rr [] Tryz.results293 (.tmp R .nil) R I3 trivial
def y4F(p0:Int×Int×Int×List Bool×(List (Int×Int))):Option Int:=
 some (W ((W (p0.1+p0.2.1))+p0.2.2.1))
theorem yaB{p0:Int×Int×Int×List Bool×(List (Int×Int))}{r:Int}(hm:y4F p0=some r):
  F0 294 [.a (lx191 p0)] [] (.i r) []:=by
 unfold y4F at hm;refine Fw.mk2 Tryz.func294 Tryz.ntmps294 R (fun C=>?_) R;refine .sr (.bo 0 R (.an R (.sr (.fa y9J R (.lb nag3 R (.fa y9K R (.lb nag3 R (.bi R (.fa yav R (.lb nag3 R (.bi R (.an R (.ret ?_)))))))))))));cases hm;exact .rr [] Tryz.results294 (.tmp R .nil) R I3 trivial
def yy(p0:Int×Int×Int×List Bool×(List (Int×Int)))(b:Int×Int)(c:Int×ByteArray×(Option (Bool→Bool→Option Bool))×(Option (Bool→Bool→Option Bool))×(Option (Bool→Option Bool)))(a:Bool):Option Int:=
 if a then
  some 2
 else
  if(c.2.2.2.1.isSome&&(decide (b.2<p0.1))) then
   some 19
  else
   some 0
def y2s(p0:Int×Int×Int×List Bool×(List (Int×Int)))(p1:Int):Option Int:=
 (idx p0.2.2.2.2 p1).bind fun a=>
 (y1i).bind fun d=>
 if((decide (a.1<1))||(decide (a.1>(d.length:Int)))) then
  some 11
 else
  (idx d (W (a.1-1))).bind fun b=>
  if b.2.2.2.2.isSome then
   if((decide (a.2≤p1))||(decide (a.2>(p0.2.2.2.2.length:Int)))) then
    some 2
   else
    some 0
  else
   if decide (a.2<0) then
    yy p0 a b true
   else
    (y4F p0).bind fun c=>
    yy p0 a b (decide (a.2≥c))
theorem y7Z{p0:Int×Int×Int×List Bool×(List (Int×Int))}{r:Int}(hm:y2s p0 p1=some r):
    F0 270 [.a (lx191 p0),.i p1] [] (.i r) []:=by
  unfold y2s at hm;refine Fw.mk2 Tryz.func270 Tryz.ntmps270 R (fun C=>?_) R;refine .sr (.bo 0 R (.an R (.sr (.fa y9L R (.lb y7g R (.mv R (bS hm fun c y hm=> .ix sl189 y R (.op (O.lg (l':=[lI c.1,lI c.2]) ag302 Z R (.E lv302) R R R) R (.al 1 zz302 R (.st ag302.sz R (.nr (bS hm fun s x hm=> .c0 (y7i x) cf293 R (.an R (.seq (.sr (.fa ybF R (.lb nag3 R (.bi R (.mv R ?_)))))))))))))))))));refine .cut 6 (fun (t:Bool)=>((decide (c.1<1))||(decide (c.1>(s.length:Int))))=t) (fun t=>⟨[(23,.b t),(6,.f rE372 s),(5,.q 1 0),(2,.q 0 0),(1,.i p1)],[(1,.bx 302 [lI c.1,lI c.2]),(0,.bx 191 (lx191 p0))],2⟩) ?_ ?_
  · rintro _ rfl;refine .ns ?_;refine .cc hm R (fun hm=>?_) fun hm=>?_
    ·refine .sr (.an R (.ret (.seqR ?_)));cases hm;exact .rr [] Tryz.results270 (.tmp R .nil) R I3 trivial
    ·refine .skip (.seqN (.sr (.mv R (.fa ybF R (.lb nag3 R (.bi R (bS hm fun g z hm=> .ix sl368 z R (.op (O.lg (l':=[lI g.1,lV (.string g.2.1),lF2 Tryz.prog (fun (e:Bool) (c:Bool)=> [.bool e,.bool c]) (fun (r:Bool)=> .bool r) g.2.2.1,lF2 Tryz.prog (fun (e:Bool) (c:Bool)=> [.bool e,.bool c]) (fun (r:Bool)=> .bool r) g.2.2.2.1,lF1 Tryz.prog (fun (e:Bool)=> [.bool e]) (fun (r:Bool)=> .bool r) g.2.2.2.2]) ag372 Z R (.E lv372) R R R) R (.al 2 zz372 R (.st ag372.sz R (.ns (.seq (.sr (.fa yf8 R (.lb ygg R (.op (O.fne1 Tryz.underlying370 Z R R R) R (.ns ?_)))))))))))))))));refine .cc hm R (fun hm=>?_) fun hm=>?_
     ·refine .seq (.sr (.fa y7n R (.lb nag3 R (.mv R (.bi R (.mv R ?_))))));refine .cut 7 (fun (u:Bool)=>((decide (c.2≤p1))||(decide (c.2>(p0.2.2.2.2.length:Int))))=u) (fun u=>⟨[(44,.b u)],[],3⟩) ?_ ?_
      · rintro _ rfl;refine .ns ?_;refine .cc hm R (fun hm=>?_) fun hm=>?_
        ·refine .sr (.an R (.ret (.seqR (.seqR ?_))));cases hm;exact .rr [] Tryz.results270 (.tmp R .nil) R I3 trivial
        ·refine .skip (.seqN (.sr (.an R (.ret (.seqR ?_)))));cases hm;exact .rr [] Tryz.results270 (.tmp R .nil) R I3 trivial
      · intro w;rcases Bool.eq_false_or_eq_true (decide (c.2≤p1)) with hc|hc
        · refine .know (d:=37) R hc ?_;exact .sk R (.sk R (.sk R (.sk R (.sk R (.sk R (.op (O.pkT Z R R R R) R ((w true (orT hc).symm).sub [] R)))))))
        · refine .know (d:=37) R hc ?_;exact .op (O.faP y7n (Gu.mk R R) R R) R (.op (O.ld nag3 (Gu.mk R R) R (.B R) R R) R (.op (O.faP y9L (Gu.mk R R) R R) R (.op (O.ld y7g (Gu.mk R R) R (.B R) R R) R (.op (O.len sl189 (Gu.mk R R) R R) R (.op (O.bi (Gu.mk R R) R R R R) R (.op (O.pkF Z R R R R) R ((w (decide (c.2>(p0.2.2.2.2.length:Int))) (orF hc).symm).sub [] R)))))))
     ·refine .skip (.seqN (.seq ?_));refine .join1 (fun (m:Bool)=>yy p0 c g m=some r) (fun m=>⟨[(54,.b m),(7,.q 0 0),(5,.q 1 0),(2,.q 2 0)],[(0,.bx 372 [lI g.1,lV (.string g.2.1),lF2 Tryz.prog (fun (e:Bool) (c:Bool)=> [.bool e,.bool c]) (fun (r:Bool)=> .bool r) g.2.2.1,lF2 Tryz.prog (fun (e:Bool) (c:Bool)=> [.bool e,.bool c]) (fun (r:Bool)=> .bool r) g.2.2.2.1,lF1 Tryz.prog (fun (e:Bool)=> [.bool e]) (fun (r:Bool)=> .bool r) g.2.2.2.2]),(1,.bx 302 [lI c.1,lI c.2]),(2,.bx 191 (lx191 p0))],3⟩) ?_ ?_
      · intro m hm;unfold yy at hm;refine .cc hm R (fun hm=>?_) fun hm=>?_
        ·refine .sr (.an R (.ret (.seqR ?_)));cases hm;exact .rr [] Tryz.results270 (.tmp R .nil) R I3 trivial
        ·refine .skip (.seqN (.seq (.sr (.fa ydd R (.lb ybt R (.op (O.fne2 Tryz.underlying135 Z R R R) R (.mv R ?_)))))));refine .cut 6 (fun (k:Bool)=>(g.2.2.2.1.isSome&&(decide (c.2<p0.1)))=k) (fun k=>⟨[(64,.b k)],[],3⟩) ?_ ?_
         · rintro _ rfl;refine .ns ?_;refine .cc hm R (fun hm=>?_) fun hm=>?_
           ·refine .sr (.an R (.ret (.seqR ?_)));cases hm;exact .rr [] Tryz.results270 (.tmp R .nil) R I3 trivial
           ·refine .skip (.seqN (.sr (.an R (.ret ?_))));cases hm;exact .rr [] Tryz.results270 (.tmp R .nil) R I3 trivial
         · intro n;rcases Bool.eq_false_or_eq_true g.2.2.2.1.isSome with hc|hc
           · refine .know (d:=58) R hc ?_;exact .op (O.faP y7n (Gu.mk R R) R R) R (.op (O.ld nag3 (Gu.mk R R) R (.B R) R R) R (.op (O.faP y9J (Gu.mk R R) R R) R (.op (O.ld nag3 (Gu.mk R R) R (.B R) R R) R (.op (O.bi (Gu.mk R R) R R R R) R (.op (O.pkT Z R R R R) R ((n (decide (c.2<p0.1)) (andT hc).symm).sub [] R))))))
           · refine .know (d:=58) R hc ?_;exact .sk R (.sk R (.sk R (.sk R (.sk R (.op (O.pkF Z R R R R) R ((n false (andF hc).symm).sub [] R))))))
      · intro o;refine .sub (τ:=⟨[(7,.q 2 0),(5,.q 1 0),(2,.q 0 0)],[(2,.bx 372 [lI g.1,lV (.string g.2.1),lF2 Tryz.prog (fun (e:Bool) (c:Bool)=> [.bool e,.bool c]) (fun (r:Bool)=> .bool r) g.2.2.1,lF2 Tryz.prog (fun (e:Bool) (c:Bool)=> [.bool e,.bool c]) (fun (r:Bool)=> .bool r) g.2.2.2.1,lF1 Tryz.prog (fun (e:Bool)=> [.bool e]) (fun (r:Bool)=> .bool r) g.2.2.2.2]),(1,.bx 302 [lI c.1,lI c.2]),(0,.bx 191 (lx191 p0))],3⟩) ?_ [] R;refine .drP 3 [(3,[]),(3,[oT]),(3,[oT,oT])] [_,_,_] ⟨O.faP y7n Z R R,O.ld nag3 Z R (.B R) R R,O.bi Z R R R R,trivial⟩ fun j=>?_;rcases ifS hm with ⟨h,hm⟩|⟨h,hm⟩
        · skip
          exact .drF j [(3,tT 3),(3,tT 4),(3,tT 5),(3,tT 4),(3,tA 4 (fA 2 (tT 1))),(3,tT 8),(3,tT 9)] [_,_,_,_,_,_,_] ⟨[(54,.b true),(7,.q 2 0),(5,.q 1 0),(2,.q 0 0)],[(2,.bx 372 [lI g.1,lV (.string g.2.1),lF2 Tryz.prog (fun (e:Bool) (c:Bool)=> [.bool e,.bool c]) (fun (r:Bool)=> .bool r) g.2.2.1,lF2 Tryz.prog (fun (e:Bool) (c:Bool)=> [.bool e,.bool c]) (fun (r:Bool)=> .bool r) g.2.2.2.1,lF1 Tryz.prog (fun (e:Bool)=> [.bool e]) (fun (r:Bool)=> .bool r) g.2.2.2.2]),(1,.bx 302 [lI c.1,lI c.2]),(0,.bx 191 (lx191 p0))],3⟩ ⟨O.kn (O.mv Z R R) h,O.skip R R R R,O.skip R R R R,O.skip R R R R,O.skip R R R R,O.skip R R R R,O.pkT Z R R R R,trivial⟩ (by kernel_rfl) R ((o _ hm).sub [(0,2),(2,0)] R)
        · skip
          exact bS hm fun D p hm=> .drF j [(3,tT 3),(3,tT 4),(3,tT 5),(3,tT 4),(3,tA 4 (fA 2 (tT 1))),(3,tT 8),(3,tT 9)] [_,_,_,_,_,_,_] ⟨[(54,.b (decide (c.2≥D))),(7,.q 2 0),(5,.q 1 0),(2,.q 0 0)],[(2,.bx 372 [lI g.1,lV (.string g.2.1),lF2 Tryz.prog (fun (e:Bool) (c:Bool)=> [.bool e,.bool c]) (fun (r:Bool)=> .bool r) g.2.2.1,lF2 Tryz.prog (fun (e:Bool) (c:Bool)=> [.bool e,.bool c]) (fun (r:Bool)=> .bool r) g.2.2.2.1,lF1 Tryz.prog (fun (e:Bool)=> [.bool e]) (fun (r:Bool)=> .bool r) g.2.2.2.2]),(1,.bx 302 [lI c.1,lI c.2]),(0,.bx 191 (lx191 p0))],3⟩ ⟨O.kn (O.mv Z R R) h,O.faP y7n (Gu.mk R R) R R,O.ld nag3 (Gu.mk R R) R (.B R) R R,O.lg (l':=(lx191 p0)) ag191 (Gu.mk R R) R (.B R) R R R,O.ca0 (yaB p) cf294 R R (Gu.mk R R) R R R,O.bi (Gu.mk R R) R R R R,O.pkF Z R R R R,trivial⟩ (by kernel_rfl) R ((o _ hm).sub [(0,2),(2,0)] R)
  · intro v;rcases Bool.eq_false_or_eq_true (decide (c.1<1)) with hc|hc
    · refine .know (d:=17) R hc ?_;exact .sk R (.sk R (.sk R (.sk R (.sk R (.op (O.pkT Z R R R R) R ((v true (orT hc).symm).sub [] R))))))
    · refine .know (d:=17) R hc ?_;exact .op (O.faP ybF (Gu.mk R R) R R) R (.op (O.ld nag3 (Gu.mk R R) R (.B R) R R) R (.op (O.mv (Gu.mk R R) R R) R (.op (O.len sl368 (Gu.mk R R) R R) R (.op (O.bi (Gu.mk R R) R R R R) R (.op (O.pkF Z R R R R) R ((v (decide (c.1>(s.length:Int))) (orF hc).symm).sub [] R))))))
def y3z(p0:Int×Int×Int×List Bool×(List (Int×Int)))(a:Int):Option (Int⊕(Unit⊕Int)):=
 if decide (a<(p0.2.2.2.2.length:Int)) then
  (y2s p0 a).bind fun b=>
  if(b != 0) then
   some (.inr (.inr (b)))
  else
   some (.inl (W (a+1)))
 else
  some (.inr (.inl ()))
def y4G(p0:Int×Int×Int×List Bool×(List (Int×Int))):Option Int:=
 (y4r p0).bind fun a=>
 if(a != 0) then
  some a
 else
  (iter (y3z p0) 0).bind fun b=>
  match b with
  | .inl d=>
   some 0
  | .inr (c)=>
   some c
theorem y8f{p0:Int×Int×Int×List Bool×(List (Int×Int))}{r:Int}(hm:y4G p0=some r):
    F0 243 [.a (lx191 p0)] [] (.i r) []:=by
  unfold y4G at hm;refine Fw.mk2 Tryz.func243 Tryz.ntmps243 R (fun C=>?_) R;refine .sr (.bo 0 R (.an R (.seq (.sr (.op (O.lg (l':=(lx191 p0)) ag191 Z R (.B R) R R R) R (bS hm fun p j hm=> .c0 (y9y j) cf269 R (.an R (.sr (.mv R (.bi R (.ns ?_)))))))))));refine .cc hm R (fun hm=>?_) fun hm=>?_
  ·refine .sr (.mv R (.an R (.ret (.seqR ?_))));cases hm;exact .rr [] Tryz.results243 (.tmp R .nil) R I3 trivial
  ·refine .skip (.seqN (.seq (.sr (.fa y9L R (.lb y7g R (.ln sl189 R (.mv R (.ns (.block (bS hm fun m h hm=>?_))))))))));refine .cutU (z:= .exit 0) (fun f=> .inl f=m) (fun (f:Unit)=>⟨[],[],0⟩) ?_ fun K8=>?_
   · rintro f rfl;dsimp only at hm;refine .blkE (.seqN (.sr (.an R (.ret ?_))));cases hm;exact .rr [] Tryz.results243 (.tmp R .nil) R I3 trivial
   refine .cutU (z:= .ret) (fun b=> .inr (b)=m) (fun (b:Int)=>⟨[(2,.i b)],[],0⟩) ?_ fun g=>?_
   · rintro b rfl;dsimp only at hm;refine .blkR (.seqR ?_);cases hm;exact .rr [] Tryz.results243 (.tmp R .nil) R I3 trivial
   refine .iter (fun (d:Int)=>⟨[(14,.i d),(13,.i (p0.2.2.2.2.length:Int)),(1,.q 0 0)],[(0,.bx 191 (lx191 p0))],1⟩) h [] R ?_;intro d n hm k c;unfold y3z at hm;refine .sr (.bi R (.ns (.seq ?_)));refine .cc hm R (fun hm=>?_) fun hm=> .exit (.seqX (.seqX ((K8 _ (c _ (oi hm).symm)).sub [] R)));refine .skip (.seqN (.seq (.block (.sr (.mv R (.an R (.sr (.op (O.lg (l':=(lx191 p0)) ag191 Z R (.B R) R R R) R (.mv R (bS hm fun o e hm=> .c0 (y7Z e) cf270 R (.an R (.sr (.mv R (.bi R (.ns ?_)))))))))))))));exact .cc hm R (fun hm=> .sr (.mv R (.an R (.ret (.blkR (.seqR (.seqR ((g _ (c _ (oi hm).symm)).sub [] R)))))))) fun hm=> .skip (.blkN (.seqN (.reg (.bi R (.mv R (.nil ((k _ (oi hm).symm).sub [] R)))))))
def y4H(p0:Int×Int×Int×List Bool×(List (Int×Int))):Option ((List Bool×List Bool)×Int):=
 (y4G p0).bind fun a=>
 if(a != 0) then
  some ((([]:List Bool),([]:List Bool)),a)
 else
  (mkL p0.2.1 false).bind fun b=>
  (app ([]:List Bool) p0.2.2.2.1).bind fun c=>
  some ((b,c),0)
theorem yaC{p0:Int×Int×Int×List Bool×(List (Int×Int))}{r:(List Bool×List Bool)×Int}(hm:y4H p0=some r):
    F0 220 [.a (lx191 p0)] [] (.tp [.a [lH 0,lH 1],.i r.2]) [ROW rB 4 r.1.1,ROW rB 4 r.1.2]:=by
  unfold y4H at hm;refine Fw.mk2 Tryz.func220 Tryz.ntmps220 R (fun C=>?_) R;refine .sr (.bo 0 R (.al 1 zz197 R (.an R (.seq (.sr (.op (O.lg (l':=(lx191 p0)) ag191 Z R (.B R) R R R) R (bS hm fun g b hm=> .c0 (y8f b) cf243 R (.an R (.sr (.mv R (.bi R (.ns ?_))))))))))));refine .cc hm R (fun hm=>?_) fun hm=>?_
  ·refine .sr (.op (O.bu (l:=[lN,lN]) pl197 R Z R R R) R (.mv R (.st ag197.sz R (.an R (.ret (.seqR (.nlb rB 4 1 0 R R (.nlb rB 4 1 1 R R ?_))))))));cases hm;exact .rr [2,3] Tryz.results220 (.cell R R ag197 R (.tmp R .nil)) R I3 ⟨⟨_,R,I4⟩,⟨_,R,I4⟩,trivial⟩
  ·refine .skip (.seqN (.seq ?_));refine .sub (τ:=⟨[(2,.q 1 0),(1,.q 0 0)],[(1,.bx 197 [lN,lN]),(0,.bx 191 (lx191 p0))],2⟩) ?_ [] R;refine bS hm fun e c hm=>bS hm fun f d hm=>?_;refine .drz 5 [(3,3)] [(2,[],[],[]),(2,[oT],[],[]),(2,[oT,oT],[],[]),(2,[],[],[]),(2,[],[],[]),(2,[oF,oF,oF,oF,oT],[],[]),(4,[oF,oF,oF,oT,oT,oT],[],[]),(5,[oT,oT,oT,oT,oT,oT,oT],[],[(3,3)]),(5,[oT,oT,oT,oT,oT,oT,oT,oT],[],[(3,3)]),(5,[oT,oT,oT,oT,oT,oT,oT,oT,oT],[],[(3,3)])] [_,_,_,_,_,_,_,_,_,_] ⟨[(3,.i 0),(2,.q 1 0)],[(1,.bx 197 [lH 2,lH 4]),(2,ROW rB 4 e),(4,ROW rB 4 f)],5⟩ ⟨O.faP y9K Z R R,O.ld nag3 Z R (.B R) R R,O.mk (z:=false) 2 Tryz.underlying144 zr4 R R Z R R c R,O.b0O (r:=rB) 3 R bs144 R Z R,O.faP yf7 Z R R,O.ld y3l Z R (.B R) R R,O.ap 4 Tryz.underlying144 el4 R R Z R R (.fr R) d R,O.bu (l:=[lH 2,lH 4]) pl197 R Z R R R,O.st ag197.sz Z R R R R R,O.as Z R R,trivial⟩ (by kernel_rfl) R ?_;refine .seqN (.ret ?_);cases hm;exact .rr [2,4] Tryz.results220 (.cell R R ag197 R (.tmp R .nil)) R I3 ⟨⟨_,R,I4⟩,⟨_,R,I4⟩,trivial⟩
def y6a(p0:PbT):Option ((Option BenT)×Int):=
 (y5G p0).bind fun a=>
 if(a.2 != 0) then
  some (none,a.2)
 else
  (y4H a.1.1).bind fun b=>
  if(b.2 != 0) then
   some (none,b.2)
  else
   some ((some (p0,a.1,0,b.1)),0)
theorem yaV{p0:PbT}{r:(Option BenT)×Int}(hm:y6a p0=some r):
    F0 191 [.a (lx37 p0)] [] (.tp [.o (lH 0),.i r.2]) [OBX rE199 199 r.1]:=by
  unfold y6a at hm;refine Fw.mk2 Tryz.func191 Tryz.ntmps191 R (fun C=>?_) R;refine .sr (.bo 0 R (.sa R (.an R (.sr (.op (O.lg (l':=(lx37 p0)) ag37 Z R (.B R) R R R) R (bS hm fun b e hm=> .op (O.ca (r':= .tp [.a [lI b.1.1.1,lI b.1.1.2.1,lI b.1.1.2.2.1,lH 1,lH 2,lH 3,lH 4,lI b.1.2.2.2],.i b.2]) [1,2,3,4] [(0,ROW rB 4 b.1.1.2.2.2.1),(1,ROW rE302 302 b.1.1.2.2.2.2),(2,ROW qI 3 b.1.2.1),(3,ROW qI 3 b.1.2.2.1)] (some 5) (y8z e) cf131 R R Z R R R R ⟨⟨_,R,I4⟩,⟨_,R,I4⟩,⟨_,R,I4⟩,⟨_,R,I4⟩,trivial⟩ I3 R) R (.mv R (.ex R (.ex R (.al 5 zz193 R (.st ag193.sz R (.an R (.seq (.sr (.mv R (.bi R (.ns ?_)))))))))))))))));refine .cc hm R (fun hm=>?_) fun hm=>?_
  ·refine .sr (.mv R (.sa R (.an R (.ret (.seqR (.nlp rE199 199 2 R ?_))))));cases hm;exact .rr [6] Tryz.results191 (.tmp R (.tmp R .nil)) R I3 ⟨⟨_,R,I4⟩,trivial⟩
  ·refine .skip (.seqN (.sr (.fa ybG R (.op (O.lg (l':=[lI b.1.1.1,lI b.1.1.2.1,lI b.1.1.2.2.1,lH 1,lH 2]) ag191 Z R (.B R) R R R) R (bS hm fun d f hm=> .op (O.caY (r':= .tp [.a [lH 6,lH 7],.i d.2]) [6,7] [(0,ROW rB 4 d.1.1),(1,ROW rB 4 d.1.2)] (some 8) (yaC f) cf220 R R Z R R ⟨⟨R,.rf,.rf,.rf,.hr R,.hr R,trivial⟩,trivial⟩ R ⟨.row flr4,.row flr4,trivial⟩ (fun _ _ _ _ h=>h) ⟨⟨_,R,I4⟩,⟨_,R,I4⟩,trivial⟩ I3 R) R (.mv R (.ex R (.ex R (.al 8 zz197 R (.st ag197.sz R (.an R (.seq (.sr (.mv R (.bi R (.ns ?_))))))))))))))));refine .cc hm R (fun hm=>?_) fun hm=>?_
   ·refine .sr (.mv R (.sa R (.an R (.ret (.seqR (.nlp rE199 199 2 R ?_))))));cases hm;exact .rr [9] Tryz.results191 (.tmp R (.tmp R .nil)) R I3 ⟨⟨_,R,I4⟩,trivial⟩
   ·refine .skip (.seqN (.sr (.op (O.lg (l':=(lx37 p0)) ag37 Z R (.B R) R R R) R (.op (O.lg (l':=[lI b.1.1.1,lI b.1.1.2.1,lI b.1.1.2.2.1,lH 1,lH 2,lH 3,lH 4,lI b.1.2.2.2]) ag193 Z R (.B R) R R R) R (.op (O.lg (l':=[lH 6,lH 7]) ag197 Z R (.B R) R R R) R (.op (O.bu (l:=[lF qI p0.1.1,lI p0.1.2.1,lF qI p0.1.2.2.1,lF qT p0.1.2.2.2,lF qI p0.2.1.1,lI p0.2.1.2.1,lF qI p0.2.1.2.2.1,lF qT p0.2.1.2.2.2,lF qI p0.2.2,lI b.1.1.1,lI b.1.1.2.1,lI b.1.1.2.2.1,lH 1,lH 2,lH 3,lH 4,lI b.1.2.2.2,lI 0,lH 6,lH 7]) pl199 R Z R R R) R (.bo 9 R (.sa R (.an R (.ret (.fz 1 [] [5,9] R R fR R R (.fz 2 [] [5,9] R R fR R R (.fz 3 [] [5,9] R R fR R R (.fz 4 [] [5,9] R R fR R R (.fz 6 [] [8,9] R R fR R R (.fz 7 [] [8,9] R R fR R R (.obx (r:=rE199) 9 R (.p (.p (.p .l (.p .k (.p .l .l))) (.p (.p .l (.p .k (.p .l .l))) .l)) (.p (.p (.p .k (.p .k (.p .k (.p .l .l)))) (.p .l (.p .l .k))) (.p .k (.p .l .l)))) (.cnt 2 R (.c .ph .n) R ?_))))))))))))))))));cases hm;exact .rr [9] Tryz.results191 (.tmp R (.tmp R .nil)) R I3 ⟨⟨_,R,I4⟩,trivial⟩
def y1t(a:Bool):Option Bool:=
 some a
def y2m(a:Option BenT)(b:Int)(p0:Int×Int×Int):Option Bool:=
 a.bind fun c=>
 if(p0.1==c.2.2.1) then
  y1t (p0.2.1==b)
 else
  y1t false
theorem y8P{j:Option BenT}{f:Int}{p0:Int×Int×Int}(hm:y2m j f p0=some r):
  F0 242 [.a [lI p0.1,lI p0.2.1,lI p0.2.2],.o (lQ 276 [lK rE199 199 j] 0),.o (lQ 3 [lI f] 0)] [] (.b r) []:=by
 unfold y2m at hm;refine Fw.mk2 Tryz.func242 Tryz.ntmps242 R (fun C=>?_) R;refine .sr (.bo 0 R (.an R ?_));refine .join1 (fun (e:Bool)=>y1t e=some r) (fun e=>⟨[(4,.b e)],[],0⟩) ?_ ?_
 ·intro e hm;unfold y1t at hm;refine .ret ?_;cases hm;exact .rr [] Tryz.results242 (.tmp R .nil) R I3 trivial
 ·intro g;refine bS hm fun k i hm=> .cnt 1 R (.c (.q (.c (.pd i lv199) .n)) .n) R ?_;refine .sub (τ:=⟨[(3,.q 0 0),(1,.o (lQ 276 [lQ 199 (lx199 k) 0] 0)),(2,.o (lQ 3 [lI f] 0))],[(0,.bx 124 [lI p0.1,lI p0.2.1,lI p0.2.2])],1⟩) ?_ [] R;refine .drP 7 [(1,[]),(1,[oT]),(1,[]),(1,[oF,oF,oT]),(1,[oF,oF,oT,oT]),(1,fA 2 (tT 3)),(1,tT 6)] [_,_,_,_,_,_,_] ⟨O.faP y3u Z R R,O.ld nag3 Z R (.B R) R R,O.ld y5s Z R .Q R R,O.nc .Q Z R R,O.faQ ybH Z R R,O.ld nag3 Z R .Q R R,O.bi Z R R R R,trivial⟩ fun h=>?_;rcases ifS hm with ⟨d,hm⟩|⟨d,hm⟩
  ·skip
   exact .drF h [(1,tT 7),(1,tT 8),(1,tT 9),(1,tT 8),(1,tT 11),(1,tT 12),(1,tT 13)] [_,_,_,_,_,_,_] ⟨[(4,.b (p0.2.1==f))],[],1⟩ ⟨O.kn (O.mv Z R R) d,O.faP y5d (Gu.mk R R) R R,O.ld nag3 (Gu.mk R R) R (.B R) R R,O.ld nag3 (Gu.mk R R) R .Q R R,O.bi (Gu.mk R R) R R R R,O.pkT Z R R R R,O.as Z R R,trivial⟩ (by kernel_rfl) R ((g _ hm).sub [] R)
  ·skip
   exact .drF h [(1,tT 7),(1,tT 8),(1,tT 9),(1,tT 8),(1,tT 11),(1,tT 12),(1,tT 13)] [_,_,_,_,_,_,_] ⟨[(4,.b false)],[],1⟩ ⟨O.kn (O.mv Z R R) d,O.skip R R R R,O.skip R R R R,O.skip R R R R,O.skip R R R R,O.pkF Z R R R R,O.as Z R R,trivial⟩ (by kernel_rfl) R ((g _ hm).sub [] R)
def y1N(p0:BenT)(p1:Int):Option Int:=
 (y2g p0.1.1.2.2.2 (y2m (some p0) p1)).bind fun a=>
 if decide (a<0) then
  some (-1)
 else
  (some p0).bind fun b=>
  (idx b.1.1.2.2.2 a).bind fun c=>
  some c.2.2
theorem y6m{p0:BenT}{r:Int}(hm:y1N p0 p1=some r):
    F0 219 [.o (lQ 199 (lx199 p0) 0),.i p1] [] (.i r) []:=by
  unfold y1N at hm;refine Fw.mk2 Tryz.func219 Tryz.ntmps219 R (fun C=>?_) R;refine .sr (.bo 0 R (.bo 1 R (.an R (.sr (.lb y5s R (.op (O.nc .Q Z R R) R (.fq y7M R (.fq y3k R (.fq y1M R (.lq nag33 R (.fz 0 [2] [] R R fB R R (.fz 1 [3] [] R R fB R R (.cnt 2 R (.c (.q (.c (.pk (r:=rE199) (.p (.p (.p .l (.p .k (.p .l .l))) (.p (.p .l (.p .k (.p .l .l))) .l)) (.p (.p (.p .k (.p .k (.p .k (.p .l .l)))) (.p .l (.p .l .k))) (.p .k (.p .l .l))))) .n)) .n) R (.op (O.mf (args:=(fun (x:(Int×Int×Int))=> [.a [lI x.1,lI x.2.1,lI x.2.2]])) (res:=(fun (r:Bool)=> .b r)) (m:=(y2m (some p0) p1)) cf242 (fun x r h=>y8P h) (fun _=>R) R Z R R) R (bS hm fun g d hm=> .c0 (y6u d) cf140 R (.an R (.seq (.sr (.mv R (.bi R (.ns ?_)))))))))))))))))))));refine .cc hm R (fun hm=>?_) fun hm=>?_
  ·refine .sr (.an R (.ret (.seqR ?_)));cases hm;exact .rr [] Tryz.results219 (.tmp R .nil) R I3 trivial
  ·refine .skip (.seqN (.sr (.lq y5s R (bS hm fun j e hm=> .cnt 16 R (.c (.pd e lv199) .n) R (.op (O.nc .Q Z R R) R (.fq y7M R (.fq y3k R (.fq y1M R (.lq nag33 R (.mv R (bS hm fun s f hm=> .ix sl33 f R (.fe y5e R (.le nag3 lv124 R (.an R (.ret ?_)))))))))))))));cases hm;exact .rr [] Tryz.results219 (.tmp R .nil) R I3 trivial
def y2z(p0:BenT)(b:Int)(a:Int):Option (Bool×BenT):=
 some (decide (b≥0),p0.1,p0.2.1,a,p0.2.2.2)
def y2u(p0:BenT)(p1:Int):Option (Bool×BenT):=
 (y1N p0 p1).bind fun a=>
 if decide (a≥0) then
  y2z p0 a a
 else
  y2z p0 a p0.2.2.1
theorem y6z{p0:BenT}{r:Bool×BenT}(hm:y2u p0 p1=some r):
  Fw Tryz.prog 186 ⟨1,[0]⟩ [.o (lP 0 0),.i p1] [.bx 199 (lx199 p0)] (.b r.1) [.bx 199 (lx199 r.2)]:=by
 unfold y2u at hm;refine Fw.mk2 Tryz.func186 Tryz.ntmps186 R (fun C=>?_) R;refine .sr (.an R (.sr (.mv R (.mv R (bS hm fun e d hm=> .op (O.caZ (y6m d) cf219 R R Z R ⟨⟨R,(.q R LnL.rf),trivial⟩,⟨R,LnL.rf⟩,trivial⟩ (fun _ _ _ _ _ h=>h) R) R (.an R ?_))))));refine .join1 (fun (a:Int)=>y2z p0 e a=some r) (fun a=>⟨[(5,.i e)],[(0,.bx 199 [lF qI p0.1.1.1,lI p0.1.1.2.1,lF qI p0.1.1.2.2.1,lF qT p0.1.1.2.2.2,lF qI p0.1.2.1.1,lI p0.1.2.1.2.1,lF qI p0.1.2.1.2.2.1,lF qT p0.1.2.1.2.2.2,lF qI p0.1.2.2,lI p0.2.1.1.1,lI p0.2.1.1.2.1,lI p0.2.1.1.2.2.1,lF rB p0.2.1.1.2.2.2.1,lF rE302 p0.2.1.1.2.2.2.2,lF qI p0.2.1.2.1,lF qI p0.2.1.2.2.1,lI p0.2.1.2.2.2,lI a,lF rB p0.2.2.2.1,lF rB p0.2.2.2.2])],1⟩) ?_ ?_
 ·intro a hm;unfold y2z at hm;refine .sr (.mv R (.bi R (.an R (.ret ?_))));cases hm;exact .rr [0] Tryz.results186 (.tmp R .nil) R I3 ⟨⟨_,R,I4⟩,trivial⟩
 ·intro c;refine .sr (.mv R (.bi R (.ns ?_)));exact .cc hm R (fun hm=> .reg (.mv R (.mv R (.op (O.nc .B Z R R) R (.fa ybH R (.st nag3.sz R (.nil ((c _ hm).sub [] R)))))))) fun hm=> .skip ((c _ hm).sub [] R)
def y6A(p0:List Int)(p1:List Int):Option Int:=
 (y1O p0 32).bind fun a=>
 if(a != 0) then
  some a
 else
  (y1c p0 p1).bind fun b=>
  if(!b) then
   some 9
  else
   some 0
theorem ybw{p0:List Int}{p1:List Int}{r:Int}(hm:y6A p0 p1=some r):
    F0 295 [.f qI p0,.f qI p1] [] (.i r) []:=by
  unfold y6A at hm;refine Fw.mk2 Tryz.func295 Tryz.ntmps295 R (fun C=>?_) R;refine .sr (.an R (.seq (.sr (.mv R (bS hm fun c a hm=> .c0 (y5g a) cf25 R (.an R (.sr (.mv R (.bi R (.ns ?_))))))))));refine .cc hm R (fun hm=>?_) fun hm=>?_
  ·refine .sr (.mv R (.an R (.ret (.seqR ?_))));cases hm;exact .rr [] Tryz.results295 (.tmp R .nil) R I3 trivial
  ·refine .skip (.seqN (.seq (.sr (.mv R (.mv R (bS hm fun d b hm=> .c0 (y7r b) cf26 R (.op (O.not Z R R) R (.ns ?_))))))));refine .cc hm R (fun hm=>?_) fun hm=>?_
   ·refine .sr (.an R (.ret (.seqR ?_)));cases hm;exact .rr [] Tryz.results295 (.tmp R .nil) R I3 trivial
   ·refine .skip (.seqN (.sr (.an R (.ret ?_))));cases hm;exact .rr [] Tryz.results295 (.tmp R .nil) R I3 trivial
def y4i(p0:CodT)(p1:List Int)(a:Int×List Bool):Option ((Int×List Bool)⊕(List Bool)):=
 if decide (a.1<(p0.2.1.length:Int)) then
  (idx p0.2.1 a.1).bind fun c=>
  (y3F p1 c).bind fun b=>
  (idx a.2 a.1).bind fun e=>
  (upd a.2 a.1 b).bind fun d=>
  some (.inl (W (a.1+1),d))
 else
  some (.inr a.2)
def y6r(p0:CodT)(p1:List Int):Option (List Bool×Int):=
 (y6A p1 p0.2.1).bind fun b=>
 if(b != 0) then
  some (([]:List Bool),b)
 else
  (mkL (p0.2.1.length:Int) false).bind fun c=>
  (iter (y4i p0 p1) (0,c)).bind fun a=>
  some (a,0)
theorem ybh{p0:CodT}{p1:List Int}{r:List Bool×Int}(hm:y6r p0 p1=some r):
    F0 271 [.a (lx193 p0),.f qI p1] [] (.tp [.h 0,.i r.2]) [ROW rB 4 r.1]:=by
  unfold y6r at hm;refine Fw.mk2 Tryz.func271 Tryz.ntmps271 R (fun C=>?_) R;refine .sr (.bo 0 R (.sa R (.an R (.seq (.sr (.mv R (.fa yde R (.lb nag32 R (bS hm fun x p hm=> .c0 (ybw p) cf295 R (.an R (.sr (.mv R (.bi R (.ns ?_))))))))))))));refine .cc hm R (fun hm=>?_) fun hm=>?_
  ·refine .sr (.mv R (.sa R (.an R (.ret (.seqR (.nlg rB 4 4 0 R R ?_))))));cases hm;exact .rr [1] Tryz.results271 (.tmp R (.tmp R .nil)) R I3 ⟨⟨_,R,I4⟩,trivial⟩
  ·refine .skip (.seqN (.sr (.fa yde R (.lb nag32 R (.ln sl32 R (bS hm fun y q hm=> .op (O.mk (z:=false) 1 Tryz.underlying144 zr4 R R Z R R q R) R (.an R (.seq (.sr (.fa yde R (.lb nag32 R (.ln sl32 R (.mv R (.ns (.block (bS hm fun e g hm=>?_))))))))))))))));refine .cut1 (z:= .exit 0) e (fun (e:List Bool)=>⟨[(7,.h 0)],[(0,ROW rB 4 e)],1⟩) ?_ fun o=>?_
   · skip
     refine .blkE (.seqN (.sr (.mv R (.sa R (.an R (.ret ?_))))));cases hm;exact .rr [0] Tryz.results271 (.tmp R (.tmp R .nil)) R I3 ⟨⟨_,R,I4⟩,trivial⟩
   refine .iter (fun (c:Int×List Bool)=>⟨[(24,.i c.1),(23,.i (p0.2.1.length:Int)),(22,.f qI p0.2.1),(7,.h 0),(1,.f qI p1)],[(0,ROW rB 4 c.2)],1⟩) g [(0,1)] R ?_;intro c t hm n m;unfold y4i at hm;refine .sr (.bi R (.ns (.seq ?_)));exact .cc hm R (fun hm=> .skip (.seqN (.seq (.block (.sr (.mv R (bS hm fun u k hm=> .ix sl32 k R (.le nag3 lv3 R (.sa R (.an R (.reg (.mv R (.mv R (.mv R (.mv R (bS hm fun s j hm=> .c0 (y6Z j) cf94 R (bS hm fun v d hm=> .op (O.ir sl144 Z R R R d R) R (bS hm fun w l hm=> .op (O.su (z:=s) nag4.sz Z R R d l R R R lv4 R .b) R (.nil (.blkN (.seqN (.reg (.bi R (.mv R (.nil ((n _ (oi hm).symm).sub [] R)))))))))))))))))))))))))) fun hm=> .exit (.seqX (.seqX ((o _ (m _ (oi hm).symm)).sub [] R)))
def y6b(p0:List Bool)(p1:Int):Option (List Bool):=if p0= []∧0≤p1∧p1≤100000 then some [] else none
theorem Row.as_at{w:World}{B k':Nat}{tag tag':Nat→Nat}{k:Nat}{t:TypeId}{sz:Nat}{v:Value}{n:Nat}{cs:List Value}(h:Row w B tag k t sz v n cs)(ht:∀b,B≤b→b<w.heap.size→tag' b=k'):Row w 0 tag' k' t sz v n cs:=
 ⟨h.1,h.2.imp id fun⟨b,off,cap,cur,h1,h2,h3⟩=>⟨b,off,cap,cur,h1,⟨h2.heap,ht b h2.base h2.lt,Nat.zero_le _⟩,h3⟩⟩
theorem Tryz.ginfo_bool :(Tryz.prog.info? 4).map (fun i=>(i.zero,i.size,i.bytes))=some (some (.bool false),1,1):=by kernel_rfl
theorem yh6(n:Nat)(w:World)(hn:n≤100000):
  Calls Tryz.prog 321 #[.slice none 0 0,.int .i64 n] w (Ret w fun u w'=>Row w' w.heap.size (fun _=>1) 1 4 1 u 0 []):=by
 obtain⟨i0,hi,hz0,hz1,hz2⟩:=info_parts Tryz.ginfo_bool
 go_enter Tryz.func321,Tryz.ntmps321
 by_cases h0:n=0
 ·subst h0
  go_wp2
  go_ret
  exact⟨_,rfl,Row.nil _ _ _ _ _ _,Below.refl _ _⟩
 ·have h1:(0:Int)<(n:Int):=by omega
  have hge:=grownCap_ge w n 0 4;have hcm:=grownCap_le_maxLen w n 0 4 (by unfold maxLen;omega);have hr:=fun ty=>Lib.run_append_nil_zeros (P:=Tryz.prog) w 144 3 ty 4 i0 (.bool false) .i64 .i64 Tryz.underlying144 Tryz.underlying3 hi hz0 n (by omega) (by rw [hz1];decide) (by omega) (by rw [hz2];omega);have hsz:(Builtin.zeroCells (Value.bool false).cells n++Builtin.zeroCells (Value.bool false).cells (grownCap w n 0 4-n)).size=grownCap w n 0 4:=by
   rw [Array.size_append,size_zeroCells,size_zeroCells];simp [Value.cells];omega
  generalize Builtin.zeroCells (Value.bool false).cells n++Builtin.zeroCells (Value.bool false).cells (grownCap w n 0 4-n)=cs at *;generalize grownCap w n 0 4=cap at *
  go_wp2_with (at_builtin;refine Lib.wpList_append_run _ rfl _ _ 144 3 rfl _ _ rfl rfl _ _ (hr _) ?_)
  go_ret
  refine⟨_,rfl,⟨by simp,.inr ⟨w.heap.size,0,cap,cs,rfl,⟨heap_alloc_new _ _,rfl,Nat.le_refl _⟩,Nat.zero_le _,hcm,by omega,by simp⟩⟩,(by (repeat (first | with_reducible exact Below.refl _ _|with_reducible exact Below.refl _ _|(with_reducible refine yeQ ?_ Below.refl _ _ (by first | omega|(simp;done)|(simp;omega)|(simp at *;omega)))|(with_reducible refine Below.alloc ?_ (by first | omega|(simp;done)|(simp;omega)|(simp at *;omega)) _)|(with_reducible refine Below.drew ?_)|(with_reducible refine Below.setCell ?_ (by first | omega|(simp;done)|(simp;omega)|(simp at *;omega)) _))))⟩
theorem yaW{s:Sig}{p0:List Bool}{u0:Nat}{r:List Bool}(hm:y6b p0 p1=some r):
  Calls Tryz.prog 321 #[.slice none 0 0,.int .i64 p1] s.w (RetS No s fun v s'=>∃(a1:Option Addr) (c1:Nat),v= .slice a1 r.length c1∧RowT rB s' u0 4 a1 c1 r):=by
 unfold y6b at hm;split at hm
 ·rename_i hc;cases hm;obtain⟨_,h1,h2⟩:=hc;obtain⟨n,rfl⟩:∃n:Nat,p1=n:=⟨p1.toNat,by omega⟩;have hn:n≤100000:=by omega
  have hg:Calls Tryz.prog 321 #[.slice none 0 0,.int .i64 n] s.w (Ret s.w fun u w'=>Row w' s.w.heap.size (fun _=>1) 1 4 1 u 0 []):=yh6 n s.w hn;refine hg.mono fun en w' hh=>?_;obtain⟨u,rfl,hrow,hbel⟩:=hh;obtain⟨a1,c1,rfl⟩:=hrow.val;refine⟨_,⟨w',fun b=>if b<s.w.heap.size then s.tag b else u0⟩,rfl,rfl,Below.mv hbel (fun b hb=>if_pos hb),a1,c1,rfl,[],hrow.as_at fun b h3 h4=>if_neg (by omega),rfl⟩
 ·cases hm
def y6s(p0:List Int)(p1:Int):Option (List Int):=if p0= []∧0≤p1∧p1≤100000 then some [] else none
theorem Tryz.ginfo_int :(Tryz.prog.info? 3).map (fun i=>(i.zero,i.size,i.bytes))=some (some (.int .i64 0),1,8):=by kernel_rfl
theorem ygh(n:Nat)(w:World)(hn:n≤100000):
  Calls Tryz.prog 218 #[.slice none 0 0,.int .i64 n] w (Ret w fun u w'=>Row w' w.heap.size (fun _=>1) 1 3 1 u 0 []):=by
 obtain⟨i0,hi,hz0,hz1,hz2⟩:=info_parts Tryz.ginfo_int
 go_enter Tryz.func218,Tryz.ntmps218
 by_cases h0:n=0
 ·subst h0
  go_wp2
  go_ret
  exact⟨_,rfl,Row.nil _ _ _ _ _ _,Below.refl _ _⟩
 ·have h1:(0:Int)<(n:Int):=by omega
  have hge:=grownCap_ge w n 0 3;have hcm:=grownCap_le_maxLen w n 0 3 (by unfold maxLen;omega);have hr:=fun ty=>Lib.run_append_nil_zeros (P:=Tryz.prog) w 32 3 ty 3 i0 (.int .i64 0) .i64 .i64 Tryz.underlying32 Tryz.underlying3 hi hz0 n (by omega) (by rw [hz1];decide) (by omega) (by rw [hz2];omega);have hsz:(Builtin.zeroCells (Value.int .i64 0).cells n++Builtin.zeroCells (Value.int .i64 0).cells (grownCap w n 0 3-n)).size=grownCap w n 0 3:=by
   rw [Array.size_append,size_zeroCells,size_zeroCells];simp [Value.cells];omega
  generalize Builtin.zeroCells (Value.int .i64 0).cells n++Builtin.zeroCells (Value.int .i64 0).cells (grownCap w n 0 3-n)=cs at *;generalize grownCap w n 0 3=cap at *
  go_wp2_with (at_builtin;refine Lib.wpList_append_run _ rfl _ _ 32 3 rfl _ _ rfl rfl _ _ (hr _) ?_)
  go_ret
  refine⟨_,rfl,⟨by simp,.inr ⟨w.heap.size,0,cap,cs,rfl,⟨heap_alloc_new _ _,rfl,Nat.le_refl _⟩,Nat.zero_le _,hcm,by omega,by simp⟩⟩,(by (repeat (first | with_reducible exact Below.refl _ _|with_reducible exact Below.refl _ _|(with_reducible refine yeQ ?_ Below.refl _ _ (by first | omega|(simp;done)|(simp;omega)|(simp at *;omega)))|(with_reducible refine Below.alloc ?_ (by first | omega|(simp;done)|(simp;omega)|(simp at *;omega)) _)|(with_reducible refine Below.drew ?_)|(with_reducible refine Below.setCell ?_ (by first | omega|(simp;done)|(simp;omega)|(simp at *;omega)) _))))⟩
theorem ybi{s:Sig}{p0:List Int}{u0:Nat}{r:List Int}(hm:y6s p0 p1=some r):
  Calls Tryz.prog 218 #[.slice none 0 0,.int .i64 p1] s.w (RetS No s fun v s'=>∃(a1:Option Addr) (c1:Nat),v= .slice a1 r.length c1∧RowT (rK .i64) s' u0 3 a1 c1 r):=by
 unfold y6s at hm;split at hm
 ·rename_i hc;cases hm;obtain⟨_,h1,h2⟩:=hc;obtain⟨n,rfl⟩:∃n:Nat,p1=n:=⟨p1.toNat,by omega⟩;have hn:n≤100000:=by omega
  have hg:Calls Tryz.prog 218 #[.slice none 0 0,.int .i64 n] s.w (Ret s.w fun u w'=>Row w' s.w.heap.size (fun _=>1) 1 3 1 u 0 []):=ygh n s.w hn;refine hg.mono fun en w' hh=>?_;obtain⟨u,rfl,hrow,hbel⟩:=hh;obtain⟨a1,c1,rfl⟩:=hrow.val;refine⟨_,⟨w',fun b=>if b<s.w.heap.size then s.tag b else u0⟩,rfl,rfl,Below.mv hbel (fun b hb=>if_pos hb),a1,c1,rfl,[],hrow.as_at fun b h3 h4=>if_neg (by omega),rfl⟩
 ·cases hm
theorem yaX{p0:List Bool}{r:List Bool}(hm:y6b p0 p1=some r):Fw Tryz.prog 321 ⟨0,[]⟩ [.o (lV (.slice none 0 0)),.i p1] [] (.h 0) [ROW rB 4 r]:=
 ⟨fun ts β s vs ht _ _ _ ⟨v,us,h,⟨v2,us2,h2,hu,e3⟩,e2⟩ _=>by
  have hu:us2= []:=hu;have h:v= .slice none 0 0:=h.1;have h2:v2= .int .i64 p1:=h2.1;subst hu e3 e2 h h2;obtain⟨t,rfl⟩:∃t,ts= [t]:=by
   match ts,ht with
   | [t],_=>exact⟨t,rfl⟩
  exact Calls.mono (yaW (u0:=t) hm) fun en w' ⟨v,s',e1,e2,m,a,c,hv,hr⟩=>⟨v,s',e1,e2,m.no,fun _=>v,fun i hi=>(by cases hi),⟨rfl,by rw [hv];rfl⟩,fun i o ho=>by
   match i,ho with
   | 0,ho=>cases ho;exact⟨a,c,hv,hr⟩⟩⟩
theorem ybj{p0:List Int}{r:List Int}(hm:y6s p0 p1=some r):Fw Tryz.prog 218 ⟨0,[]⟩ [.o (lV (.slice none 0 0)),.i p1] [] (.h 0) [ROW qI 3 r]:=
 ⟨fun ts β s vs ht _ _ _ ⟨v,us,h,⟨v2,us2,h2,hu,e3⟩,e2⟩ _=>by
  have hu:us2= []:=hu;have h:v= .slice none 0 0:=h.1;have h2:v2= .int .i64 p1:=h2.1;subst hu e3 e2 h h2;obtain⟨t,rfl⟩:∃t,ts= [t]:=by
   match ts,ht with
   | [t],_=>exact⟨t,rfl⟩
  exact Calls.mono (ybi (u0:=t) hm) fun en w' ⟨v,s',e1,e2,m,a,c,hv,hr⟩=>⟨v,s',e1,e2,m.no,fun _=>v,fun i hi=>(by cases hi),⟨rfl,by rw [hv];rfl⟩,fun i o ho=>by
   match i,ho with
   | 0,ho=>cases ho;exact⟨a,c,hv,hr⟩⟩⟩
theorem ybk{p0:List Int}{r:List Int}(hm:y5F p0=some r):Fw Tryz.prog 206 ⟨1,[0]⟩ [.h 0] [ROW qI 3 p0] (.tp []) [ROW qI 3 r]:=
 ⟨fun ts β s vs ht _ _ hp ⟨v,us,h,hu,e2⟩ ho=>by
  have hu:us= []:=hu;subst hu;subst e2;obtain⟨t,rfl⟩:∃t,ts= [t]:=by
   match ts,ht with
   | [t],_=>exact⟨t,rfl⟩
  obtain⟨a,c,e,h2⟩:=ho 0 _ rfl;have hv:v= .slice a p0.length c:=h.1.trans e;subst hv;have hl:r.length=p0.length:=by
   unfold y5F at hm;split at hm
   ·rw [←Option.some.inj hm];exact(y9P _).length_eq
   ·cases hm
  exact Calls.mono (ybe (hp t (.head _)) h2 hm) fun en w' ⟨v,s',e1,e2,m,hv,hr⟩=>⟨v,s',e1,e2,m.weak fun t' ht'=>⟨0,.head _,by rw [show t'=t from ht'];rfl⟩,β,fun _ _=>rfl,⟨[],rfl,hv⟩,fun i o ho=>by
   match i,ho with
   | 0,ho=>cases ho;exact⟨a,c,by rw [e,hl],hr⟩⟩⟩
def y2j(p0:List (List Bool))(a:Int×List Bool):Option ((Int×List Bool)⊕(List Bool)):=
 if decide (a.1<(p0.length:Int)) then
  (idx p0 a.1).bind fun b=>
  (app a.2 b).bind fun c=>
  some (.inl (W (a.1+1),c))
 else
  some (.inr a.2)
def y5I(b:Int×Int)(a:Int):Option ((Int×Int)⊕Int):=
 some (.inl (W (b.1+1),a))
def y2k(p0:List (List Bool))(a:Int×Int):Option ((Int×Int)⊕Int):=
 if decide (a.1<(p0.length:Int)) then
  (idx p0 a.1).bind fun b=>
  if decide ((W (a.2+(b.length:Int)))<0) then
   none
  else
   y5I a (W (a.2+(b.length:Int)))
 else
  some (.inr a.2)
def y5z(p0:List (List Bool)):Option (List Bool):=
 (iter (y2k p0) (0,0)).bind fun c=>
 (y6b ([]:List Bool) c).bind fun b=>
 (iter (y2j p0) (0,b)).bind fun a=>
 some a
theorem yae{p0:List (List Bool)}{r:List Bool}(hm:y5z p0=some r):
  F0 319 [.f (rL rB) p0] [] (.h 0) [ROW rB 4 r]:=by
 unfold y5z at hm;refine Fw.mk2 Tryz.func319 Tryz.ntmps319 R (fun C=>?_) R;refine .sr (.an R (.sr (.an R (.seq (.sr (.mv R (.ln sl387 R (.mv R (.ns (.block (bS hm fun p u hm=>?_)))))))))));refine .cut1 (z:= .exit 0) p (fun (p:Int)=>⟨[(3,.i p),(0,.f (rL rB) p0)],[],0⟩) ?_ fun s=>?_
 ·skip
  refine .blkE (.seqN (.sr (.mv R (bS hm fun x j hm=> .op (O.ca (r':= .h 0) [0] [(0,ROW rB 4 x)] (some 1) (yaX j) cf321 R R Z R R R R ⟨⟨_,R,I4⟩,trivial⟩ I3 R) R (.an R (.seq (.sr (.mv R (.ln sl387 R (.mv R (.ns (.block (bS hm fun d g hm=>?_)))))))))))));refine .cut1 (z:= .exit 2) d (fun (d:List Bool)=>⟨[(6,.h 0)],[(0,ROW rB 4 d)],1⟩) ?_ fun t=>?_
  ·skip
   refine .blkE (.seqN (.sr (.mv R (.an R (.ret ?_)))));cases hm;exact .rr [0] Tryz.results319 (.tmp R .nil) R I3 ⟨⟨_,R,I4⟩,trivial⟩
  refine .iter (fun (b:Int×List Bool)=>⟨[(27,.i b.1),(26,.i (p0.length:Int)),(25,.f (rL rB) p0),(6,.h 0)],[(0,ROW rB 4 b.2)],1⟩) g [] R ?_;intro b y hm o n;unfold y2j at hm;refine .sr (.bi R (.ns (.seq ?_)));exact .cc hm R (fun hm=> .skip (.seqN (.seq (.block (.sr (bS hm fun B k hm=> .ix sl387 k R (.le y3l lv144 R (.an R (.reg (.mv R (.mv R (bS hm fun D l hm=> .op (O.ap 1 Tryz.underlying144 el4 R R Z R R (.fr R) l R) R (.sa R (.nil (.blkN (.seqN (.reg (.bi R (.mv R (.nil ((o _ (oi hm).symm).sub [(0,1)] R))))))))))))))))))))) fun hm=> .exit (.seqX (.seqX ((t _ (n _ (oi hm).symm)).sub [] R)))
 refine .iter (fun (a:Int×Int)=>⟨[(11,.i a.1),(10,.i (p0.length:Int)),(9,.f (rL rB) p0),(3,.i a.2),(0,.f (rL rB) p0)],[],0⟩) u [] R ?_;intro a q hm w v;unfold y2k at hm;refine .sr (.bi R (.ns (.seq ?_)));refine .cc hm R (fun hm=>?_) fun hm=> .exit (.seqX (.seqX ((s _ (v _ (oi hm).symm)).sub [] R)));refine .skip (.seqN ?_);refine .join1 (fun (c:Int)=>y5I a c=some q) (fun c=>⟨[(3,.i c),(11,.i a.1),(10,.i (p0.length:Int)),(9,.f (rL rB) p0),(0,.f (rL rB) p0)],[],0⟩) ?_ ?_
 ·intro c hm;unfold y5I at hm;exact .reg (.bi R (.mv R (.nil ((w _ (oi hm).symm).sub [] R))))
 ·intro e;refine .block (.sr (bS hm fun E m hm=> .ix sl387 m R (.le y3l lv144 R (.an R (.sr (.mv R (.mv R (.ln sl144 R (.bi R (.an R (.sr (.mv R (.bi R (.ns ?_))))))))))))));refine .cc hm R (fun hm=>?_) fun hm=> .skip (.blkN ((e _ hm).sub [] R));refine .reg ?_;cases hm
def y5L(p0:Int×Int×Int×List Bool×(List (Int×Int)))(p1:List Bool×List Bool)(p2:List Bool):Option (List Bool×Int):=
 (y4G p0).bind fun a=>
 if(a != 0) then
  some (([]:List Bool),a)
 else
  if((((p2.length:Int) != p0.1)||((p1.1.length:Int) != p0.2.1))||((p1.2.length:Int) != p0.2.2.1)) then
   some (([]:List Bool),4)
  else
   (y5z ([p2,p1.1,p1.2]:List (List Bool))).bind fun b=>
   some (b,0)
theorem yaD{p0:Int×Int×Int×List Bool×(List (Int×Int))}{p1:List Bool×List Bool}{p2:List Bool}{r:List Bool×Int}(hm:y5L p0 p1 p2=some r):
    F0 296 [.a (lx191 p0),.a [lF rB p1.1,lF rB p1.2],.f rB p2] [] (.tp [.h 0,.i r.2]) [ROW rB 4 r.1]:=by
  unfold y5L at hm;refine Fw.mk2 Tryz.func296 Tryz.ntmps296 R (fun C=>?_) R;refine .sr (.bo 0 R (.bo 1 R (.sa R (.an R (.seq (.sr (.op (O.lg (l':=(lx191 p0)) ag191 Z R (.B R) R R R) R (bS hm fun s m hm=> .c0 (y8f m) cf243 R (.an R (.sr (.mv R (.bi R (.ns ?_)))))))))))));refine .cc hm R (fun hm=>?_) fun hm=>?_
  ·refine .sr (.mv R (.sa R (.an R (.ret (.seqR (.nlg rB 4 6 0 R R ?_))))));cases hm;exact .rr [2] Tryz.results296 (.tmp R (.tmp R .nil)) R I3 ⟨⟨_,R,I4⟩,trivial⟩
  ·refine .skip (.seqN (.seq (.sr (.mv R (.ln sl144 R (.fa y9J R (.lb nag3 R (.bi R (.mv R ?_)))))))));refine .cut 7 (fun (e:Bool)=>(((p2.length:Int) != p0.1)||((p1.1.length:Int) != p0.2.1))=e) (fun e=>⟨[(26,.b e),(4,.q 1 0),(3,.q 0 0),(2,.f rB p2)],[(1,.bx 197 [lF rB p1.1,lF rB p1.2]),(0,.bx 191 (lx191 p0))],2⟩) ?_ ?_
   · rintro _ rfl;refine .mv R ?_;refine .cut 7 (fun (g:Bool)=>((((p2.length:Int) != p0.1)||((p1.1.length:Int) != p0.2.1))||((p1.2.length:Int) != p0.2.2.1))=g) (fun g=>⟨[(34,.b g),(4,.q 1 0),(2,.f rB p2)],[(1,.bx 197 [lF rB p1.1,lF rB p1.2])],2⟩) ?_ ?_
     · rintro _ rfl;refine .ns ?_;refine .cc hm R (fun hm=>?_) fun hm=>?_
       ·refine .sr (.sa R (.an R (.ret (.seqR (.nlg rB 4 6 0 R R ?_)))));cases hm;exact .rr [2] Tryz.results296 (.tmp R (.tmp R .nil)) R I3 ⟨⟨_,R,I4⟩,trivial⟩
       ·refine .skip (.seqN (.sr (.mv R (.fa yaw R (.lb y3l R (.fa ybI R (.lb y3l R (.op (O.bsF (r:=(rL rB)) (zs:=([p2,p1.1,p1.2]:List (List Bool))) bs387 R R Z R R R (.c .l (.c .l (.c .l .n))) R R R) R (bS hm fun p o hm=> .op (O.ca (r':= .h 2) [2] [(0,ROW rB 4 p)] (some 3) (yae o) cf319 R R Z R R R R ⟨⟨_,R,I4⟩,trivial⟩ I3 R) R (.sa R (.an R (.ret ?_))))))))))));cases hm;exact .rr [2] Tryz.results296 (.tmp R (.tmp R .nil)) R I3 ⟨⟨_,R,I4⟩,trivial⟩
     · intro k;rcases Bool.eq_false_or_eq_true (((p2.length:Int) != p0.1)||((p1.1.length:Int) != p0.2.1)) with hc|hc
       · refine .know (d:=27) R hc ?_;exact .sk R (.sk R (.sk R (.sk R (.sk R (.sk R (.op (O.pkT Z R R R R) R ((k true (orT hc).symm).sub [] R)))))))
       · refine .know (d:=27) R hc ?_;exact .op (O.faP ybI (Gu.mk R R) R R) R (.op (O.ld y3l (Gu.mk R R) R (.B R) R R) R (.op (O.len sl144 (Gu.mk R R) R R) R (.op (O.faP yav (Gu.mk R R) R R) R (.op (O.ld nag3 (Gu.mk R R) R (.B R) R R) R (.op (O.bi (Gu.mk R R) R R R R) R (.op (O.pkF Z R R R R) R ((k ((p1.2.length:Int) != p0.2.2.1) (orF hc).symm).sub [] R)))))))
   · intro j;rcases Bool.eq_false_or_eq_true ((p2.length:Int) != p0.1) with hc|hc
     · refine .know (d:=19) R hc ?_;exact .sk R (.sk R (.sk R (.sk R (.sk R (.sk R (.op (O.pkT Z R R R R) R ((j true (orT hc).symm).sub [] R)))))))
     · refine .know (d:=19) R hc ?_;exact .op (O.faP yaw (Gu.mk R R) R R) R (.op (O.ld y3l (Gu.mk R R) R (.B R) R R) R (.op (O.len sl144 (Gu.mk R R) R R) R (.op (O.faP y9K (Gu.mk R R) R R) R (.op (O.ld nag3 (Gu.mk R R) R (.B R) R R) R (.op (O.bi (Gu.mk R R) R R R R) R (.op (O.pkF Z R R R R) R ((j ((p1.1.length:Int) != p0.2.1) (orF hc).symm).sub [] R)))))))
def y1W(p0:Int×Int×Int×List Bool×(List (Int×Int)))(n:(List (Int×ByteArray×(Option (Bool→Bool→Option Bool))×(Option (Bool→Bool→Option Bool))×(Option (Bool→Option Bool)))))(a:List Bool×Int×Bool×List Int):Option ((List Bool×Int×Bool×List Int)⊕(List Bool×List Int)):=
 if decide (a.2.1<(p0.2.2.2.2.length:Int)) then
  (app a.2.2.2 ([a.2.1]:List Int)).bind fun d=>
  (idx p0.2.2.2.2 a.2.1).bind fun b=>
  (idx n (W (b.1-1))).bind fun c=>
  if c.2.2.1.isSome then
   (idx a.1 b.2).bind fun k=>
   c.2.2.1.bind fun e=>
   (e a.2.2.1 k).bind fun h=>
   some (.inl (a.1,W (a.2.1+1),h,d))
  else
   if c.2.2.2.1.isSome then
    (idx a.1 b.2).bind fun l=>
    c.2.2.2.1.bind fun f=>
    (f a.2.2.1 l).bind fun i=>
    (idx a.1 b.2).bind fun o=>
    (upd a.1 b.2 i).bind fun m=>
    some (.inl (m,W (a.2.1+1),a.2.2.1,d))
   else
    c.2.2.2.2.bind fun g=>
    (g a.2.2.1).bind fun j=>
    if j then
     some (.inl (a.1,b.2,a.2.2.1,d))
    else
     some (.inl (a.1,W (a.2.1+1),a.2.2.1,d))
 else
  some (.inr (a.1,a.2.2.2))
def y6c(p0:Int×Int×Int×List Bool×(List (Int×Int)))(p1:List Bool):Option (List Int×List Bool):=
 (y1i).bind fun b=>
 (iter (y1W p0 b) (p1,0,false,([]:List Int))).bind fun a=>
 some (a.2,a.1)
theorem yaY{p0:Int×Int×Int×List Bool×(List (Int×Int))}{p1:List Bool}{r:List Int×List Bool}(hm:y6c p0 p1=some r):
    Fw Tryz.prog 297 ⟨1,[0]⟩ [.a (lx191 p0),.h 0] [ROW rB 4 p1] (.h 1) [ROW rB 4 r.2,ROW qI 3 r.1]:=by
  unfold y6c at hm;refine Fw.mk2 Tryz.func297 Tryz.ntmps297 R (fun C=>?_) R;refine .sr (.bo 1 R (.an R (.sr (bS hm fun w N hm=> .c0 (y7i N) cf293 R (.an R (.sr (.an R (.sr (.an R (.seq (.sr (.an R (.block (bS hm fun p x hm=>?_))))))))))))));refine .cut1 (z:= .exit 0) p (fun (p:List Bool×List Int)=>⟨[(6,.h 1)],[(0,ROW rB 4 p.1),(1,ROW qI 3 p.2)],2⟩) ?_ fun M=>?_
  · skip
    refine .blkE (.seqN (.sr (.mv R (.an R (.ret ?_)))));cases hm;exact .rr [0,1] Tryz.results297 (.tmp R .nil) R I3 ⟨⟨_,R,I4⟩,⟨_,R,I4⟩,trivial⟩
  refine .nlg qI 3 6 0 R R (.iter (fun (d:List Bool×Int×Bool×List Int)=>⟨[(8,.i d.2.1),(7,.b d.2.2.1),(6,.h 1),(5,.f rE372 w),(2,.q 2 0),(1,.h 0)],[(0,ROW rB 4 d.1),(1,ROW qI 3 d.2.2.2),(2,.bx 191 (lx191 p0))],3⟩) x [(1,2),(2,1)] R ?_);intro d V hm o L;unfold y1W at hm;refine .seq (.sr (.mv R (.fa y9L R (.lb y7g R (.ln sl189 R (.bi R (.ns ?_)))))));refine .cc hm R (fun hm=>?_) fun hm=> .exit (.seqX (.seqX ((M _ (L _ (oi hm).symm)).sub [] R)));refine .skip (.seqN (.block (.sr (.mv R (.mv R (.op (O.bsF (r:=qI) (zs:=([d.2.1]:List Int)) bs32 R R Z R R R (.c .k .n) R R R) R (bS hm fun s H hm=> .op (O.ap 3 Tryz.underlying32 el3 R R Z R R (.fr R) H R) R (.an R (.sr (.fa y9L R (.lb y7g R (.mv R (bS hm fun m I hm=> .ix sl189 I R (.op (O.lg (l':=[lI m.1,lI m.2]) ag302 Z R (.E lv302) R R R) R (.al 4 zz302 R (.st ag302.sz R (.nr (.mv R (.fa ybF R (.lb nag3 R (.bi R (bS hm fun e J hm=> .ix sl368 J R (.op (O.lg (l':=[lI e.1,lV (.string e.2.1),lF2 Tryz.prog (fun (g:Bool) (j:Bool)=> [.bool g,.bool j]) (fun (r:Bool)=> .bool r) e.2.2.1,lF2 Tryz.prog (fun (g:Bool) (j:Bool)=> [.bool g,.bool j]) (fun (r:Bool)=> .bool r) e.2.2.2.1,lF1 Tryz.prog (fun (g:Bool)=> [.bool g]) (fun (r:Bool)=> .bool r) e.2.2.2.2]) ag372 Z R (.E lv372) R R R) R (.al 5 zz372 R (.st ag372.sz R (.nr ?_))))))))))))))))))))))))));refine .mv R (.bi R (.an R (.block (.sr (.fa yf9 R (.lb ybt R (.op (O.fne2 Tryz.underlying135 Z R R R) R (.an R ?_))))))));refine .cc hm R (fun hm=>?_) fun hm=>?_
  ·refine .sub (τ:=⟨[(8,.i (W (d.2.1+1))),(10,.q 5 0),(9,.q 4 0),(6,.h 3),(7,.b d.2.2.1),(5,.f rE372 w),(2,.q 2 0),(1,.h 0)],[(0,ROW rB 4 d.1),(5,.bx 372 [lI e.1,lV (.string e.2.1),lF2 Tryz.prog (fun (g:Bool) (j:Bool)=> [.bool g,.bool j]) (fun (r:Bool)=> .bool r) e.2.2.1,lF2 Tryz.prog (fun (g:Bool) (j:Bool)=> [.bool g,.bool j]) (fun (r:Bool)=> .bool r) e.2.2.2.1,lF1 Tryz.prog (fun (g:Bool)=> [.bool g]) (fun (r:Bool)=> .bool r) e.2.2.2.2]),(4,.bx 302 [lI m.1,lI m.2]),(3,ROW qI 3 s),(2,.bx 191 (lx191 p0))],6⟩) ?_ [] R;refine bS hm fun S t hm=>bS hm fun X ef31 hm=>bS hm fun P D hm=>?_;refine .drg 6 [(6,[]),(6,[oT]),(6,[]),(6,[]),(6,[]),(6,[oF,oF,oF,oF,oT]),(6,fA 3 (tT 3)),(6,fA 3 (tT 4)),(6,tT 8),(6,tT 9)] [_,_,_,_,_,_,_,_,_,_] ⟨[(7,.b P),(8,.i (W (d.2.1+1))),(6,.h 3),(5,.f rE372 w),(2,.q 2 0),(1,.h 0)],[(0,ROW rB 4 d.1),(3,ROW qI 3 s),(2,.bx 191 (lx191 p0))],6⟩ ⟨O.faP yf9 Z R R,O.ld ybt Z R (.B R) R R,O.mv Z R R,O.mv Z R R,O.faP y7n Z R R,O.ld nag3 Z R (.B R) R R,O.ir sl144 Z R R R t R,O.ld nag4 Z R (.R R t lv4) R R,O.fh2 (y:=d.2.2.1) (z:=S) R R R Z R ef31 D R R,O.as Z R R,trivial⟩ (by kernel_rfl) R ?_;exact .blkN (.blkN ((o _ (oi hm).symm).sub [(1,3)] R))
  ·refine .sr (.fa ydd R (.lb ybt R (.op (O.fne2 Tryz.underlying135 Z R R R) R (.an R ?_))));refine .cc hm R (fun hm=>?_) fun hm=>?_
   ·refine .sub (τ:=⟨[(8,.i (W (d.2.1+1))),(10,.q 5 0),(9,.q 4 0),(6,.h 3),(7,.b d.2.2.1),(5,.f rE372 w),(2,.q 2 0),(1,.h 0)],[(0,ROW rB 4 d.1),(5,.bx 372 [lI e.1,lV (.string e.2.1),lF2 Tryz.prog (fun (g:Bool) (j:Bool)=> [.bool g,.bool j]) (fun (r:Bool)=> .bool r) e.2.2.1,lF2 Tryz.prog (fun (g:Bool) (j:Bool)=> [.bool g,.bool j]) (fun (r:Bool)=> .bool r) e.2.2.2.1,lF1 Tryz.prog (fun (g:Bool)=> [.bool g]) (fun (r:Bool)=> .bool r) e.2.2.2.2]),(4,.bx 302 [lI m.1,lI m.2]),(3,ROW qI 3 s),(2,.bx 191 (lx191 p0))],6⟩) ?_ [] R;refine bS hm fun T u hm=>bS hm fun Y ef34 hm=>bS hm fun Q F hm=>bS hm fun a2 v hm=>bS hm fun U K hm=>?_;refine .drg 6 [(6,[]),(6,[]),(6,[oF,oT]),(6,[]),(6,[oF,oF,oF,oT]),(6,[]),(6,[]),(6,[]),(6,[oF,oF,oF,oF,oF,oF,oF,oT]),(6,fA 6 (tT 3)),(6,fA 6 (tT 4)),(6,fA 3 (tT 8)),(6,tT 12),(6,tT 13)] [_,_,_,_,_,_,_,_,_,_,_,_,_,_] ⟨[(8,.i (W (d.2.1+1))),(6,.h 3),(7,.b d.2.2.1),(5,.f rE372 w),(2,.q 2 0),(1,.h 0)],[(0,ROW rB 4 U),(3,ROW qI 3 s),(2,.bx 191 (lx191 p0))],6⟩ ⟨O.mv Z R R,O.faP y7n Z R R,O.ld nag3 Z R (.B R) R R,O.faP ydd Z R R,O.ld ybt Z R (.B R) R R,O.mv Z R R,O.mv Z R R,O.faP y7n Z R R,O.ld nag3 Z R (.B R) R R,O.ir sl144 Z R R R u R,O.ld nag4 Z R (.R R u lv4) R R,O.fh2 (y:=d.2.2.1) (z:=T) R R R Z R ef34 F R R,O.ir sl144 Z R R R v R,O.su (z:=Q) nag4.sz Z R R v K R R R lv4 R .b,trivial⟩ (by kernel_rfl) R ?_;exact .blkN (.blkN ((o _ (oi hm).symm).sub [(1,3)] R))
   ·refine .sr (.fa yf8 R (.lb ygg R (.mv R (bS hm fun a0 ef38 hm=>bS hm fun a1 G hm=> .op (O.fh1 (y:=d.2.2.1) R R R Z R ef38 G R R) R (.an R ?_)))));exact .cc hm R (fun hm=> .reg (.fa y7n R (.lb nag3 R (.sa R (.nil (.blkN (.blkN ((o _ (oi hm).symm).sub [(1,3)] R)))))))) fun hm=> .skip (.blkN (.blkN ((o _ (oi hm).symm).sub [(1,3)] R)))
def y5M(p0:Int×Int×Int×List Bool×(List (Int×Int)))(p1:List Bool):Option (List Bool×List Bool):=
 (slc3 p1 p0.1 (W (p0.1+p0.2.1)) (W (p0.1+p0.2.1))).bind fun a=>
 (slc3 p1 (W (p0.1+p0.2.1)) (p1.length:Int) (p1.length:Int)).bind fun b=>
 some (a,b)
theorem yaE{p0:Int×Int×Int×List Bool×(List (Int×Int))}{p1:List Bool}{r:(List Bool×List Bool)}(hm:y5M p0 p1=some r):
  F0 298 [.a (lx191 p0),.f rB p1] [] (.g [lF rB r.1,lF rB r.2]) []:=by
 unfold y5M at hm;refine Fw.mk2 Tryz.func298 Tryz.ntmps298 R (fun C=>?_) R;refine .sr (.bo 0 R (.al 1 zz197 R (.nr (.fa y9J R (.lb nag3 R (.fa y9K R (.lb nag3 R (.bi R (.an R (.seq ?_))))))))));refine .sub (τ:=⟨[(5,.i (W (p0.1+p0.2.1))),(4,.q 1 0),(2,.q 0 0),(1,.f rB p1)],[(1,.bx 197 [lN,lN]),(0,.bx 191 (lx191 p0))],2⟩) ?_ [] R;refine bS hm fun d b hm=>bS hm fun e c hm=>?_;refine .drg 2 [(2,[]),(2,[]),(2,[oF,oT]),(2,[]),(2,[]),(2,tT 5),(2,[]),(2,[]),(2,[]),(2,[oF,oF,oF,oF,oF,oF,oF,oF,oT]),(2,[]),(2,[oF,oF,oF,oF,oF,oF,oF,oF,oF,oF,oT]),(2,fA 6 (tT 6)),(2,tT 13),(2,tT 14)] [_,_,_,_,_,_,_,_,_,_,_,_,_,_,_] ⟨[(4,.q 1 0)],[(1,.bx 197 [lF rB d,lF rB e])],2⟩ ⟨O.mv Z R R,O.faP y9J Z R R,O.ld nag3 Z R (.B R) R R,O.mv Z R R,O.mv Z R R,O.s3 sl144 Z R R R R b R,O.mv Z R R,O.mv Z R R,O.mv Z R R,O.len sl144 Z R R,O.mv Z R R,O.len sl144 Z R R,O.s3 sl144 Z R R R R c R,O.bu (l:=[lF rB d,lF rB e]) pl197 R Z R R R,O.st ag197.sz Z R R R R R,trivial⟩ (by kernel_rfl) R ?_;refine .seqN (.ret ?_);cases hm;exact .rr [] Tryz.results298 (.cell R R ag197 R .nil) R I3 trivial
def y5n(p0:Int×Int×Int×List Bool×(List (Int×Int)))(p1:List Bool×List Bool)(p2:List Bool):Option ((List Bool×List Bool)×Int):=
 (y5L p0 p1 p2).bind fun a=>
 if(a.2 != 0) then
  some ((([]:List Bool),([]:List Bool)),a.2)
 else
  (y6c p0 a.1).bind fun b=>
  (y5M p0 b.2).bind fun c=>
  some (c,0)
theorem yaZ{p0:Int×Int×Int×List Bool×(List (Int×Int))}{p1:List Bool×List Bool}{p2:List Bool}{r:(List Bool×List Bool)×Int}(hm:y5n p0 p1 p2=some r):
    F0 272 [.a (lx191 p0),.a [lF rB p1.1,lF rB p1.2],.f rB p2] [] (.tp [.a [lF rB r.1.1,lF rB r.1.2],.i r.2]) []:=by
  unfold y5n at hm;refine Fw.mk2 Tryz.func272 Tryz.ntmps272 R (fun C=>?_) R;refine .sr (.bo 0 R (.bo 1 R (.al 2 zz197 R (.an R (.sr (.op (O.lg (l':=(lx191 p0)) ag191 Z R (.B R) R R R) R (.op (O.lg (l':=[lF rB p1.1,lF rB p1.2]) ag197 Z R (.B R) R R R) R (.mv R (bS hm fun g b hm=> .op (O.ca (r':= .tp [.h 3,.i g.2]) [3] [(0,ROW rB 4 g.1)] (some 4) (yaD b) cf296 R R Z R R R R ⟨⟨_,R,I4⟩,trivial⟩ I3 R) R (.mv R (.ex R (.ex R (.sa R (.an R (.seq (.sr (.mv R (.bi R (.ns ?_)))))))))))))))))));refine .cc hm R (fun hm=>?_) fun hm=>?_
  ·refine .sr (.op (O.bu (l:=[lN,lN]) pl197 R Z R R R) R (.mv R (.st ag197.sz R (.an R (.ret (.seqR (.cno 2 R (.c (.nf (r:=rB)) (.c (.nf (r:=rB)) .n)) R ?_)))))));cases hm;exact .rr [] Tryz.results272 (.cell R R ag197 R (.tmp R .nil)) R I3 trivial
  ·refine .skip (.seqN (.sr (.op (O.lg (l':=(lx191 p0)) ag191 Z R (.B R) R R R) R (.mv R (bS hm fun j d hm=> .op (O.ca (r':= .h 4) [3,4] [(0,ROW rB 4 j.2),(1,ROW qI 3 j.1)] (some 5) (yaY d) cf297 R R Z R R R R ⟨⟨_,R,I4⟩,⟨_,R,I4⟩,trivial⟩ I3 R) R (.nr (.op (O.lg (l':=(lx191 p0)) ag191 Z R (.B R) R R R) R (.mv R (.fz 3 [25] [] R R fR R R (bS hm fun k e hm=> .c0 (yaE e) cf298 R (.st ag197.sz R (.an R (.ret ?_)))))))))))));cases hm;exact .rr [] Tryz.results272 (.cell R R ag197 R (.tmp R .nil)) R I3 trivial
def y6i(p0:CodT)(p1:List Bool×List Bool)(p2:List Int):Option ((List Bool×List Bool)×Int):=
 (y6r p0 p2).bind fun a=>
 if(a.2 != 0) then
  some ((([]:List Bool),([]:List Bool)),a.2)
 else
  (y5n p0.1 p1 a.1).bind fun b=>
  some b
theorem ybV{p0:CodT}{p1:List Bool×List Bool}{p2:List Int}{r:(List Bool×List Bool)×Int}(hm:y6i p0 p1 p2=some r):
    F0 244 [.a (lx193 p0),.a [lF rB p1.1,lF rB p1.2],.f qI p2] [] (.tp [.a [lF rB r.1.1,lF rB r.1.2],.i r.2]) []:=by
  unfold y6i at hm;refine Fw.mk2 Tryz.func244 Tryz.ntmps244 R (fun C=>?_) R;refine .sr (.bo 0 R (.bo 1 R (.al 2 zz197 R (.an R (.sr (.op (O.lg (l':=(lx193 p0)) ag193 Z R (.B R) R R R) R (.mv R (bS hm fun e b hm=> .op (O.ca (r':= .tp [.h 3,.i e.2]) [3] [(0,ROW rB 4 e.1)] (some 4) (ybh b) cf271 R R Z R R R R ⟨⟨_,R,I4⟩,trivial⟩ I3 R) R (.mv R (.ex R (.ex R (.sa R (.an R (.seq (.sr (.mv R (.bi R (.ns ?_))))))))))))))))));refine .cc hm R (fun hm=>?_) fun hm=>?_
  ·refine .sr (.op (O.bu (l:=[lN,lN]) pl197 R Z R R R) R (.mv R (.st ag197.sz R (.an R (.ret (.seqR (.cno 2 R (.c (.nf (r:=rB)) (.c (.nf (r:=rB)) .n)) R ?_)))))));cases hm;exact .rr [] Tryz.results244 (.cell R R ag197 R (.tmp R .nil)) R I3 trivial
  ·refine .skip (.seqN (.sr (.fa ybG R (.op (O.lg (l':=(lx191 p0.1)) ag191 Z R (.B R) R R R) R (.op (O.lg (l':=[lF rB p1.1,lF rB p1.2]) ag197 Z R (.B R) R R R) R (.mv R (.fz 3 [23] [] R R fR R R (bS hm fun g d hm=> .c0 (yaZ d) cf272 R (.ex R (.ex R (.st ag197.sz R (.an R (.ret ?_)))))))))))));cases hm;exact .rr [] Tryz.results244 (.cell R R ag197 R (.tmp R .nil)) R I3 trivial
def y2Q(p0:BenT)(c:(List Bool×List Bool)×Int)(a:List Bool)(b:List Bool):Option (Int×BenT):=
 some (c.2,p0.1,p0.2.1,p0.2.2.1,a,b)
def y1D(a:Int×List Int)(b:List Int):Option ((Int×List Int)⊕(List Int)):=
 some (.inl (W (a.1+1),b))
def y1E(p0:BenT)(p1:List Int)(a:Int×List Int):Option ((Int×List Int)⊕(List Int)):=
 if decide (a.1<(p1.length:Int)) then
  (idx p1 a.1).bind fun b=>
  (yf p0.1.2.1.1 b).bind fun c=>
  if c then
   (app a.2 ([b]:List Int)).bind fun d=>
   y1D a d
  else
   y1D a a.2
 else
  some (.inr a.2)
def yV(p0:BenT)(p1:List Int):Option (Int×BenT):=
 (iter (y1E p0 p1) (0,([]:List Int))).bind fun b=>
 (y5F b).bind fun c=>
 (y6i p0.2.1 p0.2.2.2 c).bind fun a=>
 if(a.2==0) then
  y2Q p0 a a.1.1 a.1.2
 else
  y2Q p0 a p0.2.2.2.1 p0.2.2.2.2
theorem y6d{p0:BenT}{p1:List Int}{r:Int×BenT}(hm:yV p0 p1=some r):
  Fw Tryz.prog 221 ⟨1,[0]⟩ [.o (lP 0 0),.f qI p1] [.bx 199 (lx199 p0)] (.i r.1) [.bx 199 (lx199 r.2)]:=by
 unfold yV at hm;refine Fw.mk2 Tryz.func221 Tryz.ntmps221 R (fun C=>?_) R;refine .sr (.an R (.sr (.an R (.seq (.sr (.mv R (.ln sl32 R (.mv R (.ns (.block (bS hm fun p u hm=>?_)))))))))));refine .cut1 (z:= .exit 0) p (fun (p:List Int)=>⟨[(5,.h 1),(0,.q 0 0)],[(0,.bx 199 (lx199 p0)),(1,ROW qI 3 p)],2⟩) ?_ fun G=>?_
 ·skip
  refine .blkE (.seqN (.sr (.mv R (bS hm fun t v hm=> .op (O.ca (r':= .tp []) [1] [(0,ROW qI 3 t)] none (ybk v) cf206 R R Z R R R R ⟨⟨_,R,I4⟩,trivial⟩ I3 R) R (.ns (.seq (.fz 1 [29,5] [] R R fR R R ?_)))))));refine .sub (τ:=⟨[(5,.f qI t),(0,.q 0 0)],[(0,.bx 199 (lx199 p0))],2⟩) ?_ [] R;refine bS hm fun a w hm=>?_;refine .drz 3 [(13,2)] [(2,[],[],[]),(2,[oT],[],[]),(2,[oT,oT],[],[]),(2,[oT,oT,oT],[],[]),(2,[],[],[]),(2,[oF,oF,oF,oF,oT],[],[]),(2,[oF,oF,oF,oF,oT,oT],[],[]),(2,[oF,oF,oF,oF,oT,oT,oT],[],[]),(2,[],[],[]),(2,[oT,oT,oT,oT,oT,oT,oT,oT,oT],[],[]),(2,[oT,oT,oT,oT,oT,oT,oT,oT,oT,oT],[],[]),(2,[oT,oT,oT,oT,oT,oT,oT,oT,oT,oT,oT],[],[]),(2,[oT,oT,oT,oT,oT,oT,oT,oT,oT,oT,oT],[],[]),(2,[],[],[]),(3,[oT,oT,oT,oT,oT,oT,oT,oT,oT,oT,oT,oT,oF,oT],[],[]),(3,[oT,oT,oT,oT,oT,oT,oT,oT,oT,oT,oT,oT,oT,oT,oT],[],[(13,2)])] [_,_,_,_,_,_,_,_,_,_,_,_,_,_,_,_] ⟨[(9,.i a.2),(8,.q 2 0),(0,.q 0 0)],[(0,.bx 199 (lx199 p0)),(2,.bx 197 [lF rB a.1.1,lF rB a.1.2])],3⟩ ⟨O.mv Z R R,O.nc .B Z R R,O.faP ybJ Z R R,O.lg (l':=(lx193 p0.2.1)) ag193 Z R (.B R) R R R,O.mv Z R R,O.nc .B Z R R,O.faP yax Z R R,O.lg (l':=[lF rB p0.2.2.2.1,lF rB p0.2.2.2.2]) ag197 Z R (.B R) R R R,O.mv Z R R,O.ca0 (ybV w) cf244 R R Z R R R,O.mv Z R R,O.ex Z R R R,O.ex Z R R R,O.al 2 R zz197 R Z R,O.st ag197.sz Z R R R R R,O.as Z R R,trivial⟩ (by kernel_rfl) R ?_;refine .seqN ?_;refine .join2 (fun (d:List Bool) (e:List Bool)=>y2Q p0 a d e=some r) (fun d e=>⟨[(9,.i a.2)],[(0,.bx 199 [lF qI p0.1.1.1,lI p0.1.1.2.1,lF qI p0.1.1.2.2.1,lF qT p0.1.1.2.2.2,lF qI p0.1.2.1.1,lI p0.1.2.1.2.1,lF qI p0.1.2.1.2.2.1,lF qT p0.1.2.1.2.2.2,lF qI p0.1.2.2,lI p0.2.1.1.1,lI p0.2.1.1.2.1,lI p0.2.1.1.2.2.1,lF rB p0.2.1.1.2.2.2.1,lF rE302 p0.2.1.1.2.2.2.2,lF qI p0.2.1.2.1,lF qI p0.2.1.2.2.1,lI p0.2.1.2.2.2,lI p0.2.2.1,lF rB d,lF rB e])],1⟩) ?_ ?_
  ·intro d e hm;unfold y2Q at hm;refine .sr (.mv R (.an R (.ret ?_)));cases hm;exact .rr [0] Tryz.results221 (.tmp R .nil) R I3 ⟨⟨_,R,I4⟩,trivial⟩
  ·intro j;refine .sr (.mv R (.bi R (.ns ?_)));exact .cc hm R (fun hm=> .reg (.mv R (.op (O.lg (l':=[lF rB a.1.1,lF rB a.1.2]) ag197 Z R (.B R) R R R) R (.op (O.nc .B Z R R) R (.fa yax R (.st ag197.sz R (.nil ((j _ _ hm).sub [] R)))))))) fun hm=> .skip ((j _ _ hm).sub [] R)
 refine .nlg qI 3 5 0 R R (.iter (fun (b:Int×List Int)=>⟨[(12,.i b.1),(11,.i (p1.length:Int)),(10,.f qI p1),(5,.h 1),(0,.q 0 0)],[(0,.bx 199 (lx199 p0)),(1,ROW qI 3 b.2)],2⟩) u [] R ?_);intro b s hm F E;unfold y1E at hm;refine .sr (.bi R (.ns (.seq ?_)));refine .cc hm R (fun hm=>?_) fun hm=> .exit (.seqX (.seqX ((G _ (E _ (oi hm).symm)).sub [] R)));refine .skip (.seqN ?_);refine .join1 (fun (g:List Int)=>y1D b g=some s) (fun g=>⟨[(5,.h 1),(12,.i b.1),(11,.i (p1.length:Int)),(10,.f qI p1),(0,.q 0 0)],[(0,.bx 199 (lx199 p0)),(1,ROW qI 3 g)],2⟩) ?_ ?_
 ·intro g hm;unfold y1D at hm;exact .reg (.bi R (.mv R (.nil ((F _ (oi hm).symm).sub [] R))))
 ·intro m;refine .block (.sr (bS hm fun H y hm=> .ix sl32 y R (.le nag3 lv3 R (.an R (.sr (.mv R (.op (O.nc .B Z R R) R (.fa y7M R (.fa y4K R (.fa yH R (.lb nag32 R (.mv R (bS hm fun I x hm=> .c0 (yk x) cf104 R (.ns ?_))))))))))))));exact .cc hm R (fun hm=> .reg (.mv R (.mv R (.op (O.bsF (r:=qI) (zs:=([H]:List Int)) bs32 R R Z R R R (.c .k .n) R R R) R (bS hm fun J D hm=> .op (O.ap 2 Tryz.underlying32 el3 R R Z R R (.fr R) D R) R (.sa R (.nil (.blkN ((m _ hm).sub [(1,2)] R))))))))) fun hm=> .skip (.blkN ((m _ hm).sub [] R))
def y5A(p0:CodT)(p1:List Bool×List Bool):Option Int:=
 if(((p1.1.length:Int) != p0.1.2.1)||((p1.2.length:Int) != p0.1.2.2.1)) then
  some 4
 else
  some 0
theorem y7O{p0:CodT}{p1:List Bool×List Bool}{r:Int}(hm:y5A p0 p1=some r):
    F0 245 [.a (lx193 p0),.a [lF rB p1.1,lF rB p1.2]] [] (.i r) []:=by
  unfold y5A at hm;refine Fw.mk2 Tryz.func245 Tryz.ntmps245 R (fun C=>?_) R;refine .sr (.bo 0 R (.bo 1 R (.an R (.seq (.sr (.fa yaw R (.lb y3l R (.ln sl144 R (.fa ybG R (.fa y9K R (.lb nag3 R (.bi R (.mv R ?_)))))))))))));refine .cut 8 (fun (c:Bool)=>(((p1.1.length:Int) != p0.1.2.1)||((p1.2.length:Int) != p0.1.2.2.1))=c) (fun c=>⟨[(20,.b c)],[],2⟩) ?_ ?_
  · rintro _ rfl;refine .ns ?_;refine .cc hm R (fun hm=>?_) fun hm=>?_
    ·refine .sr (.an R (.ret (.seqR ?_)));cases hm;exact .rr [] Tryz.results245 (.tmp R .nil) R I3 trivial
    ·refine .skip (.seqN (.sr (.an R (.ret ?_))));cases hm;exact .rr [] Tryz.results245 (.tmp R .nil) R I3 trivial
  · intro e;rcases Bool.eq_false_or_eq_true ((p1.1.length:Int) != p0.1.2.1) with hc|hc
    · refine .know (d:=12) R hc ?_;exact .sk R (.sk R (.sk R (.sk R (.sk R (.sk R (.sk R (.op (O.pkT Z R R R R) R ((e true (orT hc).symm).sub [] R))))))))
    · refine .know (d:=12) R hc ?_;exact .op (O.faP ybI (Gu.mk R R) R R) R (.op (O.ld y3l (Gu.mk R R) R (.B R) R R) R (.op (O.len sl144 (Gu.mk R R) R R) R (.op (O.faP ybG (Gu.mk R R) R R) R (.op (O.faP yav (Gu.mk R R) R R) R (.op (O.ld nag3 (Gu.mk R R) R (.B R) R R) R (.op (O.bi (Gu.mk R R) R R R R) R (.op (O.pkF Z R R R R) R ((e ((p1.2.length:Int) != p0.1.2.2.1) (orF hc).symm).sub [] R))))))))
def y3N(a:Int×List Int)(b:List Int):Option ((Int×List Int)⊕(List Int)):=
 some (.inl (W (a.1+1),b))
def y3O(p0:CodT)(p1:List Bool×List Bool)(a:Int×List Int):Option ((Int×List Int)⊕(List Int)):=
 if decide (a.1<(p0.2.2.1.length:Int)) then
  (idx p0.2.2.1 a.1).bind fun b=>
  (idx p1.1 a.1).bind fun c=>
  if c then
   (app a.2 ([b]:List Int)).bind fun d=>
   y3N a d
  else
   y3N a a.2
 else
  some (.inr a.2)
def y3Z(p0:CodT)(p1:List Bool×List Bool):Option (List Int×Int):=
 (y5A p0 p1).bind fun b=>
 if(b != 0) then
  some (([]:List Int),b)
 else
  (iter (y3O p0 p1) (0,([]:List Int))).bind fun a=>
  some (a,0)
theorem yb0{p0:CodT}{p1:List Bool×List Bool}{r:List Int×Int}(hm:y3Z p0 p1=some r):
    F0 222 [.a (lx193 p0),.a [lF rB p1.1,lF rB p1.2]] [] (.tp [.h 0,.i r.2]) [ROW qI 3 r.1]:=by
  unfold y3Z at hm;refine Fw.mk2 Tryz.func222 Tryz.ntmps222 R (fun C=>?_) R;refine .sr (.bo 0 R (.bo 1 R (.sa R (.an R (.seq (.sr (.op (O.lg (l':=(lx193 p0)) ag193 Z R (.B R) R R R) R (.op (O.lg (l':=[lF rB p1.1,lF rB p1.2]) ag197 Z R (.B R) R R R) R (bS hm fun E w hm=> .c0 (y7O w) cf245 R (.an R (.sr (.mv R (.bi R (.ns ?_))))))))))))));refine .cc hm R (fun hm=>?_) fun hm=>?_
  ·refine .sr (.mv R (.sa R (.an R (.ret (.seqR (.nlg qI 3 4 0 R R ?_))))));cases hm;exact .rr [2] Tryz.results222 (.tmp R (.tmp R .nil)) R I3 ⟨⟨_,R,I4⟩,trivial⟩
  ·refine .skip (.seqN (.sr (.an R (.seq (.sr (.fa yfa R (.lb nag32 R (.ln sl32 R (.mv R (.ns (.block (bS hm fun g m hm=>?_))))))))))));refine .cut1 (z:= .exit 0) g (fun (g:List Int)=>⟨[(7,.h 0)],[(0,ROW qI 3 g)],1⟩) ?_ fun v=>?_
   · skip
     refine .blkE (.seqN (.sr (.mv R (.sa R (.an R (.ret ?_))))));cases hm;exact .rr [0] Tryz.results222 (.tmp R (.tmp R .nil)) R I3 ⟨⟨_,R,I4⟩,trivial⟩
   refine .nlg qI 3 7 0 R R (.iter (fun (b:Int×List Int)=>⟨[(19,.i b.1),(18,.i (p0.2.2.1.length:Int)),(17,.f qI p0.2.2.1),(7,.h 0),(3,.q 1 0)],[(0,ROW qI 3 b.2),(1,.bx 197 [lF rB p1.1,lF rB p1.2])],2⟩) m [(0,2)] R ?_);intro b j hm u t;unfold y3O at hm;refine .sr (.bi R (.ns (.seq ?_)));refine .cc hm R (fun hm=>?_) fun hm=> .exit (.seqX (.seqX ((v _ (t _ (oi hm).symm)).sub [] R)));refine .skip (.seqN ?_);refine .join1 (fun (d:List Int)=>y3N b d=some j) (fun d=>⟨[(7,.h 0),(19,.i b.1),(18,.i (p0.2.2.1.length:Int)),(17,.f qI p0.2.2.1),(3,.q 1 0)],[(0,ROW qI 3 d),(1,.bx 197 [lF rB p1.1,lF rB p1.2])],2⟩) ?_ ?_
   · intro d hm;unfold y3N at hm;exact .reg (.bi R (.mv R (.nil ((u _ (oi hm).symm).sub [] R))))
   · intro e;refine .block (.sr (.mv R (bS hm fun x o hm=> .ix sl32 o R (.le nag3 lv3 R (.sa R (.an R (.sr (.fa yaw R (.lb y3l R (.mv R (bS hm fun y p hm=> .ix sl144 p R (.le nag4 lv4 R (.ns ?_)))))))))))));exact .cc hm R (fun hm=> .reg (.mv R (.mv R (.op (O.bsF (r:=qI) (zs:=([x]:List Int)) bs32 R R Z R R R (.c .k .n) R R R) R (bS hm fun D s hm=> .op (O.ap 2 Tryz.underlying32 el3 R R Z R R (.fr R) s R) R (.sa R (.nil (.blkN ((e _ hm).sub [(0,2)] R))))))))) fun hm=> .skip (.blkN ((e _ hm).sub [] R))
def y4N(p0:BenT)(p1:Int)(p2:List Int):Option Bool:=
 (y1N p0 p1).bind fun c=>
 (if decide (c≥0) then
  (yf p2 p1).bind fun d=>
  (if d then
   some true
  else
   (yf p0.1.2.1.1 p1).bind fun e=>
   some (!e)).bind fun b=>
  some b
 else
  some false).bind fun a=>
 some a
theorem y9V{p0:BenT}{p2:List Int}(hm:y4N p0 p1 p2=some r):
  F0 224 [.o (lQ 199 (lx199 p0) 0),.i p1,.f qI p2] [] (.b r) []:=by
 unfold y4N at hm;refine Fw.mk2 Tryz.func224 Tryz.ntmps224 R (fun C=>?_) R;refine .sr (.an R (.sr (.mv R (.mv R (bS hm fun p j hm=> .c0 (y6m j) cf219 R (.bi R (.mv R (bS hm fun m eb2 hm=>?_))))))));refine .cut 15 (fun (a:Bool)=>m=a) (fun a=>⟨[(26,.b a)],[],0⟩) ?_ ?_
 ·rintro _ rfl;refine .an R (.ret ?_);cases hm;exact .rr [] Tryz.results224 (.tmp R .nil) R I3 trivial
 ·intro e;rcases ifS eb2 with ⟨hc,hm⟩|⟨hc,hm⟩
  ·refine .know (d:=11) R hc ?_;refine .op (O.mv (Gu.mk R R) R R) R (.op (O.mv (Gu.mk R R) R R) R (bS hm fun q k hm=> .op (O.ca0 (yk k) cf104 R R (Gu.mk R R) R R R) R (.op (O.mv (Gu.mk R R) R R) R (bS hm fun h eb6 hm=>?_))));refine .cut 10 (fun (c:Bool)=>h=c) (fun c=>⟨[(25,.b c),(11,.b true)],[],0⟩) ?_ ?_
   ·rintro _ rfl;exact .op (O.pkT Z R R R R) R ((e h (oi hm).symm).sub [] R)
   ·intro g;rcases ifS eb6 with ⟨hc,hm⟩|⟨hc,hm⟩
    ·refine .know (d:=15) R hc ?_;exact .sk R (.sk R (.sk R (.sk R (.sk R (.sk R (.sk R (.sk R (.sk R (.op (O.pkT (Gu.mk R R) R R R R) R ((g true (oi hm).symm).sub [] R))))))))))
    ·refine .know (d:=15) R hc ?_;exact .op (O.mv (Gu.mk R R) R R) R (.op (O.nc .Q (Gu.mk R R) R R) R (.op (O.faQ y7M (Gu.mk R R) R R) R (.op (O.faQ y4K (Gu.mk R R) R R) R (.op (O.faQ yH (Gu.mk R R) R R) R (.op (O.ld nag32 (Gu.mk R R) R .Q R R) R (.op (O.mv (Gu.mk R R) R R) R (bS hm fun n l hm=> .op (O.ca0 (yk l) cf104 R R (Gu.mk R R) R R R) R (.op (O.not (Gu.mk R R) R R) R (.op (O.pkF (Gu.mk R R) R R R R) R ((g (!n) (oi hm).symm).sub [] R))))))))))
  ·refine .know (d:=11) R hc ?_;exact .sk R (.sk R (.sk R (.sk R (.op (O.skipU R R R) R (.op (O.skipU R R R) R (.op (O.skipU R R R) R (.op (O.skipU R R R) R (.op (O.skipU R R R) R (.op (O.skipU R R R) R (.op (O.skipU R R R) R (.op (O.skipU R R R) R (.op (O.skipU R R R) R (.sk R (.op (O.pkF Z R R R R) R ((e false (oi hm).symm).sub [] R)))))))))))))))
def yI(a:Option BenT)(b:StpT)(p0:Int):Option Bool:=
 a.bind fun d=>
 (y4N d p0 b.2.2.1).bind fun c=>
 some c
theorem y8Q{e:Option BenT}{f:StpT}{p0:Int}(hm:yI e f p0=some r):
  F0 223 [.i p0,.o (lQ 276 [lK rE199 199 e] 0),.o (lQ 100 (lx100 f) 0)] [] (.b r) []:=by
 unfold yI at hm;refine Fw.mk2 Tryz.func223 Tryz.ntmps223 R (fun C=>?_) R;refine .sr (.an R (.sr (.lq y5s R (.mv R (.fq y8B R (.lq nag32 R (bS hm fun h d hm=> .cnt 5 R (.c (.pd d lv199) .n) R (bS hm fun g a hm=> .c0 (y9V a) cf224 R (.an R (.ret ?_))))))))));cases hm;exact .rr [] Tryz.results223 (.tmp R .nil) R I3 trivial
def y1o(a:BenT×Int×Bool×List Int)(d:BenT)(b:Bool)(c:List Int):Option ((BenT×Int×Bool×List Int)⊕(BenT×Bool×List Int)):=
 some (.inl (d,W (a.2.1+1),b,c))
def y3p(p1:List Int)(p2:Int)(a:BenT×Int×Bool×List Int):Option ((BenT×Int×Bool×List Int)⊕(BenT×Bool×List Int)):=
 if decide (a.2.1<(p1.length:Int)) then
  (idx p1 a.2.1).bind fun c=>
  (y2u a.1 c).bind fun b=>
  if b.1 then
   (app a.2.2.2 ([c]:List Int)).bind fun f=>
   (if a.2.2.1 then
    (y1N b.2 p2).bind fun e=>
    some (decide (e≥0))
   else
    some false).bind fun d=>
   y1o a b.2 d f
  else
   y1o a b.2 a.2.2.1 a.2.2.2
 else
  some (.inr (a.1,a.2.2))
def y4s(p0:BenT)(p1:List Int)(p2:Int):Option (List Int×Bool×BenT):=
 (iter (y3p p1 p2) (p0,0,(p2 != (-1)),([]:List Int))).bind fun a=>
 some (a.2.2,a.2.1,a.1)
theorem y9z{p0:BenT}{p1:List Int}{p2:Int}{r:List Int×Bool×BenT}(hm:y4s p0 p1 p2=some r):
  Fw Tryz.prog 225 ⟨1,[0]⟩ [.o (lP 0 0),.f qI p1,.i p2] [.bx 199 (lx199 p0)] (.tp [.h 1,.b r.2.1]) [.bx 199 (lx199 r.2.2),ROW qI 3 r.1]:=by
 unfold y4s at hm;refine Fw.mk2 Tryz.func225 Tryz.ntmps225 R (fun C=>?_) R;refine .sr (.sa R (.an R (.sr (.mv R (.bi R (.an R (.seq (.sr (.mv R (.ln sl32 R (.mv R (.ns (.block (bS hm fun e v hm=>?_))))))))))))));refine .cut1 (z:= .exit 0) e (fun (e:BenT×Bool×List Int)=>⟨[(7,.b e.2.1),(6,.h 1)],[(0,.bx 199 (lx199 e.1)),(1,ROW qI 3 e.2.2)],2⟩) ?_ fun F=>?_
 ·skip
  refine .blkE (.seqN (.sr (.mv R (.mv R (.sa R (.an R (.ret ?_)))))));cases hm;exact .rr [0,1] Tryz.results225 (.tmp R (.tmp R .nil)) R I3 ⟨⟨_,R,I4⟩,⟨_,R,I4⟩,trivial⟩
 refine .nlg qI 3 6 0 R R (.iter (fun (a:BenT×Int×Bool×List Int)=>⟨[(14,.i a.2.1),(13,.i (p1.length:Int)),(12,.f qI p1),(7,.b a.2.2.1),(6,.h 1),(0,.q 0 0),(2,.i p2)],[(0,.bx 199 (lx199 a.1)),(1,ROW qI 3 a.2.2.2)],2⟩) v [] R ?_);intro a t hm E D;unfold y3p at hm;refine .sr (.bi R (.ns (.seq ?_)));refine .cc hm R (fun hm=>?_) fun hm=> .exit (.seqX (.seqX ((F _ (D _ (oi hm).symm)).sub [] R)));refine .skip (.seqN ?_);refine .join3 (fun (l:BenT) (g:Bool) (j:List Int)=>y1o a l g j=some t) (fun l g j=>⟨[(7,.b g),(6,.h 1),(14,.i a.2.1),(13,.i (p1.length:Int)),(12,.f qI p1),(0,.q 0 0),(2,.i p2)],[(0,.bx 199 (lx199 l)),(1,ROW qI 3 j)],2⟩) ?_ ?_
 ·intro l g j hm;unfold y1o at hm;exact .reg (.bi R (.mv R (.nil ((E _ (oi hm).symm).sub [] R))))
 ·intro m;refine .block (.sr (bS hm fun I y hm=> .ix sl32 y R (.le nag3 lv3 R (.an R (.sr (.mv R (.mv R (bS hm fun p w hm=> .op (O.ca (r':= .b p.1) [0] [(0,.bx 199 (lx199 p.2))] none (y6z w) cf186 R R Z R R R R ⟨⟨_,R,I4⟩,trivial⟩ I3 R) R (.ns ?_)))))))));refine .cc hm R (fun hm=>?_) fun hm=> .skip (.blkN ((m _ _ _ hm).sub [] R));refine .sr (.mv R (.mv R (.op (O.bsF (r:=qI) (zs:=([I]:List Int)) bs32 R R Z R R R (.c .k .n) R R R) R (bS hm fun J B hm=> .op (O.ap 2 Tryz.underlying32 el3 R R Z R R (.fr R) B R) R (.an R (.reg (.mv R (.mv R (bS hm fun G eb32 hm=>?_)))))))));refine .cut 5 (fun (s:Bool)=>G=s) (fun s=>⟨[(31,.b s),(6,.h 2),(14,.i a.2.1),(13,.i (p1.length:Int)),(12,.f qI p1),(0,.q 0 0),(2,.i p2)],[(0,.bx 199 (lx199 p.2)),(2,ROW qI 3 J)],3⟩) ?_ ?_
  ·rintro _ rfl;exact .sa R (.nil (.blkN ((m _ _ _ hm).sub [(1,2)] R)))
  ·intro u;rcases ifS eb32 with ⟨hc,hm⟩|⟨hc,hm⟩
   ·refine .know (d:=26) R hc ?_;exact .op (O.mv (Gu.mk R R) R R) R (.op (O.mv (Gu.mk R R) R R) R (bS hm fun H x hm=> .op (O.caZ (y6m x) cf219 R R (Gu.mk R R) R ⟨⟨R,(.q R LnL.rf),trivial⟩,⟨R,LnL.rf⟩,trivial⟩ (fun _ _ _ _ _ h=>h) R) R (.op (O.bi (Gu.mk R R) R R R R) R (.op (O.pkT Z R R R R) R ((u (decide (H≥0)) (oi hm).symm).sub [] R)))))
   ·refine .know (d:=26) R hc ?_;exact .sk R (.sk R (.sk R (.sk R (.op (O.pkF Z R R R R) R ((u false (oi hm).symm).sub [] R)))))
def y4I(a:Int×Int×Int)(b:Int)(c:Int):Option ((Int×Int×Int)⊕(Int×Int)):=
 some (.inl (W (a.1+1),b,c))
def y4J(b:List Bool)(a:Int×Int×Int):Option ((Int×Int×Int)⊕(Int×Int)):=
 if decide (a.1<(b.length:Int)) then
  (idx b a.1).bind fun c=>
  if c then
   y4I a (W (a.2.1+1)) a.1
  else
   y4I a a.2.1 a.2.2
 else
  some (.inr a.2)
def y6B(p0:CodT)(p1:List Bool×List Bool):Option (Int×Int):=
 (y5A p0 p1).bind fun b=>
 if(b != 0) then
  some (0,b)
 else
  (slc p1.2 0 p0.2.2.2).bind fun c=>
  (iter (y4J c) (0,0,0)).bind fun a=>
  if(a.1 != 1) then
   some (0,22)
  else
   some (a.2,0)
theorem ybx{p0:CodT}{p1:List Bool×List Bool}{r:Int×Int}(hm:y6B p0 p1=some r):
    F0 226 [.a (lx193 p0),.a [lF rB p1.1,lF rB p1.2]] [] (.tp [.i r.1,.i r.2]) []:=by
  unfold y6B at hm;refine Fw.mk2 Tryz.func226 Tryz.ntmps226 R (fun C=>?_) R;refine .sr (.bo 0 R (.bo 1 R (.sa R (.an R (.seq (.sr (.op (O.lg (l':=(lx193 p0)) ag193 Z R (.B R) R R R) R (.op (O.lg (l':=[lF rB p1.1,lF rB p1.2]) ag197 Z R (.B R) R R R) R (bS hm fun u q hm=> .c0 (y7O q) cf245 R (.an R (.sr (.mv R (.bi R (.ns ?_))))))))))))));refine .cc hm R (fun hm=>?_) fun hm=>?_
  ·refine .sr (.mv R (.sa R (.an R (.ret (.seqR ?_)))));cases hm;exact .rr [] Tryz.results226 (.tmp R (.tmp R .nil)) R I3 trivial
  ·refine .skip (.seqN (.sr (.an R (.seq (.sr (.fa ybI R (.lb y3l R (.fa yih R (.lb nag3 R (bS hm fun j s hm=> .op (O.sh sl144 Z R R s R) R (.ln sl144 R (.mv R (.ns (.block (bS hm fun e k hm=>?_)))))))))))))));refine .cut1 (z:= .exit 0) e (fun (e:Int×Int)=>⟨[(7,.i e.1),(4,.i e.2)],[],0⟩) ?_ fun p=>?_
   · skip
     refine .blkE (.seqN (.seq (.sr (.mv R (.bi R (.ns ?_))))));refine .cc hm R (fun hm=>?_) fun hm=>?_
     ·refine .sr (.sa R (.an R (.ret (.seqR ?_))));cases hm;exact .rr [] Tryz.results226 (.tmp R (.tmp R .nil)) R I3 trivial
     ·refine .skip (.seqN (.sr (.mv R (.sa R (.an R (.ret ?_))))));cases hm;exact .rr [] Tryz.results226 (.tmp R (.tmp R .nil)) R I3 trivial
   refine .iter (fun (b:Int×Int×Int)=>⟨[(22,.i b.1),(21,.i (j.length:Int)),(20,.f rB j),(7,.i b.2.1),(4,.i b.2.2)],[],0⟩) k [] R ?_;intro b h hm o n;unfold y4J at hm;refine .sr (.bi R (.ns (.seq ?_)));refine .cc hm R (fun hm=>?_) fun hm=> .exit (.seqX (.seqX ((p _ (n _ (oi hm).symm)).sub [] R)));refine .skip (.seqN ?_);refine .join2 (fun (c:Int) (d:Int)=>y4I b c d=some h) (fun c d=>⟨[(7,.i c),(4,.i d),(22,.i b.1),(21,.i (j.length:Int)),(20,.f rB j)],[],0⟩) ?_ ?_
   · intro c d hm;unfold y4I at hm;exact .reg (.bi R (.mv R (.nil ((o _ (oi hm).symm).sub [] R))))
   · intro g;refine .block (.sr (.mv R (bS hm fun t m hm=> .ix sl144 m R (.le nag4 lv4 R (.sa R (.an R (.sr (.mv R (.ns ?_)))))))));exact .cc hm R (fun hm=> .reg (.mv R (.mv R (.bi R (.sa R (.sa R (.nil (.blkN ((g _ _ hm).sub [] R))))))))) fun hm=> .skip (.blkN ((g _ _ hm).sub [] R))
def y6e(p0:CodT)(p1:List Bool×List Bool):Option (Bool×Int):=
 (y5A p0 p1).bind fun a=>
 if(a != 0) then
  some (false,a)
 else
  (idx p1.1 (p0.2.2.1.length:Int)).bind fun b=>
  some (b,0)
theorem yb1{p0:CodT}{p1:List Bool×List Bool}{r:Bool×Int}(hm:y6e p0 p1=some r):
    F0 227 [.a (lx193 p0),.a [lF rB p1.1,lF rB p1.2]] [] (.tp [.b r.1,.i r.2]) []:=by
  unfold y6e at hm;refine Fw.mk2 Tryz.func227 Tryz.ntmps227 R (fun C=>?_) R;refine .sr (.bo 0 R (.bo 1 R (.sa R (.an R (.seq (.sr (.op (O.lg (l':=(lx193 p0)) ag193 Z R (.B R) R R R) R (.op (O.lg (l':=[lF rB p1.1,lF rB p1.2]) ag197 Z R (.B R) R R R) R (bS hm fun e c hm=> .c0 (y7O c) cf245 R (.an R (.sr (.mv R (.bi R (.ns ?_))))))))))))));refine .cc hm R (fun hm=>?_) fun hm=>?_
  ·refine .sr (.mv R (.sa R (.an R (.ret (.seqR ?_)))));cases hm;exact .rr [] Tryz.results227 (.tmp R (.tmp R .nil)) R I3 trivial
  ·refine .skip (.seqN (.sr (.fa yaw R (.lb y3l R (.fa yfa R (.lb nag32 R (.ln sl32 R (bS hm fun f d hm=> .ix sl144 d R (.le nag4 lv4 R (.sa R (.an R (.ret ?_))))))))))));cases hm;exact .rr [] Tryz.results227 (.tmp R (.tmp R .nil)) R I3 trivial
def y1X(d:BenT×List Int)(e:List Int×Int)(f:Int)(b:List Int×Bool×BenT)(a:BenT):Option (StpT×Int×BenT):=
 (y6B a.2.1 a.2.2.2).bind fun c=>
 if(c.2 != 0) then
  some ((d.2,b.1,e.1,f,b.2.1,c.1,false),c.2,a)
 else
  (y6e a.2.1 a.2.2.2).bind fun g=>
  some ((d.2,b.1,e.1,f,b.2.1,c.1,g.1),g.2,a)
def y1Y(c:BenT×List Int)(d:List Int×Int)(b:Int)(a:List Int×Bool×BenT)(g:BenT):Option (StpT×Int×BenT):=
 (yV g a.1).bind fun e=>
 if(e.1 != 0) then
  some ((c.2,a.1,d.1,b,a.2.1,0,false),e)
 else
  if a.2.1 then
   (yV e.2 ([b]:List Int)).bind fun f=>
   if(f.1 != 0) then
    some ((c.2,a.1,d.1,b,a.2.1,0,false),f)
   else
    y1X c d b a f.2
  else
   y1X c d b a e.2
def y1Z(a:BenT×Int×List Int)(c:BenT)(b:List Int):Option ((BenT×Int×List Int)⊕(BenT×List Int)):=
 some (.inl (c,W (a.2.1+1),b))
def y2a(p1:CycT)(a:BenT×Int×List Int):Option ((BenT×Int×List Int)⊕(BenT×List Int)):=
 if decide (a.2.1<(p1.1.length:Int)) then
  (idx p1.1 a.2.1).bind fun c=>
  (y2u a.1 c).bind fun b=>
  if b.1 then
   (app a.2.2 ([c]:List Int)).bind fun d=>
   y1Z a b.2 d
  else
   y1Z a b.2 a.2.2
 else
  some (.inr (a.1,a.2.2))
def y4a(p0:BenT)(p1:CycT)(p2:(Int→Option Bool)→Option Int):Option (StpT×Int×BenT):=
 (iter (y2a p1) (p0,0,([]:List Int))).bind fun a=>
 (yV a.1 a.2).bind fun b=>
 if(b.1 != 0) then
  some ((a.2,([]:List Int),([]:List Int),0,false,0,false),b)
 else
  (y3Z b.2.2.1 b.2.2.2.2).bind fun c=>
  if(c.2 != 0) then
   some ((a.2,([]:List Int),c.1,0,false,0,false),c.2,b.2)
  else
   (p2 (yI (some b.2) (a.2,([]:List Int),c.1,0,false,0,false))).bind fun e=>
   (y4s b.2 p1.2.1 e).bind fun d=>
   if d.2.1 then
    (y2u d.2.2 e).bind fun f=>
    y1Y a c e d f.2
   else
    y1Y a c e d d.2.2
theorem y9s{p0:BenT}{p1:CycT}{p2:(Int→Option Bool)→Option Int}{r:StpT×Int×BenT}(hm:y4a p0 p1 p2=some r):
    Fw Tryz.prog 192 ⟨1,[0]⟩ [.o (lP 0 0),.a [lF qI p1.1,lF qI p1.2.1,lI p1.2.2],.o (lW Tryz.prog (fun (x:(Int→Option Bool))=> [.o (lW Tryz.prog (fun (x:Int)=> [.i x]) (fun (r:Bool)=> .b r) x)]) (fun (r:Int)=> .i r) p2)] [.bx 199 (lx199 p0)] (.tp [.a [lF qI r.1.1,lF qI r.1.2.1,lH 1,lI r.1.2.2.2.1,lB r.1.2.2.2.2.1,lI r.1.2.2.2.2.2.1,lB r.1.2.2.2.2.2.2],.i r.2.1]) [.bx 199 (lx199 r.2.2),ROW qI 3 r.1.2.2.1]:=by
  unfold y4a at hm;refine Fw.mk2 Tryz.func192 Tryz.ntmps192 R (fun C=>?_) R;refine .sr (.bo 1 R (.bo 2 R (.al 3 zz100 R (.an R (.seq (.sr (.fa ydb R (.lb nag32 R (.ln sl32 R (.mv R (.ns (.block (bS hm fun e N hm=>?_)))))))))))));refine .cut1 (z:= .exit 0) e (fun (e:BenT×List Int)=>⟨[(6,.q 1 0),(4,.q 3 0),(3,.q 4 0),(2,.o (lW Tryz.prog (fun (x:(Int→Option Bool))=> [.o (lW Tryz.prog (fun (x:Int)=> [.i x]) (fun (r:Bool)=> .b r) x)]) (fun (r:Int)=> .i r) p2))],[(0,.bx 199 (lx199 e.1)),(1,.bx 100 [lH 2,lN,lN,lI 0,lB false,lI 0,lB false]),(2,ROW qI 3 e.2),(3,.bx 114 [lF qI p1.1,lF qI p1.2.1,lI p1.2.2]),(4,.bx 276 [lP 0 0])],5⟩) ?_ fun a5=>?_
  · skip
    refine .blkE (.seqN (.seq (.sr (.lb y5s R (.fa y6W R (.lb nag32 R (.fz 2 [29] [1] R R fR R R (bS hm fun s P hm=> .op (O.ca (r':= .i s.1) [0] [(0,.bx 199 (lx199 s.2))] none (y6d P) cf221 R R Z R R R R ⟨⟨_,R,I4⟩,trivial⟩ I3 R) R (.an R (.sr (.mv R (.bi R (.ns ?_)))))))))))));refine .cc hm R (fun hm=>?_) fun hm=>?_
    ·refine .sr (.op (O.lg (l':=[lF qI e.2,lN,lN,lI 0,lB false,lI 0,lB false]) ag100 Z R (.B R) R R R) R (.mv R (.st ag100.sz R (.an R (.ret (.seqR (.nlb qI 3 1 2 R R (.cno 1 R (.c .rf (.c (.nf (r:=qI)) .rf)) R ?_))))))));cases hm;exact .rr [0,5] Tryz.results192 (.cell R R ag100 R (.tmp R .nil)) R I3 ⟨⟨_,R,I4⟩,⟨_,R,I4⟩,trivial⟩
    ·refine .skip (.seqN (.seq (.seq ?_)));refine .sub (τ:=⟨[(6,.q 1 0),(4,.q 3 0),(3,.q 4 0),(2,.o (lW Tryz.prog (fun (x:(Int→Option Bool))=> [.o (lW Tryz.prog (fun (x:Int)=> [.i x]) (fun (r:Bool)=> .b r) x)]) (fun (r:Int)=> .i r) p2))],[(0,.bx 199 (lx199 s.2)),(1,.bx 100 [lF qI e.2,lN,lN,lI 0,lB false,lI 0,lB false]),(3,.bx 114 [lF qI p1.1,lF qI p1.2.1,lI p1.2.2]),(4,.bx 276 [lP 0 0])],5⟩) ?_ [] R;refine bS hm fun g Q hm=>?_;refine .drd 6 [(5,[],[]),(5,[oT],[]),(5,[oT,oT],[]),(5,[oT,oT,oT],[]),(5,[],[]),(5,[oF,oF,oF,oF,oT],[]),(5,[oF,oF,oF,oF,oT,oT],[]),(5,[oF,oF,oF,oF,oT,oT,oT],[]),(5,[oT,oT,oT,oT,oT,oT,oT,oT],[]),(6,[oT,oT,oT,oT,oT,oT,oT,oT,oT],[]),(6,[oT,oT,oT,oT,oT,oT,oT,oT,oT,oT],[]),(6,[oT,oT,oT,oT,oT,oT,oT,oT,oT,oT],[1]),(6,[oT,oT,oT,oT,oT,oT,oT,oT,oT,oT,oT],[]),(6,[oT,oT,oT,oT,oT,oT,oT,oT,oT,oT,oT,oF,oT],[]),(6,[oT,oT,oT,oT,oT,oT,oT,oT,oT,oT,oT,oT,oT,oT],[])] [_,_,_,_,_,_,_,_,_,_,_,_,_,_,_] ⟨[(7,.i g.2),(6,.q 1 0),(4,.q 3 0),(3,.q 4 0),(2,.o (lW Tryz.prog (fun (x:(Int→Option Bool))=> [.o (lW Tryz.prog (fun (x:Int)=> [.i x]) (fun (r:Bool)=> .b r) x)]) (fun (r:Int)=> .i r) p2))],[(0,.bx 199 (lx199 s.2)),(1,.bx 100 [lF qI e.2,lN,lH 5,lI 0,lB false,lI 0,lB false]),(5,ROW qI 3 g.1),(3,.bx 114 [lF qI p1.1,lF qI p1.2.1,lI p1.2.2]),(4,.bx 276 [lP 0 0])],6⟩ ⟨O.ld y5s Z R (.B R) R R,O.nc .B Z R R,O.faP ybJ Z R R,O.lg (l':=(lx193 s.2.2.1)) ag193 Z R (.B R) R R R,O.ld y5s Z R (.B R) R R,O.nc .B Z R R,O.faP yax Z R R,O.lg (l':=[lF rB s.2.2.2.2.1,lF rB s.2.2.2.2.2]) ag197 Z R (.B R) R R R,O.ca (r':= .tp [.h 5,.i g.2]) [5] [(0,ROW qI 3 g.1)] (some 6) (yb0 Q) cf222 R R Z R R R R ⟨⟨_,R,I4⟩,trivial⟩ I3 R,O.mv Z R R,O.ex Z R R R,O.ex Z R R R,O.faP y8B Z R R,O.st nag32.sz Z R R R R R,O.as Z R R,trivial⟩ (by kernel_rfl) R ?_;refine .seqN (.sr (.mv R (.bi R (.ns ?_))));refine .cc hm R (fun hm=>?_) fun hm=>?_
     ·refine .sr (.op (O.lg (l':=[lF qI e.2,lN,lH 5,lI 0,lB false,lI 0,lB false]) ag100 Z R (.B R) R R R) R (.mv R (.st ag100.sz R (.an R (.ret (.seqR (.cno 1 R (.c .rf (.c (.nf (r:=qI)) .rf)) R ?_)))))));cases hm;exact .rr [0,5] Tryz.results192 (.cell R R ag100 R (.tmp R .nil)) R I3 ⟨⟨_,R,I4⟩,⟨_,R,I4⟩,trivial⟩
     ·refine .skip (.seqN (.sr (.mv R (.op (O.mz (l:=[lP 4 0,lP 1 0]) Z R R) R (bS hm fun m S hm=>?_)))));refine .op (O.fvZ (args:=(fun (x:(Int→Option Bool))=> [.o (lW Tryz.prog (fun (x:Int)=> [.i x]) (fun (r:Bool)=> .b r) x)])) (res:=(fun (r:Int)=> .i r)) (y:=(yI (some s.2) (e.2,([]:List Int),g.1,0,false,0,false))) R R R Z R ⟨⟨R,(.z (l':=[lQ 276 [lK rE199 199 (some s.2)] 0,lQ 100 [lF qI e.2,lF qI [],lF qI g.1,lI 0,lB false,lI 0,lB false] 0]) cf223 (fun x r h=>y8Q h) (fun _=>R) R ⟨(.q R ⟨(.cv (.q R LnL.rf) (.pk (r:=rE199) (.p (.p (.p .l (.p .k (.p .l .l))) (.p (.p .l (.p .k (.p .l .l))) .l)) (.p (.p (.p .k (.p .k (.p .k (.p .l .l)))) (.p .l (.p .l .k))) (.p .k (.p .l .l)))))),trivial⟩),(.q R ⟨.rf,(.cv .rf (.nf (r:=qI))),.hr R,.rf,.rf,.rf,.rf,trivial⟩),trivial⟩),trivial⟩,trivial⟩ S (fun _ _ _ _ _ h=>h) R) R ?_;refine .fa y5f R (.st nag3.sz R (.nr (.lb y5s R (.fa ydc R (.lb nag32 R (.fa y5f R (.lb nag3 R (bS hm fun d T hm=> .op (O.ca (r':= .tp [.h 6,.b d.2.1]) [0,6] [(0,.bx 199 (lx199 d.2.2)),(1,ROW qI 3 d.1)] (some 7) (y9z T) cf225 R R Z R R R R ⟨⟨_,R,I4⟩,⟨_,R,I4⟩,trivial⟩ I3 R) R (.mv R (.ex R (.ex R (.fa y7o R (.st nag32.sz R (.fa y6K R (.st nag4.sz R (.ns ?_))))))))))))))));refine .join1 (fun (w:BenT)=>y1Y e g m d w=some r) (fun w=>⟨[(6,.q 1 0),(3,.q 4 0)],[(0,.bx 199 (lx199 w)),(1,.bx 100 [lF qI e.2,lH 2,lH 3,lI m,lB d.2.1,lI 0,lB false]),(2,ROW qI 3 d.1),(3,ROW qI 3 g.1),(4,.bx 276 [lP 0 0])],5⟩) ?_ ?_
      · intro w hm;unfold y1Y at hm;refine .seq (.sr (.lb y5s R (.fa y7o R (.lb nag32 R (.fz 2 [75] [1] R R fR R R (bS hm fun J U hm=> .op (O.ca (r':= .i J.1) [0] [(0,.bx 199 (lx199 J.2))] none (y6d U) cf221 R R Z R R R R ⟨⟨_,R,I4⟩,trivial⟩ I3 R) R (.an R (.sr (.mv R (.bi R (.ns ?_)))))))))));refine .cc hm R (fun hm=>?_) fun hm=>?_
        ·refine .sr (.op (O.lg (l':=[lF qI e.2,lF qI d.1,lH 3,lI m,lB d.2.1,lI 0,lB false]) ag100 Z R (.B R) R R R) R (.mv R (.st ag100.sz R (.an R (.ret (.seqR ?_))))));cases hm;exact .rr [0,3] Tryz.results192 (.cell R R ag100 R (.tmp R .nil)) R I3 ⟨⟨_,R,I4⟩,⟨_,R,I4⟩,trivial⟩
        ·refine .skip (.seqN ?_);refine .join1 (fun (j:BenT)=>y1X e g m d j=some r) (fun j=>⟨[(6,.q 1 0),(3,.q 3 0)],[(0,.bx 199 (lx199 j)),(1,.bx 100 [lF qI e.2,lF qI d.1,lH 2,lI m,lB d.2.1,lI 0,lB false]),(2,ROW qI 3 g.1),(3,.bx 276 [lP 0 0])],4⟩) ?_ ?_
         · intro j hm;unfold y1X at hm;refine .seq (.seq ?_);refine .sub (τ:=⟨[(6,.q 1 0),(3,.q 3 0)],[(0,.bx 199 (lx199 j)),(1,.bx 100 [lF qI e.2,lF qI d.1,lH 2,lI m,lB d.2.1,lI 0,lB false]),(2,ROW qI 3 g.1),(3,.bx 276 [lP 0 0])],4⟩) ?_ [] R;refine bS hm fun u V hm=>?_;refine .drd 4 [(4,[],[]),(4,[oT],[]),(4,[oT,oT],[]),(4,[oT,oT,oT],[]),(4,[],[]),(4,[oF,oF,oF,oF,oT],[]),(4,[oF,oF,oF,oF,oT,oT],[]),(4,[oF,oF,oF,oF,oT,oT,oT],[]),(4,[oT,oT,oT,oT,oT,oT,oT,oT],[]),(4,[oT,oT,oT,oT,oT,oT,oT,oT,oT],[]),(4,[oT,oT,oT,oT,oT,oT,oT,oT,oT,oT],[]),(4,[oT,oT,oT,oT,oT,oT,oT,oT,oT,oT],[1]),(4,[oT,oT,oT,oT,oT,oT,oT,oT,oT,oT,oT],[]),(4,[oT,oT,oT,oT,oT,oT,oT,oT,oT,oT,oT,oF,oT],[]),(4,[oT,oT,oT,oT,oT,oT,oT,oT,oT,oT,oT,oT,oT,oT],[])] [_,_,_,_,_,_,_,_,_,_,_,_,_,_,_] ⟨[(7,.i u.2),(6,.q 1 0),(3,.q 3 0)],[(0,.bx 199 (lx199 j)),(1,.bx 100 [lF qI e.2,lF qI d.1,lH 2,lI m,lB d.2.1,lI u.1,lB false]),(2,ROW qI 3 g.1),(3,.bx 276 [lP 0 0])],4⟩ ⟨O.ld y5s Z R (.B R) R R,O.nc .B Z R R,O.faP ybJ Z R R,O.lg (l':=(lx193 j.2.1)) ag193 Z R (.B R) R R R,O.ld y5s Z R (.B R) R R,O.nc .B Z R R,O.faP yax Z R R,O.lg (l':=[lF rB j.2.2.2.1,lF rB j.2.2.2.2]) ag197 Z R (.B R) R R R,O.ca0 (ybx V) cf226 R R Z R R R,O.mv Z R R,O.ex Z R R R,O.ex Z R R R,O.faP yay Z R R,O.st nag3.sz Z R R R R R,O.as Z R R,trivial⟩ (by kernel_rfl) R ?_;refine .seqN (.sr (.mv R (.bi R (.ns ?_))));refine .cc hm R (fun hm=>?_) fun hm=>?_
           ·refine .sr (.op (O.lg (l':=[lF qI e.2,lF qI d.1,lH 2,lI m,lB d.2.1,lI u.1,lB false]) ag100 Z R (.B R) R R R) R (.mv R (.st ag100.sz R (.an R (.ret (.seqR ?_))))));cases hm;exact .rr [0,2] Tryz.results192 (.cell R R ag100 R (.tmp R .nil)) R I3 ⟨⟨_,R,I4⟩,⟨_,R,I4⟩,trivial⟩
           ·refine .skip (.seqN (.seq ?_));refine .sub (τ:=⟨[(6,.q 1 0),(3,.q 3 0)],[(0,.bx 199 (lx199 j)),(1,.bx 100 [lF qI e.2,lF qI d.1,lH 2,lI m,lB d.2.1,lI u.1,lB false]),(2,ROW qI 3 g.1),(3,.bx 276 [lP 0 0])],4⟩) ?_ [] R;refine bS hm fun H W hm=>?_;refine .drd 4 [(4,[],[]),(4,[oT],[]),(4,[oT,oT],[]),(4,[oT,oT,oT],[]),(4,[],[]),(4,[oF,oF,oF,oF,oT],[]),(4,[oF,oF,oF,oF,oT,oT],[]),(4,[oF,oF,oF,oF,oT,oT,oT],[]),(4,[oT,oT,oT,oT,oT,oT,oT,oT],[]),(4,[oT,oT,oT,oT,oT,oT,oT,oT,oT],[]),(4,[oT,oT,oT,oT,oT,oT,oT,oT,oT,oT],[]),(4,[oT,oT,oT,oT,oT,oT,oT,oT,oT,oT],[1]),(4,[oT,oT,oT,oT,oT,oT,oT,oT,oT,oT,oT],[]),(4,[oT,oT,oT,oT,oT,oT,oT,oT,oT,oT,oT,oF,oT],[]),(4,[oT,oT,oT,oT,oT,oT,oT,oT,oT,oT,oT,oT,oT,oT],[])] [_,_,_,_,_,_,_,_,_,_,_,_,_,_,_] ⟨[(7,.i H.2),(6,.q 1 0)],[(0,.bx 199 (lx199 j)),(1,.bx 100 [lF qI e.2,lF qI d.1,lH 2,lI m,lB d.2.1,lI u.1,lB H.1]),(2,ROW qI 3 g.1)],4⟩ ⟨O.ld y5s Z R (.B R) R R,O.nc .B Z R R,O.faP ybJ Z R R,O.lg (l':=(lx193 j.2.1)) ag193 Z R (.B R) R R R,O.ld y5s Z R (.B R) R R,O.nc .B Z R R,O.faP yax Z R R,O.lg (l':=[lF rB j.2.2.2.1,lF rB j.2.2.2.2]) ag197 Z R (.B R) R R R,O.ca0 (yb1 W) cf227 R R Z R R R,O.mv Z R R,O.ex Z R R R,O.ex Z R R R,O.faP y8C Z R R,O.st nag4.sz Z R R R R R,O.as Z R R,trivial⟩ (by kernel_rfl) R ?_;refine .seqN (.sr (.op (O.lg (l':=[lF qI e.2,lF qI d.1,lH 2,lI m,lB d.2.1,lI u.1,lB H.1]) ag100 Z R (.B R) R R R) R (.mv R (.st ag100.sz R (.an R (.ret ?_))))));cases hm;exact .rr [0,2] Tryz.results192 (.cell R R ag100 R (.tmp R .nil)) R I3 ⟨⟨_,R,I4⟩,⟨_,R,I4⟩,trivial⟩
         · intro F;refine .sr (.fa y6K R (.lb nag4 R (.ns ?_)));refine .cc hm R (fun hm=>?_) fun hm=> .skip ((F _ hm).sub [(2,3),(3,4)] R);refine .sr (.lb y5s R (.fa y5f R (.lb nag3 R (.op (O.bsF (r:=qI) (zs:=([m]:List Int)) bs32 R R Z R R R (.c .k .n) R R R) R (bS hm fun K X hm=> .op (O.ca (r':= .i K.1) [0] [(0,.bx 199 (lx199 K.2))] none (y6d X) cf221 R R Z R R R R ⟨⟨_,R,I4⟩,trivial⟩ I3 R) R (.an R (.sr (.mv R (.bi R (.ns ?_))))))))));refine .cc hm R (fun hm=>?_) fun hm=> .skip ((F _ hm).sub [(2,3),(3,4)] R);refine .sr (.op (O.lg (l':=[lF qI e.2,lF qI d.1,lH 3,lI m,lB d.2.1,lI 0,lB false]) ag100 Z R (.B R) R R R) R (.mv R (.st ag100.sz R (.an R (.ret (.seqR ?_))))));cases hm;exact .rr [0,3] Tryz.results192 (.cell R R ag100 R (.tmp R .nil)) R I3 ⟨⟨_,R,I4⟩,⟨_,R,I4⟩,trivial⟩
      · intro E;refine .sr (.fa y6K R (.lb nag4 R (.ns ?_)));exact .cc hm R (fun hm=> .reg (.lb y5s R (.fa y5f R (.lb nag3 R (bS hm fun L Y hm=> .op (O.ca (r':= .b L.1) [0] [(0,.bx 199 (lx199 L.2))] none (y6z Y) cf186 R R Z R R R R ⟨⟨_,R,I4⟩,trivial⟩ I3 R) R (.nil ((E _ hm).sub [(2,6),(3,5)] R))))))) fun hm=> .skip ((E _ hm).sub [(2,6),(3,5)] R)
  refine .nlb qI 3 3 0 R R (.iter (fun (t:BenT×Int×List Int)=>⟨[(13,.i t.2.1),(12,.i (p1.1.length:Int)),(11,.f qI p1.1),(6,.q 1 0),(4,.q 3 0),(3,.q 4 0),(2,.o (lW Tryz.prog (fun (x:(Int→Option Bool))=> [.o (lW Tryz.prog (fun (x:Int)=> [.i x]) (fun (r:Bool)=> .b r) x)]) (fun (r:Int)=> .i r) p2))],[(0,.bx 199 (lx199 t.1)),(1,.bx 100 [lH 2,lN,lN,lI 0,lB false,lI 0,lB false]),(2,ROW qI 3 t.2.2),(3,.bx 114 [lF qI p1.1,lF qI p1.2.1,lI p1.2.2]),(4,.bx 276 [lP 0 0])],5⟩) N [(1,3),(2,4),(3,2),(4,1)] R ?_);intro t I hm a4 a3;unfold y2a at hm;refine .sr (.bi R (.ns (.seq ?_)));refine .cc hm R (fun hm=>?_) fun hm=> .exit (.seqX (.seqX ((a5 _ (a3 _ (oi hm).symm)).sub [] R)));refine .skip (.seqN ?_);refine .join2 (fun (D:BenT) (v:List Int)=>y1Z t D v=some I) (fun D v=>⟨[(13,.i t.2.1),(12,.i (p1.1.length:Int)),(11,.f qI p1.1),(6,.q 1 0),(4,.q 3 0),(3,.q 4 0),(2,.o (lW Tryz.prog (fun (x:(Int→Option Bool))=> [.o (lW Tryz.prog (fun (x:Int)=> [.i x]) (fun (r:Bool)=> .b r) x)]) (fun (r:Int)=> .i r) p2))],[(0,.bx 199 (lx199 D)),(1,.bx 100 [lH 2,lN,lN,lI 0,lB false,lI 0,lB false]),(2,ROW qI 3 v),(3,.bx 114 [lF qI p1.1,lF qI p1.2.1,lI p1.2.2]),(4,.bx 276 [lP 0 0])],5⟩) ?_ ?_
  · intro D v hm;unfold y1Z at hm;exact .reg (.bi R (.mv R (.nil ((a4 _ (oi hm).symm).sub [] R))))
  · intro G;refine .block (.sr (bS hm fun a6 a1 hm=> .ix sl32 a1 R (.le nag3 lv3 R (.an R (.sr (.lb y5s R (.mv R (bS hm fun M a0 hm=> .op (O.ca (r':= .b M.1) [0] [(0,.bx 199 (lx199 M.2))] none (y6z a0) cf186 R R Z R R R R ⟨⟨_,R,I4⟩,trivial⟩ I3 R) R (.ns ?_)))))))));exact .cc hm R (fun hm=> .reg (.fa y6W R (.lb nag32 R (.mv R (.op (O.bsF (r:=qI) (zs:=([a6]:List Int)) bs32 R R Z R R R (.c .k .n) R R R) R (bS hm fun a7 a2 hm=> .op (O.ap 5 Tryz.underlying32 el3 R R Z R R (.fr R) a2 R) R (.fa y6W R (.st nag32.sz R (.nil (.blkN ((G _ _ hm).sub [(2,5)] R))))))))))) fun hm=> .skip (.blkN ((G _ _ hm).sub [] R))
def y5N(p1:List CycT)(p2:CycT→Option ((Int→Option Bool)→Option Int))(a:Int×(List StpT)×BenT):Option ((Int×(List StpT)×BenT)⊕((List StpT)⊕Int)):=
 if decide (a.1<(p1.length:Int)) then
  (idx p1 a.1).bind fun c=>
  (p2 c).bind fun d=>
  (y4a a.2.2 c d).bind fun b=>
  if(b.2.1 != 0) then
   some (.inr (.inr (b.2.1)))
  else
   (app a.2.1 ([b.1]:List StpT)).bind fun e=>
   some (.inl (W (a.1+1),e,b.2.2))
 else
  some (.inr (.inl a.2.1))
def y6C(p0:PbT)(p1:List CycT)(p2:CycT→Option ((Int→Option Bool)→Option Int)):Option ((List StpT)×Int):=
 (y6a p0).bind fun a=>
 if(a.2 != 0) then
  some (([]:List StpT),a.2)
 else
  a.1.bind fun e=>
  (iter (y5N p1 p2) (0,([]:List StpT),e)).bind fun b=>
  match b with
  | .inl c=>
   some (c,0)
  | .inr (d)=>
   some (([]:List StpT),d)
theorem yby{p0:PbT}{p1:List CycT}{p2:CycT→Option ((Int→Option Bool)→Option Int)}{r:(List StpT)×Int}(hm:y6C p0 p1 p2=some r):
    F0 128 [.a (lx37 p0),.f rE114 p1,.o (lW Tryz.prog (fun (x:CycT)=> [.a [lF qI x.1,lF qI x.2.1,lI x.2.2]]) (fun (r:(Int→Option Bool)→Option Int)=> .o (lW Tryz.prog (fun (x:(Int→Option Bool))=> [.o (lW Tryz.prog (fun (x:Int)=> [.i x]) (fun (r:Bool)=> .b r) x)]) (fun (r:Int)=> .i r) r)) p2)] [] (.tp [.h 0,.i r.2]) [ROW rE100 100 r.1]:=by
  unfold y6C at hm;refine Fw.mk2 Tryz.func128 Tryz.ntmps128 R (fun C=>?_) R;refine .sr (.bo 0 R (.sa R (.an R (.sr (.op (O.lg (l':=(lx37 p0)) ag37 Z R (.B R) R R R) R (bS hm fun L J hm=> .op (O.ca (r':= .tp [.o (lH 1),.i L.2]) [1] [(0,OBX rE199 199 L.1)] (some 2) (yaV J) cf191 R R Z R R R R ⟨⟨_,R,I4⟩,trivial⟩ I3 R) R (.mv R (.ex R (.ex R (.sa R (.an R (.seq (.sr (.mv R (.bi R (.ns ?_))))))))))))))));refine .cc hm R (fun hm=>?_) fun hm=>?_
  ·refine .sr (.mv R (.sa R (.an R (.ret (.seqR (.nlg rE100 100 6 0 R R ?_))))));cases hm;exact .rr [2] Tryz.results128 (.tmp R (.tmp R .nil)) R I3 ⟨⟨_,R,I4⟩,trivial⟩
  ·refine .skip (.seqN (.sr (.an R (.seq (.sr (.mv R (.ln sl94 R (.mv R (.ns (.block (bS hm fun Q K hm=> .opn 1 R K lv199 R (.hp 8 R R (.hp 18 R R (bS hm fun t u hm=>?_))))))))))))));refine .cutU (z:= .exit 0) (fun j=> .inl j=t) (fun (j:(List StpT))=>⟨[(10,.h 0)],[(0,ROW rE100 100 j)],1⟩) ?_ fun H=>?_
   · rintro j rfl;dsimp only at hm;refine .blkE (.seqN (.sr (.mv R (.sa R (.an R (.ret ?_))))));cases hm;exact .rr [0] Tryz.results128 (.tmp R (.tmp R .nil)) R I3 ⟨⟨_,R,I4⟩,trivial⟩
   refine .cutU (z:= .ret) (fun m=> .inr (m)=t) (fun (m:Int)=>⟨[(7,.i m),(6,.o (lN))],[],0⟩) ?_ fun I=>?_
   · rintro m rfl;dsimp only at hm;refine .blkR (.seqR (.nlg rE100 100 6 0 R R ?_));cases hm;exact .rr [0] Tryz.results128 (.tmp R (.tmp R .nil)) R I3 ⟨⟨_,R,I4⟩,trivial⟩
   refine .nlg rE100 100 10 0 R R (.iter (fun (g:Int×(List StpT)×BenT)=>⟨[(25,.i g.1),(24,.i (p1.length:Int)),(23,.f rE114 p1),(10,.h 0),(8,.q 1 0),(2,.o (lW Tryz.prog (fun (x:CycT)=> [.a [lF qI x.1,lF qI x.2.1,lI x.2.2]]) (fun (r:(Int→Option Bool)→Option Int)=> .o (lW Tryz.prog (fun (x:(Int→Option Bool))=> [.o (lW Tryz.prog (fun (x:Int)=> [.i x]) (fun (r:Bool)=> .b r) x)]) (fun (r:Int)=> .i r) r)) p2))],[(0,ROW rE100 100 g.2.1),(1,.bx 199 (lx199 g.2.2))],2⟩) u [(0,2)] R ?_);intro g M hm G s;unfold y5N at hm;refine .sr (.bi R (.ns (.seq ?_)));refine .cc hm R (fun hm=>?_) fun hm=> .exit (.seqX (.seqX ((H _ (s _ (oi hm).symm)).sub [] R)));refine .skip (.seqN (.seq (.block (.sr (bS hm fun e D hm=> .ix sl94 D R (.op (O.lg (l':=[lF qI e.1,lF qI e.2.1,lI e.2.2]) ag114 Z R (.E lv114) R R R) R (.al 2 zz114 R (.st ag114.sz R (.ns (.seq ?_))))))))));refine .sub (τ:=⟨[(12,.q 2 0),(25,.i g.1),(24,.i (p1.length:Int)),(23,.f rE114 p1),(10,.h 0),(8,.q 1 0),(2,.o (lW Tryz.prog (fun (x:CycT)=> [.a [lF qI x.1,lF qI x.2.1,lI x.2.2]]) (fun (r:(Int→Option Bool)→Option Int)=> .o (lW Tryz.prog (fun (x:(Int→Option Bool))=> [.o (lW Tryz.prog (fun (x:Int)=> [.i x]) (fun (r:Bool)=> .b r) x)]) (fun (r:Int)=> .i r) r)) p2))],[(2,.bx 114 [lF qI e.1,lF qI e.2.1,lI e.2.2]),(0,ROW rE100 100 g.2.1),(1,.bx 199 (lx199 g.2.2))],3⟩) ?_ [] R;refine bS hm fun N v hm=>bS hm fun d w hm=>?_;refine .drz 5 [(9,4)] [(3,[],[],[]),(3,[],[],[]),(3,[],[],[]),(3,[],[],[]),(3,[oF,oF,oT,oT],[],[]),(3,[oT,oT,oT,oT,oT],[],[]),(4,[oT,oT,oT,oT,oT,oT],[],[]),(4,[oT,oT,oT,oT,oT,oT,oT],[],[]),(4,[oT,oT,oT,oT,oT,oT,oT],[],[]),(3,[],[1],[]),(5,[oT,oT,oT,oT,oT,oT,oT,oT,oF,oT],[],[]),(5,[oT,oT,oT,oT,oT,oT,oT,oT,oT,oT,oT],[],[(9,4)])] [_,_,_,_,_,_,_,_,_,_,_,_] ⟨[(14,.i d.2.1),(13,.q 4 0),(25,.i g.1),(24,.i (p1.length:Int)),(23,.f rE114 p1),(10,.h 0),(8,.q 1 0),(2,.o (lW Tryz.prog (fun (x:CycT)=> [.a [lF qI x.1,lF qI x.2.1,lI x.2.2]]) (fun (r:(Int→Option Bool)→Option Int)=> .o (lW Tryz.prog (fun (x:(Int→Option Bool))=> [.o (lW Tryz.prog (fun (x:Int)=> [.i x]) (fun (r:Bool)=> .b r) x)]) (fun (r:Int)=> .i r) r)) p2))],[(4,.bx 100 [lF qI d.1.1,lF qI d.1.2.1,lH 3,lI d.1.2.2.2.1,lB d.1.2.2.2.2.1,lI d.1.2.2.2.2.2.1,lB d.1.2.2.2.2.2.2]),(3,ROW qI 3 d.1.2.2.1),(0,ROW rE100 100 g.2.1),(1,.bx 199 (lx199 d.2.2))],5⟩ ⟨O.mv Z R R,O.lg (l':=[lF qI e.1,lF qI e.2.1,lI e.2.2]) ag114 Z R (.B R) R R R,O.mv Z R R,O.lg (l':=[lF qI e.1,lF qI e.2.1,lI e.2.2]) ag114 Z R (.B R) R R R,O.fv (y:=e) R R R Z R v R R,O.ca (r':= .tp [.a [lF qI d.1.1,lF qI d.1.2.1,lH 3,lI d.1.2.2.2.1,lB d.1.2.2.2.2.1,lI d.1.2.2.2.2.2.1,lB d.1.2.2.2.2.2.2],.i d.2.1]) [1,3] [(0,.bx 199 (lx199 d.2.2)),(1,ROW qI 3 d.1.2.2.1)] (some 4) (y9s w) cf192 R R Z R R R R ⟨⟨_,R,I4⟩,⟨_,R,I4⟩,trivial⟩ I3 R,O.mv Z R R,O.ex Z R R R,O.ex Z R R R,O.al 4 R zz100 R Z R,O.st ag100.sz Z R R R R R,O.as Z R R,trivial⟩ (by kernel_rfl) R ?_;refine .seqN (.seq (.sr (.mv R (.bi R (.ns ?_)))));exact .cc hm R (fun hm=> .sr (.mv R (.sa R (.an R (.ret (.seqR (.blkR (.seqR (.seqR ((I _ (s _ (oi hm).symm)).sub [] R)))))))))) fun hm=> .skip (.seqN (.reg (.mv R (.op (O.lg (l':=[lF qI d.1.1,lF qI d.1.2.1,lH 3,lI d.1.2.2.2.1,lB d.1.2.2.2.2.1,lI d.1.2.2.2.2.2.1,lB d.1.2.2.2.2.2.2]) ag100 Z R (.B R) R R R) R (.fz 3 [42] [4] R R fR R R (.op (O.bsF (r:=rE100) (zs:=([d.1]:List StpT)) bs91 R R Z R R R (.c (.p .l (.p .l (.p .l (.p .k (.p .b (.p .k .b)))))) .n) R R R) R (bS hm fun P F hm=> .op (O.ap 5 Tryz.underlying91 el100 R R Z R R (.fr R) F R) R (.sa R (.nil (.blkN (.seqN (.reg (.bi R (.mv R (.nil ((G _ (oi hm).symm).sub [(0,5)] R))))))))))))))))
def y5B(a:CycT)(p0:Int→Option Bool):Option Int:=
 (if (a.2.2 != (-1)) then
  (p0 a.2.2).bind fun c=>
  some c
 else
  some false).bind fun b=>
 if b then
  some a.2.2
 else
  some (-1)
theorem yaf{a:CycT}{p0:Int→Option Bool}{r:Int}(hm:y5B a p0=some r):
    F0 130 [.o (lW Tryz.prog (fun (x:Int)=> [.i x]) (fun (r:Bool)=> .b r) p0),.o (lQ 114 [lF qI a.1,lF qI a.2.1,lI a.2.2] 0)] [] (.i r) []:=by
  unfold y5B at hm;refine Fw.mk2 Tryz.func130 Tryz.ntmps130 R (fun C=>?_) R;refine .sr (.an R (.seq (.sr (.fq y8c R (.lq nag3 R (.bi R (.mv R (bS hm fun g eb1 hm=>?_))))))));refine .cut 5 (fun (c:Bool)=>g=c) (fun c=>⟨[(12,.b c),(1,.o (lQ 114 [lF qI a.1,lF qI a.2.1,lI a.2.2] 0))],[],0⟩) ?_ ?_
  · rintro _ rfl;refine .ns ?_;refine .cc hm R (fun hm=>?_) fun hm=>?_
    ·refine .sr (.fq y8c R (.lq nag3 R (.an R (.ret (.seqR ?_)))));cases hm;exact .rr [] Tryz.results130 (.tmp R .nil) R I3 trivial
    ·refine .skip (.seqN (.sr (.an R (.ret ?_))));cases hm;exact .rr [] Tryz.results130 (.tmp R .nil) R I3 trivial
  · intro e;rcases ifS eb1 with ⟨hc,hm⟩|⟨hc,hm⟩
    · refine .know (d:=7) R hc ?_;refine .op (O.mv (Gu.mk R R) R R) R (.op (O.faQ y8c (Gu.mk R R) R R) R (.op (O.ld nag3 (Gu.mk R R) R .Q R R) R (bS hm fun h f hm=>?_)));refine .op (O.fv (y:=a.2.2) R R R (Gu.mk R R) R f R R) R ?_;exact .op (O.pkT Z R R R R) R ((e h (oi hm).symm).sub [] R)
    · refine .know (d:=7) R hc ?_;exact .sk R (.sk R (.sk R (.sk R (.op (O.pkF Z R R R R) R ((e false (oi hm).symm).sub [] R)))))
def y6O(p0:CycT):Option ((Int→Option Bool)→Option Int):=
 some (y5B p0)
theorem yb2{p0:CycT}{r:((Int→Option Bool)→Option Int)}(hm:y6O p0=some r):
  F0 129 [.a [lF qI p0.1,lF qI p0.2.1,lI p0.2.2]] [] (.o (lW Tryz.prog (fun (x:(Int→Option Bool))=> [.o (lW Tryz.prog (fun (x:Int)=> [.i x]) (fun (r:Bool)=> .b r) x)]) (fun (r:Int)=> .i r) r)) []:=by
 unfold y6O at hm;refine Fw.mk2 Tryz.func129 Tryz.ntmps129 R (fun C=>?_) R;refine .sr (.bo 0 R (.an R (.sr (.fz 0 [1] [] R R fB R R (.op (O.mf (args:=(fun (x:(Int→Option Bool))=> [.o (lW Tryz.prog (fun (x:Int)=> [.i x]) (fun (r:Bool)=> .b r) x)])) (res:=(fun (r:Int)=> .i r)) (m:=(y5B p0)) cf130 (fun x r h=>yaf h) (fun _=>R) R Z R R) R (.an R (.ret ?_)))))));cases hm;exact .rr [] Tryz.results129 (.tmp R .nil) R I3 trivial
def y5a(p0:PbT)(p1:List CycT):Option ((List StpT)×Int):=
 (y3Y p0 p1).bind fun a=>
 if(a != 0) then
  some (([]:List StpT),a)
 else
  (y6C p0 p1 y6O).bind fun b=>
  some b
theorem y7F{p0:PbT}{p1:List CycT}{r:(List StpT)×Int}(hm:y5a p0 p1=some r):
    F0 57 [.a (lx37 p0),.f rE114 p1] [] (.tp [.h 0,.i r.2]) [ROW rE100 100 r.1]:=by
  unfold y5a at hm;refine Fw.mk2 Tryz.func57 Tryz.ntmps57 R (fun C=>?_) R;refine .sr (.bo 0 R (.sa R (.an R (.seq (.sr (.op (O.lg (l':=(lx37 p0)) ag37 Z R (.B R) R R R) R (.mv R (bS hm fun g b hm=> .c0 (y9r b) cf65 R (.an R (.sr (.mv R (.bi R (.ns ?_)))))))))))));refine .cc hm R (fun hm=>?_) fun hm=>?_
  ·refine .sr (.mv R (.sa R (.an R (.ret (.seqR (.nlg rE100 100 4 0 R R ?_))))));cases hm;exact .rr [1] Tryz.results57 (.tmp R (.tmp R .nil)) R I3 ⟨⟨_,R,I4⟩,trivial⟩
  ·refine .skip (.seqN (.sr (.op (O.lg (l':=(lx37 p0)) ag37 Z R (.B R) R R R) R (.mv R (bS hm fun e d hm=> .op (O.cac (r':= .tp [.h 1,.i e.2]) [1] [(0,ROW rE100 100 e.1)] (some 2) (yby d) cf128 R R Z R R ⟨⟨R,.rf⟩,⟨R,.rf⟩,⟨R,(.c (.fn cf129 (fun x r h=>yb2 h) (fun _=>R)) .n)⟩,trivial⟩ R ⟨⟨_,R,I4⟩,trivial⟩ I3 R) R (.ex R (.ex R (.sa R (.an R (.ret ?_))))))))));cases hm;exact .rr [1] Tryz.results57 (.tmp R (.tmp R .nil)) R I3 ⟨⟨_,R,I4⟩,trivial⟩
def y3A(p0:List (List Int))(a:Int×List Int):Option ((Int×List Int)⊕(List Int)):=
 if decide (a.1<(p0.length:Int)) then
  (idx p0 a.1).bind fun b=>
  (app a.2 b).bind fun c=>
  some (.inl (W (a.1+1),c))
 else
  some (.inr a.2)
def y4O(b:Int×Int)(a:Int):Option ((Int×Int)⊕Int):=
 some (.inl (W (b.1+1),a))
def y3B(p0:List (List Int))(a:Int×Int):Option ((Int×Int)⊕Int):=
 if decide (a.1<(p0.length:Int)) then
  (idx p0 a.1).bind fun b=>
  if decide ((W (a.2+(b.length:Int)))<0) then
   none
  else
   y4O a (W (a.2+(b.length:Int)))
 else
  some (.inr a.2)
def y5O(p0:List (List Int)):Option (List Int):=
 (iter (y3B p0) (0,0)).bind fun c=>
 (y6s ([]:List Int) c).bind fun b=>
 (iter (y3A p0) (0,b)).bind fun a=>
 some a
theorem yaF{p0:List (List Int)}{r:List Int}(hm:y5O p0=some r):
  F0 185 [.f (rL qI) p0] [] (.h 0) [ROW qI 3 r]:=by
 unfold y5O at hm;refine Fw.mk2 Tryz.func185 Tryz.ntmps185 R (fun C=>?_) R;refine .sr (.an R (.sr (.an R (.seq (.sr (.mv R (.ln sl53 R (.mv R (.ns (.block (bS hm fun p u hm=>?_)))))))))));refine .cut1 (z:= .exit 0) p (fun (p:Int)=>⟨[(3,.i p),(0,.f (rL qI) p0)],[],0⟩) ?_ fun s=>?_
 ·skip
  refine .blkE (.seqN (.sr (.mv R (bS hm fun x j hm=> .op (O.ca (r':= .h 0) [0] [(0,ROW qI 3 x)] (some 1) (ybj j) cf218 R R Z R R R R ⟨⟨_,R,I4⟩,trivial⟩ I3 R) R (.an R (.seq (.sr (.mv R (.ln sl53 R (.mv R (.ns (.block (bS hm fun d g hm=>?_)))))))))))));refine .cut1 (z:= .exit 2) d (fun (d:List Int)=>⟨[(6,.h 0)],[(0,ROW qI 3 d)],1⟩) ?_ fun t=>?_
  ·skip
   refine .blkE (.seqN (.sr (.mv R (.an R (.ret ?_)))));cases hm;exact .rr [0] Tryz.results185 (.tmp R .nil) R I3 ⟨⟨_,R,I4⟩,trivial⟩
  refine .iter (fun (b:Int×List Int)=>⟨[(27,.i b.1),(26,.i (p0.length:Int)),(25,.f (rL qI) p0),(6,.h 0)],[(0,ROW qI 3 b.2)],1⟩) g [] R ?_;intro b y hm o n;unfold y3A at hm;refine .sr (.bi R (.ns (.seq ?_)));exact .cc hm R (fun hm=> .skip (.seqN (.seq (.block (.sr (bS hm fun B k hm=> .ix sl53 k R (.le nag32 lv32 R (.an R (.reg (.mv R (.mv R (bS hm fun D l hm=> .op (O.ap 1 Tryz.underlying32 el3 R R Z R R (.fr R) l R) R (.sa R (.nil (.blkN (.seqN (.reg (.bi R (.mv R (.nil ((o _ (oi hm).symm).sub [(0,1)] R))))))))))))))))))))) fun hm=> .exit (.seqX (.seqX ((t _ (n _ (oi hm).symm)).sub [] R)))
 refine .iter (fun (a:Int×Int)=>⟨[(11,.i a.1),(10,.i (p0.length:Int)),(9,.f (rL qI) p0),(3,.i a.2),(0,.f (rL qI) p0)],[],0⟩) u [] R ?_;intro a q hm w v;unfold y3B at hm;refine .sr (.bi R (.ns (.seq ?_)));refine .cc hm R (fun hm=>?_) fun hm=> .exit (.seqX (.seqX ((s _ (v _ (oi hm).symm)).sub [] R)));refine .skip (.seqN ?_);refine .join1 (fun (c:Int)=>y4O a c=some q) (fun c=>⟨[(3,.i c),(11,.i a.1),(10,.i (p0.length:Int)),(9,.f (rL qI) p0),(0,.f (rL qI) p0)],[],0⟩) ?_ ?_
 ·intro c hm;unfold y4O at hm;exact .reg (.bi R (.mv R (.nil ((w _ (oi hm).symm).sub [] R))))
 ·intro e;refine .block (.sr (bS hm fun E m hm=> .ix sl53 m R (.le nag32 lv32 R (.an R (.sr (.mv R (.mv R (.ln sl32 R (.bi R (.an R (.sr (.mv R (.bi R (.ns ?_))))))))))))));refine .cc hm R (fun hm=>?_) fun hm=> .skip (.blkN ((e _ hm).sub [] R));refine .reg ?_;cases hm
def y5q(a:List Int):Option (List Int):=
 some a
def y2v(p0:StpT):Option (List Int):=
 (y5O ([p0.1,p0.2.1]:List (List Int))).bind fun a=>
 if p0.2.2.2.2.1 then
  (app a ([p0.2.2.2.1]:List Int)).bind fun b=>
  y5q b
 else
  y5q a
theorem y6D{p0:StpT}{r:List Int}(hm:y2v p0=some r):
  F0 123 [.a (lx100 p0)] [] (.h 0) [ROW qI 3 r]:=by
 unfold y2v at hm;refine Fw.mk2 Tryz.func123 Tryz.ntmps123 R (fun C=>?_) R;refine .sr (.bo 0 R (.an R (.sr (.fa y6W R (.lb nag32 R (.fa y7o R (.lb nag32 R (.op (O.bsF (r:=(rL qI)) (zs:=([p0.1,p0.2.1]:List (List Int))) bs53 R R Z R R R (.c .l (.c .l .n)) R R R) R (bS hm fun g e hm=> .op (O.ca (r':= .h 1) [1] [(0,ROW qI 3 g)] (some 2) (yaF e) cf185 R R Z R R R R ⟨⟨_,R,I4⟩,trivial⟩ I3 R) R (.an R ?_))))))))));refine .join1 (fun (b:List Int)=>y5q b=some r) (fun b=>⟨[(3,.h 0)],[(0,ROW qI 3 b)],1⟩) ?_ ?_
 ·intro b hm;unfold y5q at hm;refine .sr (.mv R (.an R (.ret ?_)));cases hm;exact .rr [0] Tryz.results123 (.tmp R .nil) R I3 ⟨⟨_,R,I4⟩,trivial⟩
 ·intro d;refine .sr (.fa y6K R (.lb nag4 R (.ns ?_)));exact .cc hm R (fun hm=> .reg (.mv R (.fa y5f R (.lb nag3 R (.op (O.bsF (r:=qI) (zs:=([p0.2.2.2.1]:List Int)) bs32 R R Z R R R (.c .k .n) R R R) R (bS hm fun i f hm=> .op (O.ap 2 Tryz.underlying32 el3 R R Z R R (.fr R) f R) R (.sa R (.nil ((d _ hm).sub [(0,2)] R))))))))) fun hm=> .skip ((d _ hm).sub [(0,1)] R)
def y4j(p0:List StpT)(a:Int×List Int):Option ((Int×List Int)⊕(List Int)):=
 if decide (a.1<(p0.length:Int)) then
  (idx p0 a.1).bind fun c=>
  (y2v c).bind fun b=>
  (app a.2 b).bind fun d=>
  some (.inl (W (a.1+1),d))
 else
  some (.inr a.2)
def y4w(p0:List StpT):Option (List Int):=
 (iter (y4j p0) (0,([]:List Int))).bind fun a=>
 some a
theorem y7s{p0:List StpT}{r:List Int}(hm:y4w p0=some r):
  F0 53 [.f rE100 p0] [] (.h 0) [ROW qI 3 r]:=by
 unfold y4w at hm;refine Fw.mk2 Tryz.func53 Tryz.ntmps53 R (fun C=>?_) R;refine .sr (.an R (.sr (.an R (.seq (.sr (.mv R (.ln sl91 R (.mv R (.ns (.block (bS hm fun g k hm=>?_)))))))))));refine .cut1 (z:= .exit 0) g (fun (g:List Int)=>⟨[(3,.h 0)],[(0,ROW qI 3 g)],1⟩) ?_ fun j=>?_
 ·skip
  refine .blkE (.seqN (.sr (.mv R (.an R (.ret ?_)))));cases hm;exact .rr [0] Tryz.results53 (.tmp R .nil) R I3 ⟨⟨_,R,I4⟩,trivial⟩
 refine .nlg qI 3 3 0 R R (.iter (fun (a:Int×List Int)=>⟨[(8,.i a.1),(7,.i (p0.length:Int)),(6,.f rE100 p0),(3,.h 0)],[(0,ROW qI 3 a.2)],1⟩) k [] R ?_);intro a p hm n m;unfold y4j at hm;refine .sr (.bi R (.ns (.seq ?_)));exact .cc hm R (fun hm=> .skip (.seqN (.seq (.block (.sr (bS hm fun b d hm=> .ix sl91 d R (.op (O.lg (l':=(lx100 b)) ag100 Z R (.E lv100) R R R) R (.al 1 zz100 R (.st ag100.sz R (.ns (.reg (.mv R (.op (O.lg (l':=(lx100 b)) ag100 Z R (.B R) R R R) R (bS hm fun o c hm=> .op (O.ca (r':= .h 2) [2] [(0,ROW qI 3 o)] (some 3) (y6D c) cf123 R R Z R R R R ⟨⟨_,R,I4⟩,trivial⟩ I3 R) R (bS hm fun q e hm=> .op (O.ap 3 Tryz.underlying32 el3 R R Z R R (.ow R R) e R) R (.sa R (.nil (.blkN (.seqN (.reg (.bi R (.mv R (.nil ((n _ (oi hm).symm).sub [(0,3)] R)))))))))))))))))))))))) fun hm=> .exit (.seqX (.seqX ((j _ (m _ (oi hm).symm)).sub [] R)))
def y5r(a:PbT)(p0:Int):Option Bool:=
 (yf a.1.1 p0).bind fun b=>
 some (!b)
theorem y9h{c:PbT}{p0:Int}(hm:y5r c p0=some r):
  F0 122 [.i p0,.o (lQ 37 (lx37 c) 0)] [] (.b r) []:=by
 unfold y5r at hm;refine Fw.mk2 Tryz.func122 Tryz.ntmps122 R (fun C=>?_) R;refine .sr (.an R (.sr (.fq y3k R (.fq yH R (.lq nag32 R (.mv R (bS hm fun d a hm=> .c0 (yk a) cf104 R (.op (O.not Z R R) R (.an R (.ret ?_))))))))));cases hm;exact .rr [] Tryz.results122 (.tmp R .nil) R I3 trivial
def y3R(a:Bool):Option Bool:=
 some a
def y6n(a:Option (BenT×Int×Bool))(b:Int)(p0:Int×Int×Int):Option Bool:=
 a.bind fun c=>
 if(p0.1==c.2.1) then
  y3R (p0.2.1==b)
 else
  y3R false
theorem y8R{j:Option (BenT×Int×Bool)}{f:Int}{p0:Int×Int×Int}(hm:y6n j f p0=some r):
  F0 187 [.a [lI p0.1,lI p0.2.1,lI p0.2.2],.o (lQ 275 [lK rE201 201 j] 0),.o (lQ 3 [lI f] 0)] [] (.b r) []:=by
 unfold y6n at hm;refine Fw.mk2 Tryz.func187 Tryz.ntmps187 R (fun C=>?_) R;refine .sr (.bo 0 R (.an R ?_));refine .join1 (fun (e:Bool)=>y3R e=some r) (fun e=>⟨[(4,.b e)],[],0⟩) ?_ ?_
 ·intro e hm;unfold y3R at hm;refine .ret ?_;cases hm;exact .rr [] Tryz.results187 (.tmp R .nil) R I3 trivial
 ·intro g;refine bS hm fun k i hm=> .cnt 1 R (.c (.q (.c (.pd i lv201) .n)) .n) R ?_;refine .sub (τ:=⟨[(3,.q 0 0),(1,.o (lQ 275 [lQ 201 (lx201 k) 0] 0)),(2,.o (lQ 3 [lI f] 0))],[(0,.bx 124 [lI p0.1,lI p0.2.1,lI p0.2.2])],1⟩) ?_ [] R;refine .drP 7 [(1,[]),(1,[oT]),(1,[]),(1,[oF,oF,oT]),(1,[oF,oF,oT,oT]),(1,fA 2 (tT 3)),(1,tT 6)] [_,_,_,_,_,_,_] ⟨O.faP y3u Z R R,O.ld nag3 Z R (.B R) R R,O.ld y7h Z R .Q R R,O.nc .Q Z R R,O.faQ ydf Z R R,O.ld nag3 Z R .Q R R,O.bi Z R R R R,trivial⟩ fun h=>?_;rcases ifS hm with ⟨d,hm⟩|⟨d,hm⟩
  ·skip
   exact .drF h [(1,tT 7),(1,tT 8),(1,tT 9),(1,tT 8),(1,tT 11),(1,tT 12),(1,tT 13)] [_,_,_,_,_,_,_] ⟨[(4,.b (p0.2.1==f))],[],1⟩ ⟨O.kn (O.mv Z R R) d,O.faP y5d (Gu.mk R R) R R,O.ld nag3 (Gu.mk R R) R (.B R) R R,O.ld nag3 (Gu.mk R R) R .Q R R,O.bi (Gu.mk R R) R R R R,O.pkT Z R R R R,O.as Z R R,trivial⟩ (by kernel_rfl) R ((g _ hm).sub [] R)
  ·skip
   exact .drF h [(1,tT 7),(1,tT 8),(1,tT 9),(1,tT 8),(1,tT 11),(1,tT 12),(1,tT 13)] [_,_,_,_,_,_,_] ⟨[(4,.b false)],[],1⟩ ⟨O.kn (O.mv Z R R) d,O.skip R R R R,O.skip R R R R,O.skip R R R R,O.skip R R R R,O.pkF Z R R R R,O.as Z R R,trivial⟩ (by kernel_rfl) R ((g _ hm).sub [] R)
def y3t(a:Bool):Option Bool:=
 some a
def y4k(a:Option (BenT×Int×Bool))(b:Int)(p0:Int×Int×Int):Option Bool:=
 a.bind fun c=>
 if(p0.1==c.1.2.2.1) then
  y3t (p0.2.1==b)
 else
  y3t false
theorem y8q{j:Option (BenT×Int×Bool)}{f:Int}{p0:Int×Int×Int}(hm:y4k j f p0=some r):
  F0 242 [.a [lI p0.1,lI p0.2.1,lI p0.2.2],.o (lQ 276 [lK rE201 201 j] 0),.o (lQ 3 [lI f] 0)] [] (.b r) []:=by
 unfold y4k at hm;refine Fw.mk2 Tryz.func242 Tryz.ntmps242 R (fun C=>?_) R;refine .sr (.bo 0 R (.an R ?_));refine .join1 (fun (e:Bool)=>y3t e=some r) (fun e=>⟨[(4,.b e)],[],0⟩) ?_ ?_
 ·intro e hm;unfold y3t at hm;refine .ret ?_;cases hm;exact .rr [] Tryz.results242 (.tmp R .nil) R I3 trivial
 ·intro g;refine bS hm fun k i hm=> .cnt 1 R (.c (.q (.c (.pd i lv201) .n)) .n) R ?_;refine .sub (τ:=⟨[(3,.q 0 0),(1,.o (lQ 276 [lQ 201 (lx201 k) 0] 0)),(2,.o (lQ 3 [lI f] 0))],[(0,.bx 124 [lI p0.1,lI p0.2.1,lI p0.2.2])],1⟩) ?_ [] R;refine .drP 7 [(1,[]),(1,[oT]),(1,[]),(1,[oF,oF,oT]),(1,[oF,oF,oT,oT]),(1,fA 2 (tT 3)),(1,tT 6)] [_,_,_,_,_,_,_] ⟨O.faP y3u Z R R,O.ld nag3 Z R (.B R) R R,O.ld y5s Z R .Q R R,O.nc .Q Z R R,O.faQ ybH Z R R,O.ld nag3 Z R .Q R R,O.bi Z R R R R,trivial⟩ fun h=>?_;rcases ifS hm with ⟨d,hm⟩|⟨d,hm⟩
  ·skip
   exact .drF h [(1,tT 7),(1,tT 8),(1,tT 9),(1,tT 8),(1,tT 11),(1,tT 12),(1,tT 13)] [_,_,_,_,_,_,_] ⟨[(4,.b (p0.2.1==f))],[],1⟩ ⟨O.kn (O.mv Z R R) d,O.faP y5d (Gu.mk R R) R R,O.ld nag3 (Gu.mk R R) R (.B R) R R,O.ld nag3 (Gu.mk R R) R .Q R R,O.bi (Gu.mk R R) R R R R,O.pkT Z R R R R,O.as Z R R,trivial⟩ (by kernel_rfl) R ((g _ hm).sub [] R)
  ·skip
   exact .drF h [(1,tT 7),(1,tT 8),(1,tT 9),(1,tT 8),(1,tT 11),(1,tT 12),(1,tT 13)] [_,_,_,_,_,_,_] ⟨[(4,.b false)],[],1⟩ ⟨O.kn (O.mv Z R R) d,O.skip R R R R,O.skip R R R R,O.skip R R R R,O.skip R R R R,O.pkF Z R R R R,O.as Z R R,trivial⟩ (by kernel_rfl) R ((g _ hm).sub [] R)
def y6o(p0:BenT×Int×Bool)(p1:Int):Option Int:=
 (y2g p0.1.1.1.2.2.2 (y4k (some p0) p1)).bind fun a=>
 if decide (a<0) then
  some (-1)
 else
  (some p0).bind fun b=>
  (idx b.1.1.1.2.2.2 a).bind fun c=>
  some c.2.2
theorem y8S{p0:BenT×Int×Bool}{r:Int}(hm:y6o p0 p1=some r):
    F0 219 [.o (lQ 201 (lx201 p0) 0),.i p1] [] (.i r) []:=by
  unfold y6o at hm;refine Fw.mk2 Tryz.func219 Tryz.ntmps219 R (fun C=>?_) R;refine .sr (.bo 0 R (.bo 1 R (.an R (.sr (.lb y5s R (.op (O.nc .Q Z R R) R (.fq y7M R (.fq y3k R (.fq y1M R (.lq nag33 R (.fz 0 [2] [] R R fB R R (.fz 1 [3] [] R R fB R R (.cnt 2 R (.c (.q (.c (.pk (r:=rE201) (.p (.p (.p (.p .l (.p .k (.p .l .l))) (.p (.p .l (.p .k (.p .l .l))) .l)) (.p (.p (.p .k (.p .k (.p .k (.p .l .l)))) (.p .l (.p .l .k))) (.p .k (.p .l .l)))) (.p .k .b))) .n)) .n) R (.op (O.mf (args:=(fun (x:(Int×Int×Int))=> [.a [lI x.1,lI x.2.1,lI x.2.2]])) (res:=(fun (r:Bool)=> .b r)) (m:=(y4k (some p0) p1)) cf242 (fun x r h=>y8q h) (fun _=>R) R Z R R) R (bS hm fun g d hm=> .c0 (y6u d) cf140 R (.an R (.seq (.sr (.mv R (.bi R (.ns ?_)))))))))))))))))))));refine .cc hm R (fun hm=>?_) fun hm=>?_
  ·refine .sr (.an R (.ret (.seqR ?_)));cases hm;exact .rr [] Tryz.results219 (.tmp R .nil) R I3 trivial
  ·refine .skip (.seqN (.sr (.lq y5s R (bS hm fun j e hm=> .cnt 16 R (.c (.pd e lv201) .n) R (.op (O.nc .Q Z R R) R (.fq y7M R (.fq y3k R (.fq y1M R (.lq nag33 R (.mv R (bS hm fun s f hm=> .ix sl33 f R (.fe y5e R (.le nag3 lv124 R (.an R (.ret ?_)))))))))))))));cases hm;exact .rr [] Tryz.results219 (.tmp R .nil) R I3 trivial
def y4B(p0:BenT×Int×Bool)(b:Int)(a:Int):Option (Bool×(BenT×Int×Bool)):=
 some (decide (b≥0),(p0.1.1,p0.1.2.1,a,p0.1.2.2.2),p0.2)
def y6E(p0:BenT×Int×Bool)(p1:Int):Option (Bool×(BenT×Int×Bool)):=
 (y6o p0 p1).bind fun a=>
 if decide (a≥0) then
  y4B p0 a a
 else
  y4B p0 a p0.1.2.2.1
theorem y9t{p0:BenT×Int×Bool}{r:Bool×(BenT×Int×Bool)}(hm:y6E p0 p1=some r):
  Fw Tryz.prog 186 ⟨1,[0]⟩ [.o (lP 0 0),.i p1] [.bx 201 (lx201 p0)] (.b r.1) [.bx 201 (lx201 r.2)]:=by
 unfold y6E at hm;refine Fw.mk2 Tryz.func186 Tryz.ntmps186 R (fun C=>?_) R;refine .sr (.an R (.sr (.mv R (.mv R (bS hm fun e d hm=> .op (O.caZ (y8S d) cf219 R R Z R ⟨⟨R,(.q R LnL.rf),trivial⟩,⟨R,LnL.rf⟩,trivial⟩ (fun _ _ _ _ _ h=>h) R) R (.an R ?_))))));refine .join1 (fun (a:Int)=>y4B p0 e a=some r) (fun a=>⟨[(5,.i e)],[(0,.bx 201 [lF qI p0.1.1.1.1,lI p0.1.1.1.2.1,lF qI p0.1.1.1.2.2.1,lF qT p0.1.1.1.2.2.2,lF qI p0.1.1.2.1.1,lI p0.1.1.2.1.2.1,lF qI p0.1.1.2.1.2.2.1,lF qT p0.1.1.2.1.2.2.2,lF qI p0.1.1.2.2,lI p0.1.2.1.1.1,lI p0.1.2.1.1.2.1,lI p0.1.2.1.1.2.2.1,lF rB p0.1.2.1.1.2.2.2.1,lF rE302 p0.1.2.1.1.2.2.2.2,lF qI p0.1.2.1.2.1,lF qI p0.1.2.1.2.2.1,lI p0.1.2.1.2.2.2,lI a,lF rB p0.1.2.2.2.1,lF rB p0.1.2.2.2.2,lI p0.2.1,lB p0.2.2])],1⟩) ?_ ?_
 ·intro a hm;unfold y4B at hm;refine .sr (.mv R (.bi R (.an R (.ret ?_))));cases hm;exact .rr [0] Tryz.results186 (.tmp R .nil) R I3 ⟨⟨_,R,I4⟩,trivial⟩
 ·intro c;refine .sr (.mv R (.bi R (.ns ?_)));exact .cc hm R (fun hm=> .reg (.mv R (.mv R (.op (O.nc .B Z R R) R (.fa ybH R (.st nag3.sz R (.nil ((c _ hm).sub [] R)))))))) fun hm=> .skip ((c _ hm).sub [] R)
theorem cf187:Cf Tryz.prog 187:=cM Tryz.func187 (by kernel_rfl)
theorem ybP:FA Tryz.prog 201 0 0:=fAm 0 0 20 Tryz.underlying201 R (by kernel_rfl)
theorem y8T:FA Tryz.prog 201 2 21:=fAm 2 21 1 Tryz.underlying201 R (by kernel_rfl)
def y4C(p1:Int)(a:BenT×Int×Bool)(c:Bool):Option (BenT×Int×Bool):=
 if c then
  some a
 else
  (y2g a.1.1.2.1.2.2.2 (y6n (some a) p1)).bind fun b=>
  if decide (b<0) then
   some (a.1,a.2.1,true)
  else
   (idx a.1.1.2.1.2.2.2 b).bind fun d=>
   some (a.1,d.2.2,a.2.2)
def y4D(p1:Int)(a:BenT×Int×Bool):Option (BenT×Int×Bool):=
 if a.2.2 then
  y4C p1 a true
 else
  (yf a.1.1.2.1.1 p1).bind fun b=>
  y4C p1 a (!b)
def y6F(p0:BenT×Int×Bool)(p1:Int):Option (BenT×Int×Bool):=
 if p0.2.2 then
  y4D p1 (p0.1,p0.2.1,true)
 else
  (y6E p0 p1).bind fun a=>
  y4D p1 (a.2.1,a.2.2.1,(!a.1))
theorem y9u{p0:BenT×Int×Bool}{r:(BenT×Int×Bool)}(hm:y6F p0 p1=some r):
    Fw Tryz.prog 124 ⟨1,[0]⟩ [.o (lP 0 0),.i p1] [.bx 201 (lx201 p0)] (.tp []) [.bx 201 (lx201 r)]:=by
  unfold y6F at hm;refine Fw.mk2 Tryz.func124 Tryz.ntmps124 R (fun C=>?_) R;refine .sr (.bo 1 R (.bo 2 R (.ns ?_)));refine .join1 (fun (c:BenT×Int×Bool)=>y4D p1 c=some r) (fun c=>⟨[(3,.q 1 0),(2,.q 2 0)],[(0,.bx 201 (lx201 c)),(1,.bx 3 [lI p1]),(2,.bx 275 [lP 0 0])],3⟩) ?_ ?_
  · intro c hm;unfold y4D at hm;refine .seq ?_;refine .join1 (fun (f:Bool)=>y4C p1 c f=some r) (fun f=>⟨[(35,.b f),(3,.q 1 0),(2,.q 2 0)],[(0,.bx 201 (lx201 c)),(1,.bx 3 [lI p1]),(2,.bx 275 [lP 0 0])],3⟩) ?_ ?_
    · intro f hm;unfold y4C at hm;refine .cc hm R (fun hm=>?_) fun hm=>?_
      ·refine .ret (.seqR ?_);cases hm;exact .rr [0] Tryz.results124 .nil R I3 ⟨⟨_,R,I4⟩,trivial⟩
      ·refine .skip (.seqN (.sr (.lb y7h R (.op (O.nc .B Z R R) R (.fa ybP R (.fa y7M R (.fa y4K R (.fa y1M R (.lb nag33 R (.op (O.mz (l:=[lP 2 0,lP 1 0]) Z R R) R (bS hm fun w t hm=> .op (O.caZ (y6u t) cf140 R R Z R ⟨⟨R,LnL.rf⟩,⟨R,(.z (l':=[lQ 275 [lK rE201 201 (some c)] 0,lQ 3 [lI p1] 0]) cf187 (fun x r h=>y8R h) (fun _=>R) R ⟨(.q R ⟨(.cv (.q R LnL.rf) (.pk (r:=rE201) (.p (.p (.p (.p .l (.p .k (.p .l .l))) (.p (.p .l (.p .k (.p .l .l))) .l)) (.p (.p (.p .k (.p .k (.p .k (.p .l .l)))) (.p .l (.p .l .k))) (.p .k (.p .l .l)))) (.p .k .b)))),trivial⟩),(.q R LnL.rf),trivial⟩),trivial⟩,trivial⟩ (fun _ _ _ _ _ h=>h) R) R (.an R (.seq (.sr (.mv R (.bi R (.ns ?_)))))))))))))))));refine .cc hm R (fun hm=>?_) fun hm=>?_
       ·refine .sr (.lb y7h R (.op (O.nc .B Z R R) R (.fa y8T R (.st nag4.sz R (.ns (.ret (.seqR ?_)))))));cases hm;exact .rr [0] Tryz.results124 .nil R I3 ⟨⟨_,R,I4⟩,trivial⟩
       ·refine .skip (.seqN ?_);refine .sub (τ:=⟨[(4,.i w),(2,.q 2 0)],[(0,.bx 201 (lx201 c)),(2,.bx 275 [lP 0 0])],3⟩) ?_ [] R;refine bS hm fun D v hm=>?_;refine .drg 3 [(3,[]),(3,[]),(3,[oF,oT]),(3,[oF,oT,oT]),(3,fA 1 (tT 3)),(3,fA 1 (tT 4)),(3,fA 1 (tT 5)),(3,fA 1 (tT 6)),(3,[]),(3,fA 1 (tT 8)),(3,fA 1 (tT 9)),(3,fA 1 (tT 10)),(3,tT 12),(3,tT 13),(3,tT 14)] [_,_,_,_,_,_,_,_,_,_,_,_,_,_,_] ⟨[],[(0,.bx 201 [lF qI c.1.1.1.1,lI c.1.1.1.2.1,lF qI c.1.1.1.2.2.1,lF qT c.1.1.1.2.2.2,lF qI c.1.1.2.1.1,lI c.1.1.2.1.2.1,lF qI c.1.1.2.1.2.2.1,lF qT c.1.1.2.1.2.2.2,lF qI c.1.1.2.2,lI c.1.2.1.1.1,lI c.1.2.1.1.2.1,lI c.1.2.1.1.2.2.1,lF rB c.1.2.1.1.2.2.2.1,lF rE302 c.1.2.1.1.2.2.2.2,lF qI c.1.2.1.2.1,lF qI c.1.2.1.2.2.1,lI c.1.2.1.2.2.2,lI c.1.2.2.1,lF rB c.1.2.2.2.1,lF rB c.1.2.2.2.2,lI D.2.2,lB c.2.2])],3⟩ ⟨O.ld y7h Z R (.B R) R R,O.ld y7h Z R (.B R) R R,O.nc .B Z R R,O.faP ybP Z R R,O.faP y7M Z R R,O.faP y4K Z R R,O.faP y1M Z R R,O.ld nag33 Z R (.B R) R R,O.mv Z R R,O.ix sl33 Z R R v R,O.faE y5e Z R R,O.ld nag3 Z R (.E lv124) R R,O.nc .B Z R R,O.faP ydf Z R R,O.st nag3.sz Z R R R R R,trivial⟩ (by kernel_rfl) R ?_;cases hm;exact WX.rt [0] (.inr R) Tryz.results124 .nil R I3 ⟨⟨_,R,I4⟩,trivial⟩
    · intro j;refine .sub (τ:=⟨[(3,.q 1 0),(2,.q 2 0)],[(0,.bx 201 (lx201 c)),(1,.bx 3 [lI p1]),(2,.bx 275 [lP 0 0])],3⟩) ?_ [] R;refine .drP 4 [(3,[]),(3,[oT]),(3,[oT,oT]),(3,tT 3)] [_,_,_,_] ⟨O.ld y7h Z R (.B R) R R,O.nc .B Z R R,O.faP y8T Z R R,O.ld nag4 Z R (.B R) R R,trivial⟩ fun m=>?_;rcases ifS hm with ⟨e,hm⟩|⟨e,hm⟩
      · skip
        exact .drF m [(3,tT 4),(3,tT 5),(3,tT 6),(3,tT 7),(3,tT 8),(3,tT 9),(3,tT 10),(3,tT 11),(3,tT 5),(3,tT 13),(3,tT 14),(3,tT 15)] [_,_,_,_,_,_,_,_,_,_,_,_] ⟨[(35,.b true),(3,.q 1 0),(2,.q 2 0)],[(0,.bx 201 (lx201 c)),(1,.bx 3 [lI p1]),(2,.bx 275 [lP 0 0])],3⟩ ⟨O.kn (O.mv Z R R) e,O.skip R R R R,O.skip R R R R,O.skip R R R R,O.skip R R R R,O.skip R R R R,O.skip R R R R,O.skip R R R R,O.skip R R R R,O.skip R R R R,O.skip R R R R,O.pkT Z R R R R,trivial⟩ (by kernel_rfl) R ((j _ hm).sub [] R)
      · skip
        exact bS hm fun y u hm=> .drF m [(3,tT 4),(3,tT 5),(3,tT 6),(3,tT 7),(3,tT 8),(3,tT 9),(3,tT 10),(3,tT 11),(3,tT 5),(3,tT 13),(3,tT 14),(3,tT 15)] [_,_,_,_,_,_,_,_,_,_,_,_] ⟨[(35,.b (!y)),(3,.q 1 0),(2,.q 2 0)],[(0,.bx 201 (lx201 c)),(1,.bx 3 [lI p1]),(2,.bx 275 [lP 0 0])],3⟩ ⟨O.kn (O.mv Z R R) e,O.ld y7h (Gu.mk R R) R (.B R) R R,O.nc .B (Gu.mk R R) R R,O.faP ybP (Gu.mk R R) R R,O.faP y7M (Gu.mk R R) R R,O.faP y4K (Gu.mk R R) R R,O.faP yH (Gu.mk R R) R R,O.ld nag32 (Gu.mk R R) R (.B R) R R,O.ld nag3 (Gu.mk R R) R (.B R) R R,O.ca0 (yk u) cf104 R R (Gu.mk R R) R R R,O.not (Gu.mk R R) R R,O.pkF Z R R R R,trivial⟩ (by kernel_rfl) R ((j _ hm).sub [] R)
  · intro g;refine .sub (τ:=⟨[(3,.q 2 0),(2,.q 1 0)],[(0,.bx 201 (lx201 p0)),(2,.bx 3 [lI p1]),(1,.bx 275 [lP 0 0])],3⟩) ?_ [] R;refine .drP 5 [(3,[]),(3,[]),(3,[oF,oT]),(3,[oF,oT,oT]),(3,fA 1 (tT 3))] [_,_,_,_,_] ⟨O.ld y7h Z R (.B R) R R,O.ld y7h Z R (.B R) R R,O.nc .B Z R R,O.faP y8T Z R R,O.ld nag4 Z R (.B R) R R,trivial⟩ fun s=>?_;rcases ifS hm with ⟨d,hm⟩|⟨d,hm⟩
    · skip
      exact .drH s 3 [(3,fA 1 (tT 4)),(3,fA 1 (tT 5)),(3,fA 1 (tT 6)),(3,fA 1 (tT 7)),(3,fA 1 (tT 5)),(3,fA 1 (tT 9)),(3,fA 1 (tT 10)),(3,fA 1 (tT 11)),(3,tT 13),(3,tT 14),(3,tT 15)] [_,_,_,_,_,_,_,_,_,_,_] ⟨[(3,.q 2 0),(2,.q 1 0)],[(0,.bx 201 [lF qI p0.1.1.1.1,lI p0.1.1.1.2.1,lF qI p0.1.1.1.2.2.1,lF qT p0.1.1.1.2.2.2,lF qI p0.1.1.2.1.1,lI p0.1.1.2.1.2.1,lF qI p0.1.1.2.1.2.2.1,lF qT p0.1.1.2.1.2.2.2,lF qI p0.1.1.2.2,lI p0.1.2.1.1.1,lI p0.1.2.1.1.2.1,lI p0.1.2.1.1.2.2.1,lF rB p0.1.2.1.1.2.2.2.1,lF rE302 p0.1.2.1.1.2.2.2.2,lF qI p0.1.2.1.2.1,lF qI p0.1.2.1.2.2.1,lI p0.1.2.1.2.2.2,lI p0.1.2.2.1,lF rB p0.1.2.2.2.1,lF rB p0.1.2.2.2.2,lI p0.2.1,lB true]),(2,.bx 3 [lI p1]),(1,.bx 275 [lP 0 0])],3⟩ ⟨O.kn (O.mv Z R R) d,O.skip R R R R,O.skip R R R R,O.skip R R R R,O.skip R R R R,O.skip R R R R,O.skip R R R R,O.pkT Z R R R R,O.nc .B Z R R,O.faP y8T Z R R,O.st nag4.sz Z R R R R R,trivial⟩ (by kernel_rfl) R ((g _ hm).sub [(1,2),(2,1)] R)
    · skip
      refine bS hm fun a n hm=>?_;refine .drz 3 [(10,0)] [(3,[],[0],[]),(3,[],[],[]),(3,[oF,oT],[],[]),(3,[oF,oT,oT],[],[]),(3,[oF,oT,oT,oT],[],[]),(3,[oF,oT,oT,oT,oT],[],[]),(3,[oF,oT,oT,oT,oT,oT],[],[]),(3,[oF,oT,oT,oT,oT,oT,oT],[],[]),(3,[oF,oT,oT,oT,oT,oT,oT,oT],[],[]),(3,[oF,oT,oT,oT,oT,oT],[],[]),(3,[oF,oT,oT,oT,oT,oT,oT,oT,oT,oT],[],[]),(3,[oF,oT,oT,oT,oT,oT,oT,oT,oT,oT,oT],[],[]),(3,[oF,oT,oT,oT,oT,oT,oT,oT,oT,oT,oT,oT],[],[]),(3,[oT,oT,oT,oT,oT,oT,oT,oT,oT,oT,oT,oT,oT],[],[]),(3,[oT,oT,oT,oT,oT,oT,oT,oT,oT,oT,oT,oT,oT,oT],[],[]),(3,[oT,oT,oT,oT,oT,oT,oT,oT,oT,oT,oT,oT,oT,oT,oT],[],[])] [_,_,_,_,_,_,_,_,_,_,_,_,_,_,_,_] ⟨[(3,.q 2 0),(2,.q 1 0)],[(0,.bx 201 [lF qI a.2.1.1.1.1,lI a.2.1.1.1.2.1,lF qI a.2.1.1.1.2.2.1,lF qT a.2.1.1.1.2.2.2,lF qI a.2.1.1.2.1.1,lI a.2.1.1.2.1.2.1,lF qI a.2.1.1.2.1.2.2.1,lF qT a.2.1.1.2.1.2.2.2,lF qI a.2.1.1.2.2,lI a.2.1.2.1.1.1,lI a.2.1.2.1.1.2.1,lI a.2.1.2.1.1.2.2.1,lF rB a.2.1.2.1.1.2.2.2.1,lF rE302 a.2.1.2.1.1.2.2.2.2,lF qI a.2.1.2.1.2.1,lF qI a.2.1.2.1.2.2.1,lI a.2.1.2.1.2.2.2,lI a.2.1.2.2.1,lF rB a.2.1.2.2.2.1,lF rB a.2.1.2.2.2.2,lI a.2.2.1,lB (!a.1)]),(2,.bx 3 [lI p1]),(1,.bx 275 [lP 0 0])],3⟩ ⟨O.ld y7h Z R (.B R) R R,O.ld y7h Z R (.B R) R R,O.nc .B Z R R,O.faP y8T Z R R,O.ld nag4 Z R (.B R) R R,O.kn (O.mv Z R R) d,O.ld y7h (Gu.mk R R) R (.B R) R R,O.nc .B (Gu.mk R R) R R,O.faP ybP (Gu.mk R R) R R,O.ld nag3 (Gu.mk R R) R (.B R) R R,O.ca (r':= .b a.1) [0] [(0,.bx 201 (lx201 a.2))] none (y9t n) cf186 R R (Gu.mk R R) R R R R ⟨⟨_,R,I4⟩,trivial⟩ I3 R,O.not (Gu.mk R R) R R,O.pkF Z R R R R,O.nc .B Z R R,O.faP y8T Z R R,O.st nag4.sz Z R R R R R,trivial⟩ (by kernel_rfl) R ?_;exact(g _ hm).sub [(1,2),(2,1)] R
def y7j(b:List Int)(a:Int×(BenT×Int×Bool)):Option ((Int×(BenT×Int×Bool))⊕(BenT×Int×Bool)):=
 if decide (a.1<(b.length:Int)) then
  (idx b a.1).bind fun d=>
  (y6F a.2 d).bind fun c=>
  some (.inl (W (a.1+1),c))
 else
  some (.inr a.2)
def y7k(p1:List StpT)(a:Int×(BenT×Int×Bool)):Option ((Int×(BenT×Int×Bool))⊕(Unit⊕(Int×Int))):=
 if decide (a.1<(p1.length:Int)) then
  (idx p1 a.1).bind fun c=>
  (y2v c).bind fun d=>
  (iter (y7j d) (0,a.2)).bind fun b=>
  if b.2.2 then
   some (.inr (.inr ((1,a.1))))
  else
   if c.2.2.2.2.2.2 then
    some (.inr (.inr ((2,a.1))))
   else
    if(c.2.2.2.2.2.1 != b.2.1) then
     some (.inr (.inr ((3,a.1))))
    else
     some (.inl (W (a.1+1),b))
 else
  some (.inr (.inl ()))
def y5J(p0:PbT)(p1:List StpT):Option (Int×Int×Bool×Int):=
 (y1h p0).bind fun c=>
 if(c != 0) then
  some (0,0,false,c)
 else
  (y4w p1).bind fun d=>
  (y6v d (y5r p0)).bind fun e=>
  if e then
   some (0,0,false,9)
  else
   (iter (y7k p1) (0,(p0,((0,0,0,([]:List Bool),([]:List (Int×Int))),([]:List Int),([]:List Int),0),0,([]:List Bool),([]:List Bool)),0,false)).bind fun b=>
   match b with
   | .inl f=>
    some (0,0,false,0)
   | .inr (a)=>
    some (a.2,a.1,true,0)
theorem y7u{p0:PbT}{p1:List StpT}{r:Int×Int×Bool×Int}(hm:y5J p0 p1=some r):
    F0 49 [.a (lx37 p0),.f rE100 p1] [] (.tp [.i r.1,.i r.2.1,.b r.2.2.1,.i r.2.2.2]) []:=by
  unfold y5J at hm;refine Fw.mk2 Tryz.func49 Tryz.ntmps49 R (fun C=>?_) R;refine .sr (.bo 0 R (.sa R (.sa R (.sa R (.an R (.seq (.sr (.op (O.lg (l':=(lx37 p0)) ag37 Z R (.B R) R R R) R (bS hm fun W L hm=> .c0 (y8p L) cf62 R (.an R (.sr (.mv R (.bi R (.ns ?_))))))))))))));refine .cc hm R (fun hm=>?_) fun hm=>?_
  ·refine .sr (.mv R (.sa R (.sa R (.sa R (.an R (.ret (.seqR ?_)))))));cases hm;exact .rr [] Tryz.results49 (.tmp R (.tmp R (.tmp R (.tmp R .nil)))) R I3 trivial
  ·refine .skip (.seqN (.seq (.sr (.mv R (bS hm fun U M hm=> .op (O.ca (r':= .h 1) [1] [(0,ROW qI 3 U)] (some 2) (y7s M) cf53 R R Z R R R R ⟨⟨_,R,I4⟩,trivial⟩ I3 R) R (.fz 0 [2] [] R R fB R R (.op (O.mf (args:=(fun (x:Int)=> [.i x])) (res:=(fun (r:Bool)=> .b r)) (m:=(y5r p0)) cf122 (fun x r h=>y9h h) (fun _=>R) R Z R R) R (bS hm fun X N hm=> .op (O.caZ (y9g N) cf106 R R Z R ⟨⟨R,.hr R,trivial⟩,⟨R,LnL.rf⟩,trivial⟩ (fun _ _ _ _ _ h=>h) R) R (.ns ?_)))))))));refine .cc hm R (fun hm=>?_) fun hm=>?_
   ·refine .sr (.sa R (.sa R (.sa R (.an R (.ret (.seqR ?_))))));cases hm;exact .rr [] Tryz.results49 (.tmp R (.tmp R (.tmp R (.tmp R .nil)))) R I3 trivial
   ·refine .skip (.seqN (.sr (.op (O.lg (l':=(lx37 p0)) ag37 Z R .Q R R R) R (.op (O.bu (l:=[lF qI p0.1.1,lI p0.1.2.1,lF qI p0.1.2.2.1,lF qT p0.1.2.2.2,lF qI p0.2.1.1,lI p0.2.1.2.1,lF qI p0.2.1.2.2.1,lF qT p0.2.1.2.2.2,lF qI p0.2.2,lI 0,lI 0,lI 0,lN,lN,lN,lN,lI 0,lI 0,lN,lN]) pl199 R Z R R R) R (.op (O.bu (l:=[lF qI p0.1.1,lI p0.1.2.1,lF qI p0.1.2.2.1,lF qT p0.1.2.2.2,lF qI p0.2.1.1,lI p0.2.1.2.1,lF qI p0.2.1.2.2.1,lF qT p0.2.1.2.2.2,lF qI p0.2.2,lI 0,lI 0,lI 0,lN,lN,lN,lN,lI 0,lI 0,lN,lN,lI 0,lB false]) pl201 R Z R R R) R (.al 2 zz201 R (.st ag201.sz R (.ns (.seq (.sr (.mv R (.ln sl91 R (.mv R (.ns (.block (bS hm fun u v hm=>?_))))))))))))))));refine .cutU (z:= .exit 0) (fun t=> .inl t=u) (fun (t:Unit)=>⟨[],[],0⟩) ?_ fun J=>?_
    · rintro t rfl;dsimp only at hm;refine .blkE (.seqN (.sr (.sa R (.sa R (.sa R (.an R (.ret ?_)))))));cases hm;exact .rr [] Tryz.results49 (.tmp R (.tmp R (.tmp R (.tmp R .nil)))) R I3 trivial
    refine .cutU (z:= .ret) (fun g=> .inr (g)=u) (fun (g:Int×Int)=>⟨[(7,.i 0),(6,.b true),(5,.i g.1),(4,.i g.2)],[],0⟩) ?_ fun n=>?_
    · rintro g rfl;dsimp only at hm;refine .blkR (.seqR ?_);cases hm;exact .rr [] Tryz.results49 (.tmp R (.tmp R (.tmp R (.tmp R .nil)))) R I3 trivial
    refine .cno 2 R (.c .rf (.c .rf (.c .rf (.c .rf (.c .rf (.c .rf (.c .rf (.c .rf (.c .rf (.c .rf (.c .rf (.c .rf (.c (.nf (r:=rB)) (.c (.nf (r:=rE302)) (.c (.nf (r:=qI)) (.c (.nf (r:=qI)) (.c .rf (.c .rf (.c (.nf (r:=rB)) (.c (.nf (r:=rB)) .rf)))))))))))))))))))) R (.iter (fun (d:Int×(BenT×Int×Bool))=>⟨[(27,.i d.1),(26,.i (p1.length:Int)),(25,.f rE100 p1),(8,.q 0 0)],[(0,.bx 201 (lx201 d.2))],1⟩) v [(0,2)] R ?_);intro d S hm H e;unfold y7k at hm;refine .sr (.bi R (.ns (.seq ?_)));refine .cc hm R (fun hm=>?_) fun hm=> .exit (.seqX (.seqX ((J _ (e _ (oi hm).symm)).sub [] R)));refine .skip (.seqN (.seq (.block (.sr (.mv R (bS hm fun k F hm=> .ix sl91 F R (.op (O.lg (l':=(lx100 k)) ag100 Z R (.E lv100) R R R) R (.al 1 zz100 R (.sa R (.st ag100.sz R (.ns (.seq (.sr (.op (O.lg (l':=(lx100 k)) ag100 Z R (.B R) R R R) R (bS hm fun s y hm=> .op (O.ca (r':= .h 2) [2] [(0,ROW qI 3 s)] (some 3) (y6D y) cf123 R R Z R R R R ⟨⟨_,R,I4⟩,trivial⟩ I3 R) R (.op (O.lenH sl32 Z R R R) R (.mv R (.ns (.block (bS hm fun p w hm=>?_))))))))))))))))))));refine .cut1 (z:= .exit 2) p (fun (p:(BenT×Int×Bool))=>⟨[(9,.i d.1),(10,.q 0 0),(27,.i d.1),(26,.i (p1.length:Int)),(25,.f rE100 p1),(8,.q 1 0)],[(0,.bx 100 (lx100 k)),(1,.bx 201 (lx201 p))],2⟩) ?_ fun K=>?_
    · skip
      refine .blkE (.seqN (.block (.sr (.fa y8T R (.lb nag4 R (.an R ?_))))));refine .cc hm R (fun hm=> .sr (.mv R (.sa R (.sa R (.sa R (.an R (.ret (.blkR (.blkR (.seqR (.seqR ((n _ (e _ (oi hm).symm)).sub [] R)))))))))))) fun hm=>?_;refine .sr (.fa y8C R (.lb nag4 R (.an R ?_)));refine .cc hm R (fun hm=> .sr (.mv R (.sa R (.sa R (.sa R (.an R (.ret (.blkR (.blkR (.seqR (.seqR ((n _ (e _ (oi hm).symm)).sub [] R)))))))))))) fun hm=>?_;refine .sr (.fa yay R (.lb nag3 R (.fa ydf R (.lb nag3 R (.bi R (.an R ?_))))));exact .cc hm R (fun hm=> .sr (.mv R (.sa R (.sa R (.sa R (.an R (.ret (.blkR (.blkR (.seqR (.seqR ((n _ (e _ (oi hm).symm)).sub [] R)))))))))))) fun hm=> .skip (.blkN (.blkN (.seqN (.reg (.bi R (.mv R (.nil ((H _ (oi hm).symm).sub [(0,1)] R))))))))
    refine .iter (fun (j:Int×(BenT×Int×Bool))=>⟨[(35,.i j.1),(34,.i (s.length:Int)),(33,.h 0),(9,.i d.1),(10,.q 1 0),(27,.i d.1),(26,.i (p1.length:Int)),(25,.f rE100 p1),(8,.q 2 0)],[(0,ROW qI 3 s),(1,.bx 100 (lx100 k)),(2,.bx 201 (lx201 j.2))],3⟩) w [(0,2),(2,0)] R ?_;intro j T hm I G;unfold y7j at hm;refine .sr (.bi R (.ns (.seq ?_)));exact .cc hm R (fun hm=> .skip (.seqN (.seq (.block (.sr (bS hm fun V o hm=> .op (O.ir sl32 Z R R R o R) R (.op (O.ld nag3 Z R (.R R o lv3) R R) R (.an R (.reg (.mv R (bS hm fun P D hm=> .op (O.ca (r':= .tp []) [2] [(0,.bx 201 (lx201 P))] none (y9u D) cf124 R R Z R R R R ⟨⟨_,R,I4⟩,trivial⟩ I3 R) R (.nil (.blkN (.seqN (.reg (.bi R (.mv R (.nil ((I _ (oi hm).symm).sub [] R))))))))))))))))))) fun hm=> .exit (.seqX (.seqX ((K _ (G _ (oi hm).symm)).sub [(0,1),(1,2)] R)))
def y6j :Option Bool:=
 (y4g).bind fun n=>
 (y5a n ([(([]:List Int),([0]:List Int),2)]:List CycT)).bind fun a=>
 (y4g).bind fun o=>
 (y5J o a.1).bind fun c=>
 (y4g).bind fun p=>
 (y5a p ([(([0]:List Int),([]:List Int),2)]:List CycT)).bind fun b=>
 (y4g).bind fun q=>
 (y5J q b.1).bind fun j=>
 (if ((a.2==0)&&((a.1.length:Int)==1)) then
  (idx a.1 0).bind fun m=>
  some m.2.2.2.2.1
 else
  some false).bind fun d=>
 (if d then
  (y4w a.1).bind fun h=>
  (yG h ([0,2]:List Int)).bind fun i=>
  some i
 else
  some false).bind fun e=>
 (if ((((((e&&(c.2.2.2==0))&&c.2.2.1)&&(c.1==0))&&(c.2.1==1))&&(b.2==0))&&((b.1.length:Int)==1)) then
  (idx b.1 0).bind fun l=>
  some (l.2.2.2.1==(-1))
 else
  some false).bind fun f=>
 (if f then
  (idx b.1 0).bind fun k=>
  some ((k.2.2.1.length:Int)==0)
 else
  some false).bind fun g=>
 some ((g&&(j.2.2.2==0))&&(!j.2.2.1))
theorem ya5(hm:y6j=some r):
  F0 46 [] [] (.b r) []:=by
 unfold y6j at hm;refine Fw.mk2 Tryz.func46 Tryz.ntmps46 R (fun C=>?_) R;refine .sr (.an R (.sr (bS hm fun r1 a2 hm=> .c0 (y5X a2) cf118 R (.op (O.bsF (r:=qI) (zs:=([0]:List Int)) bs32 R R Z R R R (.c .k .n) R R R) R (.op (O.bu (l:=[lN,lF qI ([0]:List Int),lI 2]) pl114 R Z R R R) R (.op (O.bsF (r:=rE114) (zs:=([(([]:List Int),([0]:List Int),2)]:List CycT)) bs94 R R Z R R R (.c (.p .n (.p .l .k)) .n) R R R) R (bS hm fun m a3 hm=> .op (O.ca (r':= .tp [.h 0,.i m.2]) [0] [(0,ROW rE100 100 m.1)] (some 1) (y7F a3) cf57 R R Z R R R R ⟨⟨_,R,I4⟩,trivial⟩ I3 R) R (.mv R (.ex R (.ex R (.sa R (.an R (.sr (bS hm fun r3 a4 hm=> .c0 (y5X a4) cf118 R (.mv R (bS hm fun a a5 hm=> .op (O.caZ (y7u a5) cf49 R R Z R ⟨⟨R,LnL.rf⟩,⟨R,.hr R,trivial⟩,trivial⟩ (fun _ _ _ _ _ h=>h) R) R (.mv R (.ex R (.ex R (.ex R (.ex R (.sa R (.sa R (.sa R (.an R (.seq ?_))))))))))))))))))))))))));refine .reg (bS hm fun r5 a6 hm=> .c0 (y5X a6) cf118 R (.op (O.bsF (r:=qI) (zs:=([0]:List Int)) bs32 R R Z R R R (.c .k .n) R R R) R (.op (O.bu (l:=[lF qI ([0]:List Int),lN,lI 2]) pl114 R Z R R R) R (.op (O.bsF (r:=rE114) (zs:=([(([0]:List Int),([]:List Int),2)]:List CycT)) bs94 R R Z R R R (.c (.p .l (.p .n .k)) .n) R R R) R (bS hm fun f a7 hm=> .op (O.ca (r':= .tp [.h 1,.i f.2]) [1] [(0,ROW rE100 100 f.1)] (some 2) (y7F a7) cf57 R R Z R R R R ⟨⟨_,R,I4⟩,trivial⟩ I3 R) R (.mv R (.ex R (.ex R (.sa R (.an R (.sr (bS hm fun r7 a8 hm=> .c0 (y5X a8) cf118 R (.mv R (bS hm fun e a9 hm=> .op (O.caZ (y7u a9) cf49 R R Z R ⟨⟨R,LnL.rf⟩,⟨R,.hr R,trivial⟩,trivial⟩ (fun _ _ _ _ _ h=>h) R) R (.mv R (.ex R (.ex R (.ex R (.ex R (.sa R (.sa R (.sa R (.an R (.sr (.mv R (.bi R (.mv R ?_)))))))))))))))))))))))))));refine .cut 4 (fun (Y:Bool)=>((m.2==0)&&((m.1.length:Int)==1))=Y) (fun Y=>⟨[(51,.b Y),(12,.i e.2.2.2),(11,.b e.2.2.1),(8,.i f.2),(7,.h 1),(6,.i a.2.2.2),(5,.b a.2.2.1),(4,.i a.2.1),(3,.i a.1),(1,.h 0)],[(1,ROW rE100 100 f.1),(0,ROW rE100 100 m.1)],2⟩) ?_ ?_
 ·rintro _ rfl;refine .mv R (bS hm fun a0 eb11 hm=>?_);refine .cut 5 (fun (t:Bool)=>a0=t) (fun t=>⟨[(57,.b t),(12,.i e.2.2.2),(11,.b e.2.2.1),(8,.i f.2),(7,.h 1),(6,.i a.2.2.2),(5,.b a.2.2.1),(4,.i a.2.1),(3,.i a.1),(1,.h 0)],[(1,ROW rE100 100 f.1),(0,ROW rE100 100 m.1)],2⟩) ?_ ?_
  ·rintro _ rfl;refine .mv R (bS hm fun g eb14 hm=>?_);refine .cut 5 (fun (u:Bool)=>g=u) (fun u=>⟨[(63,.b u),(12,.i e.2.2.2),(11,.b e.2.2.1),(8,.i f.2),(7,.h 1),(6,.i a.2.2.2),(5,.b a.2.2.1),(4,.i a.2.1),(3,.i a.1)],[(1,ROW rE100 100 f.1)],3⟩) ?_ ?_
   ·rintro _ rfl;refine .mv R ?_;refine .cut 3 (fun (v:Bool)=>(g&&(a.2.2.2==0))=v) (fun v=>⟨[(67,.b v),(12,.i e.2.2.2),(11,.b e.2.2.1),(8,.i f.2),(7,.h 1),(5,.b a.2.2.1),(4,.i a.2.1),(3,.i a.1)],[(1,ROW rE100 100 f.1)],3⟩) ?_ ?_
    ·rintro _ rfl;refine .mv R ?_;refine .cut 2 (fun (w:Bool)=>((g&&(a.2.2.2==0))&&a.2.2.1)=w) (fun w=>⟨[(70,.b w),(12,.i e.2.2.2),(11,.b e.2.2.1),(8,.i f.2),(7,.h 1),(4,.i a.2.1),(3,.i a.1)],[(1,ROW rE100 100 f.1)],3⟩) ?_ ?_
     ·rintro _ rfl;refine .mv R ?_;refine .cut 3 (fun (x:Bool)=>(((g&&(a.2.2.2==0))&&a.2.2.1)&&(a.1==0))=x) (fun x=>⟨[(74,.b x),(12,.i e.2.2.2),(11,.b e.2.2.1),(8,.i f.2),(7,.h 1),(4,.i a.2.1)],[(1,ROW rE100 100 f.1)],3⟩) ?_ ?_
      ·rintro _ rfl;refine .mv R ?_;refine .cut 3 (fun (y:Bool)=>((((g&&(a.2.2.2==0))&&a.2.2.1)&&(a.1==0))&&(a.2.1==1))=y) (fun y=>⟨[(78,.b y),(12,.i e.2.2.2),(11,.b e.2.2.1),(8,.i f.2),(7,.h 1)],[(1,ROW rE100 100 f.1)],3⟩) ?_ ?_
       ·rintro _ rfl;refine .mv R ?_;refine .cut 3 (fun (z:Bool)=>(((((g&&(a.2.2.2==0))&&a.2.2.1)&&(a.1==0))&&(a.2.1==1))&&(f.2==0))=z) (fun z=>⟨[(82,.b z),(12,.i e.2.2.2),(11,.b e.2.2.1),(7,.h 1)],[(1,ROW rE100 100 f.1)],3⟩) ?_ ?_
        ·rintro _ rfl;refine .mv R ?_;refine .cut 4 (fun (B:Bool)=>((((((g&&(a.2.2.2==0))&&a.2.2.1)&&(a.1==0))&&(a.2.1==1))&&(f.2==0))&&((f.1.length:Int)==1))=B) (fun B=>⟨[(87,.b B),(12,.i e.2.2.2),(11,.b e.2.2.1),(7,.h 1)],[(1,ROW rE100 100 f.1)],3⟩) ?_ ?_
         ·rintro _ rfl;refine .mv R (bS hm fun a1 eb29 hm=>?_);refine .cut 6 (fun (D:Bool)=>a1=D) (fun D=>⟨[(94,.b D),(12,.i e.2.2.2),(11,.b e.2.2.1),(7,.h 1)],[(1,ROW rE100 100 f.1)],3⟩) ?_ ?_
          ·rintro _ rfl;refine .mv R (bS hm fun j eb32 hm=>?_);refine .cut 7 (fun (E:Bool)=>j=E) (fun E=>⟨[(102,.b E),(12,.i e.2.2.2),(11,.b e.2.2.1)],[],3⟩) ?_ ?_
           ·rintro _ rfl;refine .mv R ?_;refine .cut 3 (fun (F:Bool)=>(j&&(e.2.2.2==0))=F) (fun F=>⟨[(106,.b F),(11,.b e.2.2.1)],[],3⟩) ?_ ?_
            ·rintro _ rfl;refine .mv R ?_;refine .cut 3 (fun (G:Bool)=>((j&&(e.2.2.2==0))&&(!e.2.2.1))=G) (fun G=>⟨[(110,.b G)],[],3⟩) ?_ ?_
             ·rintro _ rfl;refine .an R (.ret ?_);cases hm;exact .rr [] Tryz.results46 (.tmp R .nil) R I3 trivial
             ·intro V;rcases Bool.eq_false_or_eq_true (j&&(e.2.2.2==0)) with hc|hc
              ·refine .know (d:=107) R hc ?_;exact .op (O.mv (Gu.mk R R) R R) R (.op (O.not (Gu.mk R R) R R) R (.op (O.pkT Z R R R R) R ((V (!e.2.2.1) (andT hc).symm).sub [] R)))
              ·refine .know (d:=107) R hc ?_;exact .sk R (.sk R (.op (O.pkF Z R R R R) R ((V false (andF hc).symm).sub [] R)))
            ·intro U;rcases Bool.eq_false_or_eq_true j with hc|hc
             ·refine .know (d:=103) R hc ?_;exact .op (O.mv (Gu.mk R R) R R) R (.op (O.bi (Gu.mk R R) R R R R) R (.op (O.pkT Z R R R R) R ((U (e.2.2.2==0) (andT hc).symm).sub [] R)))
             ·refine .know (d:=103) R hc ?_;exact .sk R (.sk R (.op (O.pkF Z R R R R) R ((U false (andF hc).symm).sub [] R)))
           ·intro T;rcases ifS eb32 with ⟨hc,hm⟩|⟨hc,hm⟩
            ·refine .know (d:=95) R hc ?_;exact .op (O.mv (Gu.mk R R) R R) R (bS hm fun b2 o hm=> .op (O.ir sl91 (Gu.mk R R) R R R o R) R (.op (O.faR y8B (Gu.mk R R) R R) R (.op (O.ld nag32 (Gu.mk R R) R (.R R o lv100) R R) R (.op (O.len sl32 (Gu.mk R R) R R) R (.op (O.bi (Gu.mk R R) R R R R) R (.op (O.pkT Z R R R R) R ((T ((b2.2.2.1.length:Int)==0) (oi hm).symm).sub [] R)))))))
            ·refine .know (d:=95) R hc ?_;exact .sk R (.sk R (.sk R (.sk R (.sk R (.sk R (.op (O.pkF Z R R R R) R ((T false (oi hm).symm).sub [] R)))))))
          ·intro S;rcases ifS eb29 with ⟨hc,hm⟩|⟨hc,hm⟩
           ·refine .know (d:=88) R hc ?_;exact .op (O.mv (Gu.mk R R) R R) R (bS hm fun b3 q hm=> .op (O.ir sl91 (Gu.mk R R) R R R q R) R (.op (O.faR y5f (Gu.mk R R) R R) R (.op (O.ld nag3 (Gu.mk R R) R (.R R q lv100) R R) R (.op (O.bi (Gu.mk R R) R R R R) R (.op (O.pkT Z R R R R) R ((S (b3.2.2.2.1==(-1)) (oi hm).symm).sub [] R))))))
           ·refine .know (d:=88) R hc ?_;exact .sk R (.sk R (.sk R (.sk R (.sk R (.op (O.pkF Z R R R R) R ((S false (oi hm).symm).sub [] R))))))
         ·intro Q;rcases Bool.eq_false_or_eq_true (((((g&&(a.2.2.2==0))&&a.2.2.1)&&(a.1==0))&&(a.2.1==1))&&(f.2==0)) with hc|hc
          ·refine .know (d:=83) R hc ?_;exact .op (O.mv (Gu.mk R R) R R) R (.op (O.lenH sl91 (Gu.mk R R) R R R) R (.op (O.bi (Gu.mk R R) R R R R) R (.op (O.pkT Z R R R R) R ((Q ((f.1.length:Int)==1) (andT hc).symm).sub [] R))))
          ·refine .know (d:=83) R hc ?_;exact .sk R (.sk R (.sk R (.op (O.pkF Z R R R R) R ((Q false (andF hc).symm).sub [] R))))
        ·intro P;rcases Bool.eq_false_or_eq_true ((((g&&(a.2.2.2==0))&&a.2.2.1)&&(a.1==0))&&(a.2.1==1)) with hc|hc
         ·refine .know (d:=79) R hc ?_;exact .op (O.mv (Gu.mk R R) R R) R (.op (O.bi (Gu.mk R R) R R R R) R (.op (O.pkT Z R R R R) R ((P (f.2==0) (andT hc).symm).sub [] R)))
         ·refine .know (d:=79) R hc ?_;exact .sk R (.sk R (.op (O.pkF Z R R R R) R ((P false (andF hc).symm).sub [] R)))
       ·intro N;rcases Bool.eq_false_or_eq_true (((g&&(a.2.2.2==0))&&a.2.2.1)&&(a.1==0)) with hc|hc
        ·refine .know (d:=75) R hc ?_;exact .op (O.mv (Gu.mk R R) R R) R (.op (O.bi (Gu.mk R R) R R R R) R (.op (O.pkT Z R R R R) R ((N (a.2.1==1) (andT hc).symm).sub [] R)))
        ·refine .know (d:=75) R hc ?_;exact .sk R (.sk R (.op (O.pkF Z R R R R) R ((N false (andF hc).symm).sub [] R)))
      ·intro M;rcases Bool.eq_false_or_eq_true ((g&&(a.2.2.2==0))&&a.2.2.1) with hc|hc
       ·refine .know (d:=71) R hc ?_;exact .op (O.mv (Gu.mk R R) R R) R (.op (O.bi (Gu.mk R R) R R R R) R (.op (O.pkT Z R R R R) R ((M (a.1==0) (andT hc).symm).sub [] R)))
       ·refine .know (d:=71) R hc ?_;exact .sk R (.sk R (.op (O.pkF Z R R R R) R ((M false (andF hc).symm).sub [] R)))
     ·intro L;rcases Bool.eq_false_or_eq_true (g&&(a.2.2.2==0)) with hc|hc
      ·refine .know (d:=68) R hc ?_;exact .op (O.mv (Gu.mk R R) R R) R (.op (O.pkT Z R R R R) R ((L a.2.2.1 (andT hc).symm).sub [] R))
      ·refine .know (d:=68) R hc ?_;exact .sk R (.op (O.pkF Z R R R R) R ((L false (andF hc).symm).sub [] R))
    ·intro K;rcases Bool.eq_false_or_eq_true g with hc|hc
     ·refine .know (d:=64) R hc ?_;exact .op (O.mv (Gu.mk R R) R R) R (.op (O.bi (Gu.mk R R) R R R R) R (.op (O.pkT Z R R R R) R ((K (a.2.2.2==0) (andT hc).symm).sub [] R)))
     ·refine .know (d:=64) R hc ?_;exact .sk R (.sk R (.op (O.pkF Z R R R R) R ((K false (andF hc).symm).sub [] R)))
   ·intro J;rcases ifS eb14 with ⟨hc,hm⟩|⟨hc,hm⟩
    ·refine .know (d:=58) R hc ?_;exact .op (O.mv (Gu.mk R R) R R) R (bS hm fun b0 W hm=> .op (O.caY (r':= .h 2) [2] [(0,ROW qI 3 b0)] (some 3) (y7s W) cf53 R R (Gu.mk R R) R R ⟨⟨R,.hr R,trivial⟩,trivial⟩ R ⟨.row flr3,trivial⟩ (fun _ _ _ _ h=>h) ⟨⟨_,R,I4⟩,trivial⟩ I3 R) R (.op (O.bsF (r:=qI) (zs:=([0,2]:List Int)) bs32 R R (Gu.mk R R) R R R (.c .k (.c .k .n)) R R R) R (bS hm fun b1 X hm=> .op (O.caZ (y3m X) cf59 R R (Gu.mk R R) R ⟨⟨R,.hr R,trivial⟩,⟨R,LnL.rf⟩,trivial⟩ (fun _ _ _ _ _ h=>h) R) R (.op (O.pkT Z R R R R) R ((J b1 (oi hm).symm).sub [] R)))))
    ·refine .know (d:=58) R hc ?_;exact .sk R (.sk R (.sk R (.sk R (.op (O.pkF Z R R R R) R ((J false (oi hm).symm).sub [] R)))))
  ·intro I;rcases ifS eb11 with ⟨hc,hm⟩|⟨hc,hm⟩
   ·refine .know (d:=52) R hc ?_;exact .op (O.mv (Gu.mk R R) R R) R (bS hm fun b4 s hm=> .op (O.ir sl91 (Gu.mk R R) R R R s R) R (.op (O.faR y6K (Gu.mk R R) R R) R (.op (O.ld nag4 (Gu.mk R R) R (.R R s lv100) R R) R (.op (O.pkT Z R R R R) R ((I b4.2.2.2.2.1 (oi hm).symm).sub [] R)))))
   ·refine .know (d:=52) R hc ?_;exact .sk R (.sk R (.sk R (.sk R (.op (O.pkF Z R R R R) R ((I false (oi hm).symm).sub [] R)))))
 ·intro H;rcases Bool.eq_false_or_eq_true (m.2==0) with hc|hc
  ·refine .know (d:=47) R hc ?_;exact .op (O.mv (Gu.mk R R) R R) R (.op (O.lenH sl91 (Gu.mk R R) R R R) R (.op (O.bi (Gu.mk R R) R R R R) R (.op (O.pkT Z R R R R) R ((H ((m.1.length:Int)==1) (andT hc).symm).sub [] R))))
  ·refine .know (d:=47) R hc ?_;exact .sk R (.sk R (.sk R (.op (O.pkF Z R R R R) R ((H false (andF hc).symm).sub [] R))))
def y3H(p0:((Int×y1L)×(Int×y1L)×Int)×Bool):Option PbT:=
 (y5x p0.1 p0.2).bind fun a=>
 some a
theorem y9i{p0:((Int×y1L)×(Int×y1L)×Int)×Bool}{r:PbT}(hm:y3H p0=some r):
  F0 47 [.a (lx84 p0)] [] (.g [lF qI r.1.1,lI r.1.2.1,lF qI r.1.2.2.1,lF qT r.1.2.2.2,lH 0,lI r.2.1.2.1,lH 1,lH 2,lH 3]) [ROW qI 3 r.2.1.1,ROW qI 3 r.2.1.2.2.1,ROW qT 124 r.2.1.2.2.2,ROW qI 3 r.2.2]:=by
 unfold y3H at hm;refine Fw.mk2 Tryz.func47 Tryz.ntmps47 R (fun C=>?_) R;refine .sr (.bo 0 R (.al 1 zz37 R (.nr (.fa yiS R (.op (O.lg (l':=(lx30 p0.1)) ag30 Z R (.B R) R R R) R (.fa yiT R (.lb nag4 R (bS hm fun b c hm=> .op (O.ca (r':= .g [lF qI b.1.1,lI b.1.2.1,lF qI b.1.2.2.1,lF qT b.1.2.2.2,lH 2,lI b.2.1.2.1,lH 3,lH 4,lH 5]) [2,3,4,5] [(0,ROW qI 3 b.2.1.1),(1,ROW qI 3 b.2.1.2.2.1),(2,ROW qT 124 b.2.1.2.2.2),(3,ROW qI 3 b.2.2)] (some 6) (yad c) cf16 R R Z R R R R ⟨⟨_,R,I4⟩,⟨_,R,I4⟩,⟨_,R,I4⟩,⟨_,R,I4⟩,trivial⟩ I3 R) R (.st ag37.sz R (.ns (.ret ?_)))))))))));cases hm;exact .rr [2,3,4,5] Tryz.results47 (.cell R R ag37 R .nil) R I3 ⟨⟨_,R,I4⟩,⟨_,R,I4⟩,⟨_,R,I4⟩,⟨_,R,I4⟩,trivial⟩
def y3C(p0:List Int)(p1:Int)(a:Int):Option (Int⊕(Unit⊕Unit)):=
 if decide (a<(p0.length:Int)) then
  (idx p0 a).bind fun b=>
  if(b==p1) then
   some (.inr (.inr (())))
  else
   some (.inl (W (a+1)))
 else
  some (.inr (.inl ()))
def y1l(p0:List Int)(p1:Int):Option Bool:=
 (iter (y3C p0 p1) 0).bind fun a=>
 match a with
 | .inl b=>
  some false
 | .inr (c)=>
  some true
theorem y3P{p0:List Int}(hm:y1l p0 p1=some r):
  F0 54 [.f qI p0,.i p1] [] (.b r) []:=by
 unfold y1l at hm;refine Fw.mk2 Tryz.func54 Tryz.ntmps54 R (fun C=>?_) R;refine .sr (.an R (.seq (.sr (.an R (.block (bS hm fun k g hm=>?_))))));refine .cutU (z:= .exit 0) (fun d=> .inl d=k) (fun (d:Unit)=>⟨[],[],0⟩) ?_ fun K6=>?_
 ·rintro d rfl;dsimp only at hm;refine .blkE (.seqN (.sr (.an R (.ret ?_))));cases hm;exact .rr [] Tryz.results54 (.tmp R .nil) R I3 trivial
 refine .cutU (z:= .ret) (fun e=> .inr (e)=k) (fun (e:Unit)=>⟨[(4,.b true)],[],0⟩) ?_ fun K8=>?_
 ·rintro e rfl;dsimp only at hm;refine .blkR (.seqR ?_);cases hm;exact .rr [] Tryz.results54 (.tmp R .nil) R I3 trivial
 refine .iter (fun (c:Int)=>⟨[(5,.i c),(0,.f qI p0),(1,.i p1)],[],0⟩) g [] R ?_;intro c l hm j a;unfold y3C at hm;refine .seq (.sr (.mv R (.mv R (.ln sl32 R (.bi R (.ns ?_))))));refine .cc hm R (fun hm=>?_) fun hm=> .exit (.seqX (.seqX ((K6 _ (a _ (oi hm).symm)).sub [] R)));refine .skip (.seqN (.seq (.block (.sr (.mv R (.mv R (bS hm fun m h hm=> .ix sl32 h R (.le nag3 lv3 R (.mv R (.bi R (.ns ?_)))))))))));exact .cc hm R (fun hm=> .sr (.an R (.ret (.blkR (.seqR (.seqR ((K8 _ (a _ (oi hm).symm)).sub [] R))))))) fun hm=> .skip (.blkN (.seqN (.reg (.mv R (.bi R (.sa R (.nil ((j _ (oi hm).symm).sub [] R))))))))
def y2b(a:Int×List Int)(b:List Int):Option ((Int×List Int)⊕(List Int)):=
 some (.inl (W (a.1+1),b))
def y2Z(p0:PbT)(a:Int×List Int):Option ((Int×List Int)⊕(List Int)):=
 if decide (a.1<(p0.2.1.1.length:Int)) then
  (idx p0.2.1.1 a.1).bind fun c=>
  (y1l p0.2.2 c).bind fun b=>
  if(!b) then
   (idx p0.2.1.1 a.1).bind fun d=>
   (app a.2 ([d]:List Int)).bind fun e=>
   y2b a e
  else
   y2b a a.2
 else
  some (.inr a.2)
def y2R(p0:PbT):Option (List Int):=
 (iter (y2Z p0) (0,([]:List Int))).bind fun a=>
 some a
theorem y7l{p0:PbT}{r:List Int}(hm:y2R p0=some r):
  F0 121 [.a (lx37 p0)] [] (.h 0) [ROW qI 3 r]:=by
 unfold y2R at hm;refine Fw.mk2 Tryz.func121 Tryz.ntmps121 R (fun C=>?_) R;refine .sr (.bo 0 R (.an R (.sr (.an R (.seq (.sr (.an R (.block (bS hm fun g l hm=>?_)))))))));refine .cut1 (z:= .exit 0) g (fun (g:List Int)=>⟨[(3,.h 0)],[(0,ROW qI 3 g)],1⟩) ?_ fun v=>?_
 ·skip
  refine .blkE (.seqN (.sr (.mv R (.an R (.ret ?_)))));cases hm;exact .rr [0] Tryz.results121 (.tmp R .nil) R I3 ⟨⟨_,R,I4⟩,trivial⟩
 refine .nlg qI 3 3 0 R R (.iter (fun (d:Int×List Int)=>⟨[(4,.i d.1),(3,.h 0),(1,.q 1 0)],[(0,ROW qI 3 d.2),(1,.bx 37 (lx37 p0))],2⟩) l [(0,1),(1,0)] R ?_);intro d j hm u t;unfold y2Z at hm;refine .seq (.sr (.mv R (.fa y4K R (.fa yH R (.lb nag32 R (.ln sl32 R (.bi R (.ns ?_))))))));refine .cc hm R (fun hm=>?_) fun hm=> .exit (.seqX (.seqX ((v _ (t _ (oi hm).symm)).sub [] R)));refine .skip (.seqN ?_);refine .join1 (fun (e:List Int)=>y2b d e=some j) (fun e=>⟨[(3,.h 0),(4,.i d.1),(1,.q 1 0)],[(0,ROW qI 3 e),(1,.bx 37 (lx37 p0))],2⟩) ?_ ?_
 ·intro e hm;unfold y2b at hm;exact .reg (.mv R (.bi R (.sa R (.nil ((u _ (oi hm).symm).sub [] R)))))
 ·intro f;refine .block (.seq ?_);refine .sub (τ:=⟨[(4,.i d.1),(3,.h 0),(1,.q 1 0)],[(0,ROW qI 3 d.2),(1,.bx 37 (lx37 p0))],2⟩) ?_ [] R;refine bS hm fun y o hm=>bS hm fun w m hm=>?_;refine .drw [(2,[]),(2,[oT]),(2,[]),(2,[oF,oF,oT]),(2,[oF,oF,oT,oT]),(2,[]),(2,fA 2 (tT 4)),(2,fA 2 (tT 5)),(2,tT 8),(2,tT 9)] [_,_,_,_,_,_,_,_,_,_] ⟨[(22,.b (!w)),(4,.i d.1),(3,.h 0),(1,.q 1 0)],[(0,ROW qI 3 d.2),(1,.bx 37 (lx37 p0))],2⟩ ⟨O.faP y8Z Z R R,O.ld nag32 Z R (.B R) R R,O.faP y4K Z R R,O.faP yH Z R R,O.ld nag32 Z R (.B R) R R,O.mv Z R R,O.ix sl32 Z R R o R,O.ld nag3 Z R (.E lv3) R R,O.ca0 (y3P m) cf54 R R Z R R R,O.not Z R R,trivial⟩ (by kernel_rfl) R ?_;exact .seqN (.cc hm R (fun hm=> .reg (.mv R (.fa y4K R (.fa yH R (.lb nag32 R (.mv R (bS hm fun x p hm=> .ix sl32 p R (.le nag3 lv3 R (.op (O.bsF (r:=qI) (zs:=([x]:List Int)) bs32 R R Z R R R (.c .k .n) R R R) R (bS hm fun D s hm=> .op (O.ap 2 Tryz.underlying32 el3 R R Z R R (.fr R) s R) R (.sa R (.nil (.blkN ((f _ hm).sub [(0,2)] R)))))))))))))) fun hm=> .skip (.blkN ((f _ hm).sub [] R)))
def y2S(p0:PbT):Option Int:=
 (y7E p0).bind fun a=>
 if(a != 0) then
  some a
 else
  if(p0.1.2.1==0) then
   some 12
  else
   (y2R p0).bind fun b=>
   (yU p0.2.1 b).bind fun c=>
   some c.2
theorem ya6{p0:PbT}{r:Int}(hm:y2S p0=some r):
    F0 48 [.a (lx37 p0)] [] (.i r) []:=by
  unfold y2S at hm;refine Fw.mk2 Tryz.func48 Tryz.ntmps48 R (fun C=>?_) R;refine .sr (.bo 0 R (.an R (.seq (.sr (.op (O.lg (l':=(lx37 p0)) ag37 Z R (.B R) R R R) R (bS hm fun g c hm=> .c0 (yaA c) cf119 R (.an R (.sr (.mv R (.bi R (.ns ?_)))))))))));refine .cc hm R (fun hm=>?_) fun hm=>?_
  ·refine .sr (.mv R (.an R (.ret (.seqR ?_))));cases hm;exact .rr [] Tryz.results48 (.tmp R .nil) R I3 trivial
  ·refine .skip (.seqN (.seq (.sr (.fa y3k R (.fa y2T R (.lb nag3 R (.bi R (.ns ?_))))))));refine .cc hm R (fun hm=>?_) fun hm=>?_
   ·refine .sr (.an R (.ret (.seqR ?_)));cases hm;exact .rr [] Tryz.results48 (.tmp R .nil) R I3 trivial
   ·refine .skip (.seqN (.seq ?_));refine .sub (τ:=⟨[(1,.q 0 0)],[(0,.bx 37 (lx37 p0))],1⟩) ?_ [] R;refine bS hm fun f d hm=>bS hm fun b e hm=>?_;refine .drz 7 [(8,6)] [(1,[],[],[]),(1,[oT],[],[]),(1,[],[],[]),(1,[oF,oF,oT],[],[]),(2,[oT,oT,oT,oT],[],[]),(6,[oT,oT,oT,oT,oT],[],[]),(6,[oT,oT,oT,oT,oT,oT],[],[]),(6,[oT,oT,oT,oT,oT,oT],[],[]),(1,[],[],[]),(7,[oT,oT,oT,oT,oT,oT,oT,oF,oT],[],[]),(7,[oT,oT,oT,oT,oT,oT,oT,oT,oT,oT],[],[(8,6)])] [_,_,_,_,_,_,_,_,_,_,_] ⟨[(5,.i b.2)],[],7⟩ ⟨O.faP y4K Z R R,O.lg (l':=(lx35 p0.2.1)) ag35 Z R (.B R) R R R,O.lg (l':=(lx37 p0)) ag37 Z R (.B R) R R R,O.ca (r':= .h 1) [1] [(0,ROW qI 3 f)] (some 2) (y7l d) cf121 R R Z R R R R ⟨⟨_,R,I4⟩,trivial⟩ I3 R,O.caY (r':= .tp [.a [lI b.1.1.1,lI b.1.1.2.1,lI b.1.1.2.2.1,lH 2,lH 3,lH 4,lH 5,lI b.1.2.2.2],.i b.2]) [2,3,4,5] [(0,ROW rB 4 b.1.1.2.2.2.1),(1,ROW rE302 302 b.1.1.2.2.2.2),(2,ROW qI 3 b.1.2.1),(3,ROW qI 3 b.1.2.2.1)] (some 6) (y8e e) cf120 R R Z R R ⟨⟨R,LnL.rf⟩,⟨R,.hr R,trivial⟩,trivial⟩ R ⟨.row flr4,.row ygf,.row flr3,.row flr3,trivial⟩ (fun _ _ _ _ h=>h) ⟨⟨_,R,I4⟩,⟨_,R,I4⟩,⟨_,R,I4⟩,⟨_,R,I4⟩,trivial⟩ I3 R,O.mv Z R R,O.ex Z R R R,O.ex Z R R R,O.al 6 R zz193 R Z R,O.st ag193.sz Z R R R R R,O.as Z R R,trivial⟩ (by kernel_rfl) R ?_;refine .seqN (.sr (.mv R (.an R (.ret ?_))));cases hm;exact .rr [] Tryz.results48 (.tmp R .nil) R I3 trivial
def yT(a:Int×List Int)(b:List Int):Option ((Int×List Int)⊕(List Int)):=
 some (.inl (W (a.1+1),b))
def y3e(p0:PbT)(p1:Int)(p2:Bool)(a:Int×List Int):Option ((Int×List Int)⊕(List Int)):=
 if((decide (a.1<(p0.1.1.length:Int)))&&(decide ((a.2.length:Int)<3))) then
  (idx p0.1.1 a.1).bind fun b=>
  (y1l p0.2.2 b).bind fun d=>
  (if d then
   (ng a.1).bind fun _=>
   some ((IntKind.u8.wrap (((BitVec.ofInt 8 (p1.fdiv (2 ^ (min a.1.toNat 8))) &&& BitVec.ofInt 8 1).toNat:Int)))==1)
  else
   some false).bind fun c=>
  if c then
   if p2 then
    (app ([b]:List Int) a.2).bind fun e=>
    yT a e
   else
    (app a.2 ([b]:List Int)).bind fun f=>
    yT a f
  else
   yT a a.2
 else
  some (.inr a.2)
def y4l(p0:PbT)(p1:Int)(p2:Bool):Option (List Int):=
 (iter (y3e p0 p1 p2) (0,([]:List Int))).bind fun a=>
 some a
theorem y7V{p0:PbT}{p2:Bool}{r:List Int}(hm:y4l p0 p1 p2=some r):
  F0 126 [.a (lx37 p0),.o (lV (.int .u8 p1)),.b p2] [] (.h 0) [ROW qI 3 r]:=by
 unfold y4l at hm;refine Fw.mk2 Tryz.func126 Tryz.ntmps126 R (fun C=>?_) R;refine .sr (.bo 0 R (.an R (.sr (.an R (.seq (.sr (.an R (.block (bS hm fun j v hm=>?_)))))))));refine .cut1 (z:= .exit 0) j (fun (j:List Int)=>⟨[(7,.h 0)],[(0,ROW qI 3 j)],1⟩) ?_ fun F=>?_
 ·skip
  refine .blkE (.seqN (.sr (.mv R (.an R (.ret ?_)))));cases hm;exact .rr [0] Tryz.results126 (.tmp R .nil) R I3 ⟨⟨_,R,I4⟩,trivial⟩
 refine .nlg qI 3 7 0 R R (.iter (fun (e:Int×List Int)=>⟨[(8,.i e.1),(7,.h 0),(3,.q 1 0),(1,.o (lV (.int .u8 p1))),(2,.b p2)],[(0,ROW qI 3 e.2),(1,.bx 37 (lx37 p0))],2⟩) v [(0,1),(1,0)] R ?_);intro e s hm E D;unfold y3e at hm;refine .seq (.sr (.mv R (.fa y3k R (.fa yH R (.lb nag32 R (.ln sl32 R (.bi R (.mv R ?_))))))));refine .cut 4 (fun (l:Bool)=>((decide (e.1<(p0.1.1.length:Int)))&&(decide ((e.2.length:Int)<3)))=l) (fun l=>⟨[(20,.b l),(8,.i e.1),(7,.h 0),(3,.q 1 0),(1,.o (lV (.int .u8 p1))),(2,.b p2)],[(0,ROW qI 3 e.2),(1,.bx 37 (lx37 p0))],2⟩) ?_ ?_
 ·rintro _ rfl;refine .ns ?_;refine .cc hm R (fun hm=>?_) fun hm=> .exit (.seqX (.seqX ((F _ (D _ (oi hm).symm)).sub [] R)));refine .skip (.seqN ?_);refine .join1 (fun (g:List Int)=>yT e g=some s) (fun g=>⟨[(7,.h 0),(8,.i e.1),(3,.q 1 0),(1,.o (lV (.int .u8 p1))),(2,.b p2)],[(0,ROW qI 3 g),(1,.bx 37 (lx37 p0))],2⟩) ?_ ?_
  ·intro g hm;unfold yT at hm;exact .reg (.mv R (.bi R (.sa R (.nil ((E _ (oi hm).symm).sub [] R)))))
  ·intro f;refine .block (.sr (.fa y3k R (.fa yH R (.lb nag32 R (.mv R (bS hm fun p x hm=> .ix sl32 x R (.le nag3 lv3 R (.an R (.sr (.fa y8Z R (.lb nag32 R (.mv R (bS hm fun I w hm=> .c0 (y3P w) cf54 R (.mv R (bS hm fun G eb26 hm=>?_)))))))))))))));refine .cut 6 (fun (m:Bool)=>G=m) (fun m=>⟨[(39,.b m),(9,.i p),(8,.i e.1),(7,.h 0),(3,.q 1 0),(1,.o (lV (.int .u8 p1))),(2,.b p2)],[(0,ROW qI 3 e.2),(1,.bx 37 (lx37 p0))],2⟩) ?_ ?_
   ·rintro _ rfl;refine .ns ?_;refine .cc hm R (fun hm=>?_) fun hm=> .skip (.blkN ((f _ hm).sub [] R));refine .sr (.mv R (.ns ?_));exact .cc hm R (fun hm=> .reg (.mv R (.op (O.bsO (r:=qI) (zs:=([p]:List Int)) 2 R bs32 R R Z R R R (.c .k .n) R R R) R (.mv R (bS hm fun J y hm=> .op (O.ap 3 Tryz.underlying32 el3 R R Z R R (.ow R R) y R) R (.sa R (.nil (.blkN ((f _ hm).sub [(0,3)] R))))))))) fun hm=> .reg (.mv R (.mv R (.op (O.bsF (r:=qI) (zs:=([p]:List Int)) bs32 R R Z R R R (.c .k .n) R R R) R (bS hm fun K B hm=> .op (O.ap 2 Tryz.underlying32 el3 R R Z R R (.fr R) B R) R (.sa R (.nil (.blkN ((f _ hm).sub [(0,2)] R))))))))
   ·intro u;rcases ifS eb26 with ⟨hc,hm⟩|⟨hc,hm⟩
    ·refine .know (d:=33) R hc ?_;exact .op (O.mv (Gu.mk R R) R R) R (.op (O.mv (Gu.mk R R) R R) R (bS hm fun _ H hm=> .op (O.shr (Gu.mk R R) R R (ycV H) R) R (.op (O.bi (Gu.mk R R) R R R R) R (.op (O.bi (Gu.mk R R) R R R R) R (.op (O.pkT Z R R R R) R ((u ((IntKind.u8.wrap (((BitVec.ofInt 8 (p1.fdiv (2 ^ (min e.1.toNat 8))) &&& BitVec.ofInt 8 1).toNat:Int)))==1) (oi hm).symm).sub [] R))))))
    ·refine .know (d:=33) R hc ?_;exact .sk R (.sk R (.sk R (.sk R (.sk R (.op (O.pkF Z R R R R) R ((u false (oi hm).symm).sub [] R))))))
 ·intro t;rcases Bool.eq_false_or_eq_true (decide (e.1<(p0.1.1.length:Int))) with hc|hc
  ·refine .know (d:=16) R hc ?_;exact .op (O.mv (Gu.mk R R) R R) R (.op (O.lenH sl32 (Gu.mk R R) R R R) R (.op (O.bi (Gu.mk R R) R R R R) R (.op (O.pkT Z R R R R) R ((t (decide ((e.2.length:Int)<3)) (andT hc).symm).sub [] R))))
  ·refine .know (d:=16) R hc ?_;exact .sk R (.sk R (.sk R (.op (O.pkF Z R R R R) R ((t false (andF hc).symm).sub [] R))))
def y1u(a:Int×(List CycT))(c:List Int)(d:List Int)(b:Int):Option ((Int×(List CycT))⊕(List CycT)):=
 (app a.2 ([(c,d,b)]:List CycT)).bind fun e=>
 some (.inl (W (a.1+1),e))
def y1v(p1:PbT)(a:Int×(List CycT))(b:List Int)(c:List Int)(e:Int×Int×Int×Int)(d:Bool):Option ((Int×(List CycT))⊕(List CycT)):=
 if d then
  (idx p1.1.1 ((W e.2.2.2).tmod 6)).bind fun f=>
  y1u a b c f
 else
  y1u a b c (-1)
def y2C(p0:List (Int×Int×Int×Int))(p1:PbT)(a:Int×(List CycT)):Option ((Int×(List CycT))⊕(List CycT)):=
 if((decide (a.1<(p0.length:Int)))&&(decide (a.1<8))) then
  (idx p0 a.1).bind fun f=>
  (idx p0 a.1).bind fun g=>
  (y4l p1 f.1 ((g.2.2.1.tmod 2)==1)).bind fun c=>
  (idx p0 a.1).bind fun h=>
  (idx p0 a.1).bind fun i=>
  (y4l p1 h.2.1 (((IntKind.u8.wrap (i.2.2.1.tdiv 2)).tmod 2)==1)).bind fun d=>
  (idx p0 a.1).bind fun b=>
  if decide (((W b.2.2.2).tmod 6)<(p1.1.1.length:Int)) then
   (idx p1.1.1 ((W b.2.2.2).tmod 6)).bind fun j=>
   (y1l p1.2.2 j).bind fun e=>
   y1v p1 a c d b (!e)
  else
   y1v p1 a c d b false
 else
  some (.inr a.2)
def y3q(p0:List (Int×Int×Int×Int))(p1:PbT):Option (List CycT):=
 (iter (y2C p0 p1) (0,([]:List CycT))).bind fun a=>
 some a
theorem y8U{p0:List (Int×Int×Int×Int)}{p1:PbT}{r:(List CycT)}(hm:y3q p0 p1=some r):
  F0 52 [.f rE209 p0,.a (lx37 p1)] [] (.h 0) [ROW rE114 114 r]:=by
 unfold y3q at hm;refine Fw.mk2 Tryz.func52 Tryz.ntmps52 R (fun C=>?_) R;refine .sr (.bo 0 R (.an R (.sr (.an R (.seq (.sr (.an R (.block (bS hm fun y G hm=>?_)))))))));refine .cut1 (z:= .exit 0) y (fun (y:(List CycT))=>⟨[(5,.h 0)],[(0,ROW rE114 114 y)],1⟩) ?_ fun X=>?_
 ·skip
  refine .blkE (.seqN (.sr (.mv R (.an R (.ret ?_)))));cases hm;exact .rr [0] Tryz.results52 (.tmp R .nil) R I3 ⟨⟨_,R,I4⟩,trivial⟩
 refine .nlg rE114 114 5 0 R R (.iter (fun (e:Int×(List CycT))=>⟨[(6,.i e.1),(5,.h 0),(3,.q 1 0),(0,.f rE209 p0)],[(0,ROW rE114 114 e.2),(1,.bx 37 (lx37 p1))],2⟩) G [(0,1),(1,0)] R ?_);intro e u hm V U;unfold y2C at hm;refine .seq (.sr (.mv R (.mv R (.ln sl86 R (.bi R (.mv R ?_))))));refine .cut 3 (fun (D:Bool)=>((decide (e.1<(p0.length:Int)))&&(decide (e.1<8)))=D) (fun D=>⟨[(16,.b D),(6,.i e.1),(5,.h 0),(3,.q 1 0),(0,.f rE209 p0)],[(0,ROW rE114 114 e.2),(1,.bx 37 (lx37 p1))],2⟩) ?_ ?_
 ·rintro _ rfl;refine .ns ?_;refine .cc hm R (fun hm=>?_) fun hm=> .exit (.seqX (.seqX ((X _ (U _ (oi hm).symm)).sub [] R)));refine .skip (.seqN (.seq (.block (.seq ?_))));refine .sub (τ:=⟨[(6,.i e.1),(5,.h 0),(3,.q 1 0),(0,.f rE209 p0)],[(0,ROW rE114 114 e.2),(1,.bx 37 (lx37 p1))],2⟩) ?_ [] R;refine bS hm fun a0 K hm=>bS hm fun a1 L hm=>bS hm fun g H hm=>bS hm fun a2 M hm=>bS hm fun a3 N hm=>bS hm fun j I hm=>?_;refine .drz 5 [(30,4)] [(2,[],[],[]),(2,[],[],[]),(2,[],[],[]),(2,[oF,oT,oT],[],[]),(2,[oF,oT,oT,oT],[],[]),(2,[oF,oT,oT,oT,oT],[],[]),(2,[],[],[]),(2,[],[],[]),(2,[oF,oF,oF,oF,oF,oF,oT,oT],[],[]),(2,[oF,oF,oF,oF,oF,oF,oT,oT,oT],[],[]),(2,[oF,oF,oF,oF,oF,oF,oT,oT,oT,oT],[],[]),(2,[oF,oF,oF,oF,oF,oF,oT,oT,oT,oT,oT],[],[]),(2,[oF,oF,oF,oF,oF,oF,oT,oT,oT,oT,oT,oT],[],[]),(2,[oT,oT,oT,oT,oT,oT,oT,oT,oT,oT,oT,oT,oT],[],[]),(2,[],[],[]),(2,[],[],[]),(2,[],[],[]),(2,[oF,oF,oF,oF,oF,oF,oF,oF,oF,oF,oF,oF,oF,oF,oF,oT,oT],[],[]),(2,[oF,oF,oF,oF,oF,oF,oF,oF,oF,oF,oF,oF,oF,oF,oF,oT,oT,oT],[],[]),(2,[oF,oF,oF,oF,oF,oF,oF,oF,oF,oF,oF,oF,oF,oF,oF,oT,oT,oT,oT],[],[]),(2,[],[],[]),(2,[],[],[]),(2,[oF,oF,oF,oF,oF,oF,oF,oF,oF,oF,oF,oF,oF,oF,oF,oF,oF,oF,oF,oF,oT,oT],[],[]),(2,[oF,oF,oF,oF,oF,oF,oF,oF,oF,oF,oF,oF,oF,oF,oF,oF,oF,oF,oF,oF,oT,oT,oT],[],[]),(2,[oF,oF,oF,oF,oF,oF,oF,oF,oF,oF,oF,oF,oF,oF,oF,oF,oF,oF,oF,oF,oT,oT,oT,oT],[],[]),(2,[oF,oF,oF,oF,oF,oF,oF,oF,oF,oF,oF,oF,oF,oF,oF,oF,oF,oF,oF,oF,oT,oT,oT,oT,oT],[],[]),(2,[oF,oF,oF,oF,oF,oF,oF,oF,oF,oF,oF,oF,oF,oF,oF,oF,oF,oF,oF,oF,oT,oT,oT,oT,oT,oT],[],[]),(2,[oF,oF,oF,oF,oF,oF,oF,oF,oF,oF,oF,oF,oF,oF,oF,oF,oF,oF,oF,oF,oT,oT,oT,oT,oT,oT,oT],[],[]),(3,[oT,oT,oT,oT,oT,oT,oT,oT,oT,oT,oT,oT,oT,oT,oT,oT,oT,oT,oT,oT,oT,oT,oT,oT,oT,oT,oT,oT],[],[]),(4,[oT,oT,oT,oT,oT,oT,oT,oT,oT,oT,oT,oT,oT,oT,oT,oT,oT,oT,oT,oT,oT,oT,oT,oT,oT,oT,oT,oT,oT],[],[]),(2,[],[],[]),(5,[oT,oT,oT,oT,oT,oT,oT,oT,oT,oT,oT,oT,oT,oT,oT,oT,oT,oT,oT,oT,oT,oT,oT,oT,oT,oT,oT,oT,oT,oT,oT],[],[])] [_,_,_,_,_,_,_,_,_,_,_,_,_,_,_,_,_,_,_,_,_,_,_,_,_,_,_,_,_,_,_,_] ⟨[(7,.q 4 0),(6,.i e.1),(5,.h 0),(3,.q 1 0),(0,.f rE209 p0)],[(4,.bx 114 [lH 2,lH 3,lI (-1)]),(2,ROW qI 3 g),(3,ROW qI 3 j),(0,ROW rE114 114 e.2),(1,.bx 37 (lx37 p1))],5⟩ ⟨O.lg (l':=(lx37 p1)) ag37 Z R (.B R) R R R,O.mv Z R R,O.mv Z R R,O.ix sl86 Z R R K R,O.faE yii Z R R,O.ld nag5 Z R (.E lv209) R R,O.mv Z R R,O.mv Z R R,O.ix sl86 Z R R L R,O.faE yfb Z R R,O.ld nag5 Z R (.E lv209) R R,O.rem Z R R (by decide) R,O.bi Z R R R R,O.ca (r':= .h 2) [2] [(0,ROW qI 3 g)] (some 3) (y7V H) cf126 R R Z R R R R ⟨⟨_,R,I4⟩,trivial⟩ I3 R,O.lg (l':=(lx37 p1)) ag37 Z R (.B R) R R R,O.mv Z R R,O.mv Z R R,O.ix sl86 Z R R M R,O.faE yij Z R R,O.ld nag5 Z R (.E lv209) R R,O.mv Z R R,O.mv Z R R,O.ix sl86 Z R R N R,O.faE yfb Z R R,O.ld nag5 Z R (.E lv209) R R,O.quo Z R R (by decide) R,O.rem Z R R (by decide) R,O.bi Z R R R R,O.ca (r':= .h 3) [3] [(0,ROW qI 3 j)] (some 4) (y7V I) cf126 R R Z R R R R ⟨⟨_,R,I4⟩,trivial⟩ I3 R,O.bu (l:=[lH 2,lH 3,lI (-1)]) pl114 R Z R R R,O.al 4 R zz114 R Z R,O.st ag114.sz Z R R R R R,trivial⟩ (by kernel_rfl) R ?_
  refine .seqN ?_;refine .join1 (fun (m:Int)=>y1u e g j m=some u) (fun m=>⟨[(7,.q 0 0),(6,.i e.1),(5,.h 3),(3,.q 4 0),(0,.f rE209 p0)],[(0,.bx 114 [lH 1,lH 2,lI m]),(1,ROW qI 3 g),(2,ROW qI 3 j),(3,ROW rE114 114 e.2),(4,.bx 37 (lx37 p1))],5⟩) ?_ ?_
  ·intro m hm;unfold y1u at hm;exact .reg (.mv R (.op (O.lg (l':=[lH 1,lH 2,lI m]) ag114 Z R (.B R) R R R) R (.fz 1 [82] [0] R R fR R R (.fz 2 [82] [0] R R fR R R (.op (O.bsF (r:=rE114) (zs:=([(g,j,m)]:List CycT)) bs94 R R Z R R R (.c (.p .l (.p .l .k)) .n) R R R) R (bS hm fun a4 P hm=> .op (O.ap 5 Tryz.underlying94 el114 R R Z R R (.fr R) P R) R (.sa R (.nil (.blkN (.seqN (.reg (.mv R (.bi R (.sa R (.nil ((V _ (oi hm).symm).sub [(0,5),(1,4)] R))))))))))))))))
  ·intro v;refine .sr (.mv R (.mv R (bS hm fun o Q hm=> .ix sl86 Q R (.fe yik R (.le nag5 lv209 R (.op (O.cv Tryz.underlying5 Tryz.underlying3 Z R R) R (.op (O.rem Z R R (by decide) R) R (.an R ?_))))))));refine .join1 (fun (t:Bool)=>y1v p1 e g j o t=some u) (fun t=>⟨[(73,.b t),(8,.i ((W o.2.2.2).tmod 6)),(7,.q 0 0),(6,.i e.1),(5,.h 3),(3,.q 4 0),(0,.f rE209 p0)],[(0,.bx 114 [lH 1,lH 2,lI (-1)]),(1,ROW qI 3 g),(2,ROW qI 3 j),(3,ROW rE114 114 e.2),(4,.bx 37 (lx37 p1))],5⟩) ?_ ?_
   ·intro t hm;unfold y1v at hm;exact .cc hm R (fun hm=> .reg (.fa y3k R (.fa yH R (.lb nag32 R (.mv R (bS hm fun a5 S hm=> .ix sl32 S R (.le nag3 lv3 R (.fa y8c R (.st nag3.sz R (.nil ((v _ hm).sub [] R))))))))))) fun hm=> .skip ((v _ hm).sub [] R)
   ·intro w;refine .sub (τ:=⟨[(8,.i ((W o.2.2.2).tmod 6)),(7,.q 4 0),(6,.i e.1),(5,.h 0),(3,.q 1 0),(0,.f rE209 p0)],[(4,.bx 114 [lH 2,lH 3,lI (-1)]),(2,ROW qI 3 g),(3,ROW qI 3 j),(0,ROW rE114 114 e.2),(1,.bx 37 (lx37 p1))],5⟩) ?_ [] R;refine .drP 6 [(5,[]),(5,[]),(5,[oF,oT]),(5,[oF,oT,oT]),(5,fA 1 (tT 3)),(5,tT 5)] [_,_,_,_,_,_] ⟨O.mv Z R R,O.faP y3k Z R R,O.faP yH Z R R,O.ld nag32 Z R (.B R) R R,O.len sl32 Z R R,O.bi Z R R R R,trivial⟩ fun x=>?_;rcases ifS hm with ⟨s,hm⟩|⟨s,hm⟩
    ·skip
     exact bS hm fun a6 T hm=>bS hm fun Y J hm=> .drF x [(5,tT 6),(5,tT 7),(5,tT 8),(5,tT 7),(5,tA 7 (fA 2 (tT 1))),(5,tA 7 (fA 2 (tT 2))),(5,tT 7),(5,tA 7 (fA 2 (tT 4))),(5,tA 7 (fA 2 (tT 5))),(5,tT 15),(5,tT 16),(5,tT 17)] [_,_,_,_,_,_,_,_,_,_,_,_] ⟨[(73,.b (!Y)),(8,.i ((W o.2.2.2).tmod 6)),(7,.q 4 0),(6,.i e.1),(5,.h 0),(3,.q 1 0),(0,.f rE209 p0)],[(4,.bx 114 [lH 2,lH 3,lI (-1)]),(2,ROW qI 3 g),(3,ROW qI 3 j),(0,ROW rE114 114 e.2),(1,.bx 37 (lx37 p1))],5⟩ ⟨O.kn (O.mv Z R R) s,O.faP y8Z (Gu.mk R R) R R,O.ld nag32 (Gu.mk R R) R (.B R) R R,O.faP y3k (Gu.mk R R) R R,O.faP yH (Gu.mk R R) R R,O.ld nag32 (Gu.mk R R) R (.B R) R R,O.mv (Gu.mk R R) R R,O.ix sl32 (Gu.mk R R) R R T R,O.ld nag3 (Gu.mk R R) R (.E lv3) R R,O.ca0 (y3P J) cf54 R R (Gu.mk R R) R R R,O.not (Gu.mk R R) R R,O.pkT Z R R R R,trivial⟩ (by kernel_rfl) R ((w _ hm).sub [(0,4),(1,2),(2,3),(3,0),(4,1)] R)
    ·skip
     exact .drF x [(5,tT 6),(5,tT 7),(5,tT 8),(5,tT 7),(5,tA 7 (fA 2 (tT 1))),(5,tA 7 (fA 2 (tT 2))),(5,tT 7),(5,tA 7 (fA 2 (tT 4))),(5,tA 7 (fA 2 (tT 5))),(5,tT 15),(5,tT 16),(5,tT 17)] [_,_,_,_,_,_,_,_,_,_,_,_] ⟨[(73,.b false),(8,.i ((W o.2.2.2).tmod 6)),(7,.q 4 0),(6,.i e.1),(5,.h 0),(3,.q 1 0),(0,.f rE209 p0)],[(4,.bx 114 [lH 2,lH 3,lI (-1)]),(2,ROW qI 3 g),(3,ROW qI 3 j),(0,ROW rE114 114 e.2),(1,.bx 37 (lx37 p1))],5⟩ ⟨O.kn (O.mv Z R R) s,O.skip R R R R,O.skip R R R R,O.skip R R R R,O.skip R R R R,O.skip R R R R,O.skip R R R R,O.skip R R R R,O.skip R R R R,O.skip R R R R,O.skip R R R R,O.pkF Z R R R R,trivial⟩ (by kernel_rfl) R ((w _ hm).sub [(0,4),(1,2),(2,3),(3,0),(4,1)] R)
 ·intro F;rcases Bool.eq_false_or_eq_true (decide (e.1<(p0.length:Int))) with hc|hc
  ·refine .know (d:=13) R hc ?_;exact .op (O.mv (Gu.mk R R) R R) R (.op (O.bi (Gu.mk R R) R R R R) R (.op (O.pkT Z R R R R) R ((F (decide (e.1<8)) (andT hc).symm).sub [] R)))
  ·refine .know (d:=13) R hc ?_;exact .sk R (.sk R (.op (O.pkF Z R R R R) R ((F false (andF hc).symm).sub [] R)))
def yJ(a:Int×Int×Bool×List Int)(d:Int)(b:Bool)(c:List Int):Option ((Int×Int×Bool×List Int)⊕(Int×Bool×List Int)):=
 some (.inl (d,W (a.2.1+1),b,c))
def y3r(p0:PbT×Int×Int×Bool)(p1:List Int)(p2:Int)(a:Int×Int×Bool×List Int):Option ((Int×Int×Bool×List Int)⊕(Int×Bool×List Int)):=
 if decide (a.2.1<(p1.length:Int)) then
  (idx p1 a.2.1).bind fun e=>
  (yo p0.1.1 a.1 e).bind fun b=>
  if decide (b≥0) then
   (idx p1 a.2.1).bind fun f=>
   (app a.2.2.2 ([f]:List Int)).bind fun c=>
   if a.2.2.1 then
    (yo p0.1.1 b p2).bind fun d=>
    yJ a b (decide (d≥0)) c
   else
    yJ a b false c
  else
   yJ a a.1 a.2.2.1 a.2.2.2
 else
  some (.inr (a.1,a.2.2))
def y3f(p0:PbT×Int×Int×Bool)(p1:List Int)(p2:Int):Option (List Int×Bool×(PbT×Int×Int×Bool)):=
 (yo p0.1.1 p0.2.1 p2).bind fun b=>
 (iter (y3r p0 p1 p2) (p0.2.1,0,(decide (b≥0)),([]:List Int))).bind fun a=>
 some (a.2.2,a.2.1,p0.1,a.1,p0.2.2)
theorem y7v{p0:PbT×Int×Int×Bool}{p1:List Int}{p2:Int}{r:List Int×Bool×(PbT×Int×Int×Bool)}(hm:y3f p0 p1 p2=some r):
  Fw Tryz.prog 188 ⟨1,[0]⟩ [.o (lP 0 0),.f qI p1,.i p2] [.bx 206 (lx206 p0)] (.tp [.h 1,.b r.2.1]) [.bx 206 (lx206 r.2.2),ROW qI 3 r.1]:=by
 unfold y3f at hm;refine Fw.mk2 Tryz.func188 Tryz.ntmps188 R (fun C=>?_) R;refine .sr (.sa R (.an R (.seq ?_)));refine .sub (τ:=⟨[(6,.o (lN)),(0,.q 0 0),(1,.f qI p1),(2,.i p2)],[(0,.bx 206 (lx206 p0))],1⟩) ?_ [] R;refine bS hm fun N K hm=>?_;refine .drw [(1,[]),(1,[oT]),(1,[oT,oT]),(1,tT 3),(1,tT 4),(1,[]),(1,[oF,oF,oF,oF,oF,oT]),(1,[oF,oF,oF,oF,oF,oT,oT]),(1,fA 5 (tT 3)),(1,[]),(1,tT 10),(1,tT 11),(1,tT 12)] [_,_,_,_,_,_,_,_,_,_,_,_,_] ⟨[(7,.b (decide (N≥0))),(6,.o (lN)),(0,.q 0 0),(1,.f qI p1),(2,.i p2)],[(0,.bx 206 (lx206 p0))],1⟩ ⟨O.mv Z R R,O.nc .B Z R R,O.faP y6X Z R R,O.faP y3k Z R R,O.lg (l':=(lx35 p0.1.1)) ag35 Z R (.B R) R R R,O.mv Z R R,O.nc .B Z R R,O.faP y8D Z R R,O.ld nag3 Z R (.B R) R R,O.mv Z R R,O.ca0 (yE K) cf55 R R Z R R R,O.bi Z R R R R,O.as Z R R,trivial⟩ (by kernel_rfl) R ?_;refine .seqN (.seq (.sr (.an R (.block (bS hm fun d w hm=>?_)))));refine .cut1 (z:= .exit 0) d (fun (d:Int×Bool×List Int)=>⟨[(7,.b d.2.1),(6,.h 1)],[(0,.bx 206 [lF qI p0.1.1.1,lI p0.1.1.2.1,lF qI p0.1.1.2.2.1,lF qT p0.1.1.2.2.2,lF qI p0.1.2.1.1,lI p0.1.2.1.2.1,lF qI p0.1.2.1.2.2.1,lF qT p0.1.2.1.2.2.2,lF qI p0.1.2.2,lI d.1,lI p0.2.2.1,lB p0.2.2.2]),(1,ROW qI 3 d.2.2)],2⟩) ?_ fun J=>?_
 ·skip
  refine .blkE (.seqN (.sr (.mv R (.mv R (.sa R (.an R (.ret ?_)))))));cases hm;exact .rr [0,1] Tryz.results188 (.tmp R (.tmp R .nil)) R I3 ⟨⟨_,R,I4⟩,⟨_,R,I4⟩,trivial⟩
 refine .nlg qI 3 6 0 R R (.iter (fun (a:Int×Int×Bool×List Int)=>⟨[(8,.i a.2.1),(7,.b a.2.2.1),(6,.h 1),(0,.q 0 0),(1,.f qI p1),(2,.i p2)],[(0,.bx 206 [lF qI p0.1.1.1,lI p0.1.1.2.1,lF qI p0.1.1.2.2.1,lF qT p0.1.1.2.2.2,lF qI p0.1.2.1.1,lI p0.1.2.1.2.1,lF qI p0.1.2.1.2.2.1,lF qT p0.1.2.1.2.2.2,lF qI p0.1.2.2,lI a.1,lI p0.2.2.1,lB p0.2.2.2]),(1,ROW qI 3 a.2.2.2)],2⟩) w [] R ?_);intro a v hm I H;unfold y3r at hm;refine .seq (.sr (.mv R (.mv R (.ln sl32 R (.bi R (.ns ?_))))));refine .cc hm R (fun hm=>?_) fun hm=> .exit (.seqX (.seqX ((J _ (H _ (oi hm).symm)).sub [] R)));refine .skip (.seqN ?_);refine .join3 (fun (p:Int) (j:Bool) (m:List Int)=>yJ a p j m=some v) (fun p j m=>⟨[(7,.b j),(6,.h 1),(8,.i a.2.1),(0,.q 0 0),(1,.f qI p1),(2,.i p2)],[(0,.bx 206 [lF qI p0.1.1.1,lI p0.1.1.2.1,lF qI p0.1.1.2.2.1,lF qT p0.1.1.2.2.2,lF qI p0.1.2.1.1,lI p0.1.2.1.2.1,lF qI p0.1.2.1.2.2.1,lF qT p0.1.2.1.2.2.2,lF qI p0.1.2.2,lI p,lI p0.2.2.1,lB p0.2.2.2]),(1,ROW qI 3 m)],2⟩) ?_ ?_
 ·intro p j m hm;unfold yJ at hm;exact .reg (.mv R (.bi R (.sa R (.nil ((I _ (oi hm).symm).sub [] R)))))
 ·intro e;refine .block (.seq ?_);refine .sub (τ:=⟨[(8,.i a.2.1),(7,.b a.2.2.1),(6,.h 1),(0,.q 0 0),(1,.f qI p1),(2,.i p2)],[(0,.bx 206 [lF qI p0.1.1.1,lI p0.1.1.2.1,lF qI p0.1.1.2.2.1,lF qT p0.1.1.2.2.2,lF qI p0.1.2.1.1,lI p0.1.2.1.2.1,lF qI p0.1.2.1.2.2.1,lF qT p0.1.2.1.2.2.2,lF qI p0.1.2.2,lI a.1,lI p0.2.2.1,lB p0.2.2.2]),(1,ROW qI 3 a.2.2.2)],2⟩) ?_ [] R;refine bS hm fun P D hm=>bS hm fun s x hm=>?_;refine .drw [(2,[]),(2,[oT]),(2,[oT,oT]),(2,tT 3),(2,tT 4),(2,[]),(2,[oF,oF,oF,oF,oF,oT]),(2,[oF,oF,oF,oF,oF,oT,oT]),(2,fA 5 (tT 3)),(2,[]),(2,[]),(2,[oF,oF,oF,oF,oF,oF,oF,oF,oF,oT,oT]),(2,fA 9 (tT 3)),(2,tT 13),(2,tT 14)] [_,_,_,_,_,_,_,_,_,_,_,_,_,_,_] ⟨[(9,.i s),(8,.i a.2.1),(7,.b a.2.2.1),(6,.h 1),(0,.q 0 0),(1,.f qI p1),(2,.i p2)],[(0,.bx 206 [lF qI p0.1.1.1,lI p0.1.1.2.1,lF qI p0.1.1.2.2.1,lF qT p0.1.1.2.2.2,lF qI p0.1.2.1.1,lI p0.1.2.1.2.1,lF qI p0.1.2.1.2.2.1,lF qT p0.1.2.1.2.2.2,lF qI p0.1.2.2,lI a.1,lI p0.2.2.1,lB p0.2.2.2]),(1,ROW qI 3 a.2.2.2)],2⟩ ⟨O.mv Z R R,O.nc .B Z R R,O.faP y6X Z R R,O.faP y3k Z R R,O.lg (l':=(lx35 p0.1.1)) ag35 Z R (.B R) R R R,O.mv Z R R,O.nc .B Z R R,O.faP y8D Z R R,O.ld nag3 Z R (.B R) R R,O.mv Z R R,O.mv Z R R,O.ix sl32 Z R R D R,O.ld nag3 Z R (.E lv3) R R,O.ca0 (yE x) cf55 R R Z R R R,O.as Z R R,trivial⟩ (by kernel_rfl) R ?_;refine .seqN (.sr (.mv R (.bi R (.ns ?_))));refine .cc hm R (fun hm=>?_) fun hm=> .skip (.blkN ((e _ _ _ hm).sub [] R));refine .sr (.mv R (.mv R (.mv R (.mv R (bS hm fun M F hm=> .ix sl32 F R (.le nag3 lv3 R (.op (O.bsF (r:=qI) (zs:=([M]:List Int)) bs32 R R Z R R R (.c .k .n) R R R) R (bS hm fun u G hm=> .op (O.ap 2 Tryz.underlying32 el3 R R Z R R (.fr R) G R) R (.mv R (.sa R (.op (O.nc .B Z R R) R (.fa y8D R (.st nag3.sz R (.ns ?_))))))))))))));refine .sub (τ:=⟨[(6,.h 2),(8,.i a.2.1),(7,.b a.2.2.1),(0,.q 0 0),(1,.f qI p1),(2,.i p2)],[(0,.bx 206 [lF qI p0.1.1.1,lI p0.1.1.2.1,lF qI p0.1.1.2.2.1,lF qT p0.1.1.2.2.2,lF qI p0.1.2.1.1,lI p0.1.2.1.2.1,lF qI p0.1.2.1.2.2.1,lF qT p0.1.2.1.2.2.2,lF qI p0.1.2.2,lI s,lI p0.2.2.1,lB p0.2.2.2]),(2,ROW qI 3 u)],3⟩) ?_ [] R;refine .drP 1 [(3,[])] [_] ⟨O.mv Z R R,trivial⟩ fun t=>?_;rcases ifS hm with ⟨g,hm⟩|⟨g,hm⟩
  ·skip
   exact bS hm fun L y hm=> .drH t 3 [(3,[oT]),(3,[oT,oT]),(3,tT 3),(3,tT 4),(3,tT 5),(3,tT 6),(3,[oT,oT]),(3,tA 2 (fA 5 (tT 1))),(3,tA 2 (fA 5 (tT 2))),(3,tA 2 (fA 5 (tT 3))),(3,[oT,oT]),(3,tT 12),(3,tT 13),(3,tT 14),(3,tT 15)] [_,_,_,_,_,_,_,_,_,_,_,_,_,_,_] ⟨[(7,.b (decide (L≥0))),(6,.h 2),(8,.i a.2.1),(0,.q 0 0),(1,.f qI p1),(2,.i p2)],[(0,.bx 206 [lF qI p0.1.1.1,lI p0.1.1.2.1,lF qI p0.1.1.2.2.1,lF qT p0.1.1.2.2.2,lF qI p0.1.2.1.1,lI p0.1.2.1.2.1,lF qI p0.1.2.1.2.2.1,lF qT p0.1.2.1.2.2.2,lF qI p0.1.2.2,lI s,lI p0.2.2.1,lB p0.2.2.2]),(2,ROW qI 3 u)],3⟩ ⟨O.kn (O.mv Z R R) g,O.mv (Gu.mk R R) R R,O.nc .B (Gu.mk R R) R R,O.faP y6X (Gu.mk R R) R R,O.faP y3k (Gu.mk R R) R R,O.lg (l':=(lx35 p0.1.1)) ag35 (Gu.mk R R) R (.B R) R R R,O.mv (Gu.mk R R) R R,O.nc .B (Gu.mk R R) R R,O.faP y8D (Gu.mk R R) R R,O.ld nag3 (Gu.mk R R) R (.B R) R R,O.mv (Gu.mk R R) R R,O.ca0 (yE y) cf55 R R (Gu.mk R R) R R R,O.bi (Gu.mk R R) R R R R,O.pkT Z R R R R,O.as Z R R,trivial⟩ (by kernel_rfl) R (.blkN ((e _ _ _ hm).sub [(1,2)] R))
  ·skip
   exact .drH t 3 [(3,[oT]),(3,[oT,oT]),(3,tT 3),(3,tT 4),(3,tT 5),(3,tT 6),(3,[oT,oT]),(3,tA 2 (fA 5 (tT 1))),(3,tA 2 (fA 5 (tT 2))),(3,tA 2 (fA 5 (tT 3))),(3,[oT,oT]),(3,tT 12),(3,tT 13),(3,tT 14),(3,tT 15)] [_,_,_,_,_,_,_,_,_,_,_,_,_,_,_] ⟨[(7,.b false),(6,.h 2),(8,.i a.2.1),(0,.q 0 0),(1,.f qI p1),(2,.i p2)],[(0,.bx 206 [lF qI p0.1.1.1,lI p0.1.1.2.1,lF qI p0.1.1.2.2.1,lF qT p0.1.1.2.2.2,lF qI p0.1.2.1.1,lI p0.1.2.1.2.1,lF qI p0.1.2.1.2.2.1,lF qT p0.1.2.1.2.2.2,lF qI p0.1.2.2,lI s,lI p0.2.2.1,lB p0.2.2.2]),(2,ROW qI 3 u)],3⟩ ⟨O.kn (O.mv Z R R) g,O.skip R R R R,O.skip R R R R,O.skip R R R R,O.skip R R R R,O.skip R R R R,O.skip R R R R,O.skip R R R R,O.skip R R R R,O.skip R R R R,O.skip R R R R,O.skip R R R R,O.skip R R R R,O.pkF Z R R R R,O.as Z R R,trivial⟩ (by kernel_rfl) R (.blkN ((e _ _ _ hm).sub [(1,2)] R))
def yp(a:Int×Bool×Int)(c:Int)(b:Bool):Option ((Int×Bool×Int)⊕(Int×Bool)):=
 some (.inl (c,b,W (a.2.2+1)))
def y2D(p0:PbT×Int×Int×Bool)(p1:List Int)(a:Int×Bool×Int):Option ((Int×Bool×Int)⊕(Int×Bool)):=
 if decide (a.2.2<32) then
  (y1l p1 a.2.2).bind fun d=>
  (if (!d) then
   some true
  else
   (y1l p0.1.2.1.1 a.2.2).bind fun e=>
   some (!e)).bind fun c=>
  if c then
   yp a a.1 a.2.1
  else
   (yo p0.1.2.1 a.1 a.2.2).bind fun b=>
   if decide (b≥0) then
    yp a b a.2.1
   else
    yp a a.1 true
 else
  some (.inr (a.1,a.2.1))
def y1p(p0:PbT×Int×Int×Bool)(p1:List Int):Option (PbT×Int×Int×Bool):=
 (iter (y2D p0 p1) (p0.2.2.1,p0.2.2.2,0)).bind fun a=>
 some (p0.1,p0.2.1,a)
theorem y5T{p0:PbT×Int×Int×Bool}{p1:List Int}{r:(PbT×Int×Int×Bool)}(hm:y1p p0 p1=some r):
  Fw Tryz.prog 189 ⟨1,[0]⟩ [.o (lP 0 0),.f qI p1] [.bx 206 (lx206 p0)] (.tp []) [.bx 206 (lx206 r)]:=by
 unfold y1p at hm;refine Fw.mk2 Tryz.func189 Tryz.ntmps189 R (fun C=>?_) R;refine .sr (.an R (.block (bS hm fun h n hm=>?_)));refine .cut1 (z:= .exit 0) h (fun (h:Int×Bool)=>⟨[],[(0,.bx 206 [lF qI p0.1.1.1,lI p0.1.1.2.1,lF qI p0.1.1.2.2.1,lF qT p0.1.1.2.2.2,lF qI p0.1.2.1.1,lI p0.1.2.1.2.1,lF qI p0.1.2.1.2.2.1,lF qT p0.1.2.1.2.2.2,lF qI p0.1.2.2,lI p0.2.1,lI h.1,lB h.2])],1⟩) ?_ fun w=>?_
 ·skip
  refine .blkE ?_;cases hm;exact WX.rt [0] (.inr R) Tryz.results189 .nil R I3 ⟨⟨_,R,I4⟩,trivial⟩
 refine .iter (fun (a:Int×Bool×Int)=>⟨[(4,.i a.2.2),(0,.q 0 0),(1,.f qI p1)],[(0,.bx 206 [lF qI p0.1.1.1,lI p0.1.1.2.1,lF qI p0.1.1.2.2.1,lF qT p0.1.1.2.2.2,lF qI p0.1.2.1.1,lI p0.1.2.1.2.1,lF qI p0.1.2.1.2.2.1,lF qT p0.1.2.1.2.2.2,lF qI p0.1.2.2,lI p0.2.1,lI a.1,lB a.2.1])],1⟩) n [] R ?_;intro a k hm v u;unfold y2D at hm;refine .seq (.sr (.mv R (.bi R (.ns ?_))));refine .cc hm R (fun hm=>?_) fun hm=> .exit (.seqX (.seqX ((w _ (u _ (oi hm).symm)).sub [] R)));refine .skip (.seqN ?_);refine .join2 (fun (g:Int) (e:Bool)=>yp a g e=some k) (fun g e=>⟨[(4,.i a.2.2),(0,.q 0 0),(1,.f qI p1)],[(0,.bx 206 [lF qI p0.1.1.1,lI p0.1.1.2.1,lF qI p0.1.1.2.2.1,lF qT p0.1.1.2.2.2,lF qI p0.1.2.1.1,lI p0.1.2.1.2.1,lF qI p0.1.2.1.2.2.1,lF qT p0.1.2.1.2.2.2,lF qI p0.1.2.2,lI p0.2.1,lI g,lB e])],1⟩) ?_ ?_
 ·intro g e hm;unfold yp at hm;exact .reg (.mv R (.bi R (.sa R (.nil ((v _ (oi hm).symm).sub [] R)))))
 ·intro c;refine .block (.seq (.sr (.mv R (.mv R (bS hm fun E p hm=> .c0 (y3P p) cf54 R (.op (O.not Z R R) R (.mv R (bS hm fun x eb24 hm=>?_))))))));refine .cut 10 (fun (j:Bool)=>x=j) (fun j=>⟨[(24,.b j),(4,.i a.2.2),(0,.q 0 0),(1,.f qI p1)],[(0,.bx 206 [lF qI p0.1.1.1,lI p0.1.1.2.1,lF qI p0.1.1.2.2.1,lF qT p0.1.1.2.2.2,lF qI p0.1.2.1.1,lI p0.1.2.1.2.1,lF qI p0.1.2.1.2.2.1,lF qT p0.1.2.1.2.2.2,lF qI p0.1.2.2,lI p0.2.1,lI a.1,lB a.2.1])],1⟩) ?_ ?_
  ·rintro _ rfl;refine .ns (.cc hm R (fun hm=> .exit (.seqX (.blkE ((c _ _ hm).sub [] R)))) fun hm=>?_);refine .skip (.seqN (.seq ?_));refine .sub (τ:=⟨[(4,.i a.2.2),(0,.q 0 0),(1,.f qI p1)],[(0,.bx 206 [lF qI p0.1.1.1,lI p0.1.1.2.1,lF qI p0.1.1.2.2.1,lF qT p0.1.1.2.2.2,lF qI p0.1.2.1.1,lI p0.1.2.1.2.1,lF qI p0.1.2.1.2.2.1,lF qT p0.1.2.1.2.2.2,lF qI p0.1.2.2,lI p0.2.1,lI a.1,lB a.2.1])],1⟩) ?_ [] R;refine bS hm fun y s hm=>?_;refine .drw [(1,[]),(1,[oT]),(1,[oT,oT]),(1,tT 3),(1,tT 4),(1,[]),(1,[oF,oF,oF,oF,oF,oT]),(1,[oF,oF,oF,oF,oF,oT,oT]),(1,fA 5 (tT 3)),(1,[]),(1,tT 10),(1,tT 11)] [_,_,_,_,_,_,_,_,_,_,_,_] ⟨[(5,.i y),(4,.i a.2.2),(0,.q 0 0),(1,.f qI p1)],[(0,.bx 206 [lF qI p0.1.1.1,lI p0.1.1.2.1,lF qI p0.1.1.2.2.1,lF qT p0.1.1.2.2.2,lF qI p0.1.2.1.1,lI p0.1.2.1.2.1,lF qI p0.1.2.1.2.2.1,lF qT p0.1.2.1.2.2.2,lF qI p0.1.2.2,lI p0.2.1,lI a.1,lB a.2.1])],1⟩ ⟨O.mv Z R R,O.nc .B Z R R,O.faP y6X Z R R,O.faP y4K Z R R,O.lg (l':=(lx35 p0.1.2.1)) ag35 Z R (.B R) R R R,O.mv Z R R,O.nc .B Z R R,O.faP yaz Z R R,O.ld nag3 Z R (.B R) R R,O.mv Z R R,O.ca0 (yE s) cf55 R R Z R R R,O.as Z R R,trivial⟩ (by kernel_rfl) R ?_;refine .seqN (.sr (.mv R (.bi R (.ns ?_))));exact .cc hm R (fun hm=> .reg (.mv R (.mv R (.op (O.nc .B Z R R) R (.fa yaz R (.st nag3.sz R (.nil (.blkN ((c _ _ hm).sub [] R))))))))) fun hm=> .reg (.mv R (.op (O.nc .B Z R R) R (.fa yfc R (.st nag4.sz R (.nil (.blkN ((c _ _ hm).sub [] R)))))))
  ·intro m;rcases ifS eb24 with ⟨hc,hm⟩|⟨hc,hm⟩
   ·refine .know (d:=14) R hc ?_;exact .sk R (.sk R (.sk R (.sk R (.sk R (.sk R (.sk R (.sk R (.sk R (.op (O.pkT Z R R R R) R ((m true (oi hm).symm).sub [] R))))))))))
   ·refine .know (d:=14) R hc ?_;exact .op (O.mv (Gu.mk R R) R R) R (.op (O.nc .B (Gu.mk R R) R R) R (.op (O.faP y6X (Gu.mk R R) R R) R (.op (O.faP y4K (Gu.mk R R) R R) R (.op (O.faP yH (Gu.mk R R) R R) R (.op (O.ld nag32 (Gu.mk R R) R (.B R) R R) R (.op (O.mv (Gu.mk R R) R R) R (bS hm fun D t hm=> .op (O.ca0 (y3P t) cf54 R R (Gu.mk R R) R R R) R (.op (O.not (Gu.mk R R) R R) R (.op (O.pkF Z R R R R) R ((m (!D) (oi hm).symm).sub [] R))))))))))
def y2t(a:Bool):Option Bool:=
 some a
def y2c(p0:PbT×Int×Int×Bool)(p1:Int):Option Bool:=
 (yo p0.1.1 p0.2.1 p1).bind fun a=>
 if decide (a≥0) then
  (y1l p0.1.2.1.1 p1).bind fun b=>
  if(!b) then
   y2t true
  else
   (yo p0.1.2.1 p0.2.2.1 p1).bind fun c=>
   y2t (decide (c≥0))
 else
  y2t false
theorem y8y{p0:PbT×Int×Int×Bool}(hm:y2c p0 p1=some r):
  F0 190 [.o (lQ 206 (lx206 p0) 0),.i p1] [] (.b r) []:=by
 unfold y2c at hm;refine Fw.mk2 Tryz.func190 Tryz.ntmps190 R (fun C=>?_) R;refine .sr (.an R ?_);refine .join1 (fun (e:Bool)=>y2t e=some r) (fun e=>⟨[(4,.b e)],[],0⟩) ?_ ?_
 ·intro e hm;unfold y2t at hm;refine .ret ?_;cases hm;exact .rr [] Tryz.results190 (.tmp R .nil) R I3 trivial
 ·intro a;refine .sub (τ:=⟨[(0,.o (lQ 206 (lx206 p0) 0)),(1,.i p1)],[],0⟩) ?_ [] R;refine bS hm fun n h hm=> .drP 12 [(0,[]),(0,[oT]),(0,[oT,oT]),(0,tT 3),(0,tT 4),(0,[]),(0,[oF,oF,oF,oF,oF,oT]),(0,[oF,oF,oF,oF,oF,oT,oT]),(0,fA 5 (tT 3)),(0,[]),(0,tT 10),(0,tT 11)] [_,_,_,_,_,_,_,_,_,_,_,_] ⟨O.mv Z R R,O.nc .Q Z R R,O.faQ y6X Z R R,O.faQ y3k Z R R,O.lg (l':=(lx35 p0.1.1)) ag35 Z R .Q R R R,O.mv Z R R,O.nc .Q Z R R,O.faQ y8D Z R R,O.ld nag3 Z R .Q R R,O.mv Z R R,O.ca0 (yE h) cf55 R R Z R R R,O.bi Z R R R R,trivial⟩ fun f=>?_;rcases ifS hm with ⟨c,hm⟩|⟨c,hm⟩
  ·skip
   refine bS hm fun p j hm=> .drX f 22 [(0,tT 12),(0,tT 13),(0,tT 14),(0,tT 15),(0,tT 16),(0,tT 17),(0,tT 18),(0,tT 13),(0,tT 20),(0,tT 21)] [_,_,_,_,_,_,_,_,_,_] ⟨O.kn (O.mv Z R R) c,O.mv (Gu.mk R R) R R,O.nc .Q (Gu.mk R R) R R,O.faQ y6X (Gu.mk R R) R R,O.faQ y4K (Gu.mk R R) R R,O.faQ yH (Gu.mk R R) R R,O.ld nag32 (Gu.mk R R) R .Q R R,O.mv (Gu.mk R R) R R,O.ca0 (y3P j) cf54 R R (Gu.mk R R) R R R,O.not (Gu.mk R R) R R,trivial⟩ (by kernel_rfl) fun g=>?_;rcases ifS hm with ⟨d,hm⟩|⟨d,hm⟩
   ·skip
    exact .drF g [(0,tT 22),(0,tT 23),(0,tT 24),(0,tT 25),(0,tT 26),(0,tT 27),(0,tT 23),(0,tA 23 (fA 5 (tT 1))),(0,tA 23 (fA 5 (tT 2))),(0,tA 23 (fA 5 (tT 3))),(0,tT 23),(0,tT 33),(0,tT 34),(0,tT 35),(0,tT 36),(0,tT 37)] [_,_,_,_,_,_,_,_,_,_,_,_,_,_,_,_] ⟨[(4,.b true)],[],0⟩ ⟨O.kn (O.mv (Gu.mk R R) R R) d,O.skip R R R R,O.skip R R R R,O.skip R R R R,O.skip R R R R,O.skip R R R R,O.skip R R R R,O.skip R R R R,O.skip R R R R,O.skip R R R R,O.skip R R R R,O.skip R R R R,O.skip R R R R,O.pkT (Gu.mk R R) R R R R,O.pkT Z R R R R,O.as Z R R,trivial⟩ (by kernel_rfl) R ((a _ hm).sub [] R)
   ·skip
    exact bS hm fun m k hm=> .drF g [(0,tT 22),(0,tT 23),(0,tT 24),(0,tT 25),(0,tT 26),(0,tT 27),(0,tT 23),(0,tA 23 (fA 5 (tT 1))),(0,tA 23 (fA 5 (tT 2))),(0,tA 23 (fA 5 (tT 3))),(0,tT 23),(0,tT 33),(0,tT 34),(0,tT 35),(0,tT 36),(0,tT 37)] [_,_,_,_,_,_,_,_,_,_,_,_,_,_,_,_] ⟨[(4,.b (decide (m≥0)))],[],0⟩ ⟨O.kn (O.mv (Gu.mk R R) R R) d,O.mv (Gu.mk R R) R R,O.nc .Q (Gu.mk R R) R R,O.faQ y6X (Gu.mk R R) R R,O.faQ y4K (Gu.mk R R) R R,O.lg (l':=(lx35 p0.1.2.1)) ag35 (Gu.mk R R) R .Q R R R,O.mv (Gu.mk R R) R R,O.nc .Q (Gu.mk R R) R R,O.faQ yaz (Gu.mk R R) R R,O.ld nag3 (Gu.mk R R) R .Q R R,O.mv (Gu.mk R R) R R,O.ca0 (yE k) cf55 R R (Gu.mk R R) R R R,O.bi (Gu.mk R R) R R R R,O.pkF (Gu.mk R R) R R R R,O.pkT Z R R R R,O.as Z R R,trivial⟩ (by kernel_rfl) R ((a _ hm).sub [] R)
  ·skip
   exact .drF f [(0,tT 12),(0,tT 13),(0,tT 14),(0,tT 15),(0,tT 16),(0,tT 17),(0,tT 18),(0,tT 13),(0,tT 20),(0,tT 21),(0,tT 22),(0,tT 23),(0,tT 24),(0,tT 25),(0,tT 26),(0,tT 27),(0,tT 23),(0,tA 23 (fA 5 (tT 1))),(0,tA 23 (fA 5 (tT 2))),(0,tA 23 (fA 5 (tT 3))),(0,tT 23),(0,tT 33),(0,tT 34),(0,tT 35),(0,tT 36),(0,tT 37)] [_,_,_,_,_,_,_,_,_,_,_,_,_,_,_,_,_,_,_,_,_,_,_,_,_,_] ⟨[(4,.b false)],[],0⟩ ⟨O.kn (O.mv Z R R) c,O.skip R R R R,O.skip R R R R,O.skip R R R R,O.skip R R R R,O.skip R R R R,O.skip R R R R,O.skip R R R R,O.skip R R R R,O.skip R R R R,O.skip R R R R,O.skipU R R R,O.skipU R R R,O.skipU R R R,O.skipU R R R,O.skipU R R R,O.skipU R R R,O.skipU R R R,O.skipU R R R,O.skipU R R R,O.skipU R R R,O.skipU R R R,O.skipU R R R,O.skip R R R R,O.pkF Z R R R R,O.as Z R R,trivial⟩ (by kernel_rfl) R ((a _ hm).sub [] R)
end
end Go.Proofs.YtecmobjeeonmaaaGreatDoor
