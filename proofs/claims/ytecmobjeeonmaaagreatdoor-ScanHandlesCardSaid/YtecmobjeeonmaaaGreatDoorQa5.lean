/- Parts of the proof, without what nothing here names. -/
import Derived.Test.YtecmobjeeonmaaaGreatDoorProg
import Derived.Shelf.Slices.Delete
import Derived.Ground.Names2Prog
import Derived.Test.YtecmobjeeonmaaaGreatDoorQa4
set_option maxRecDepth 100000
set_option maxHeartbeats 8000000
namespace Go.Proofs.YtecmobjeeonmaaaGreatDoor
open Go Go.RowKit
noncomputable def yh (p0:(AutT×(List KeyT))×(AutT×(List KeyT))×(AutT×(List KeyT))×List (List Int)×List Int×List Int) (p1:Int) (p2:List Int):Option Int:=
 if((decide (p1 < 0)) || (decide (p1≥p0.2.1.1.2.1))) then
  some 2
 else
  (yT p2 32).bind fun r3=>
  if(r3 != 0) then
   some r3
  else
   if decide ((p2.length:Int) > 3) then
    some 3
   else
    (y2u p2 p0.1.1.1).bind fun r4=>
    if(!r4) then
     some 9
    else
     some 0
theorem y4x {p0:(AutT×(List KeyT))×(AutT×(List KeyT))×(AutT×(List KeyT))×List (List Int)×List Int×List Int} {p1:Int} {p2:List Int} {r:Int} (hm:yh p0 p1 p2=some r):
  Fw Tryz.prog 86 ⟨0,[]⟩ [.o (lQ 155 (lx155 p0) 0),.i p1,.f qI p2] [] (.i r) []:=by
 unfold yh at hm
 refine Fw.mk' Tryz.func86 R Tryz.ntmps86 R R (fun C=>?_) R R
 refine .seq (.reg (.sa R (.nil (.seqN (.seq (.seq (.reg (.mv R (.bi R (.mv R ?_))))))))))
 refine .cut 9 (fun (v1:Bool)=>((decide (p1 < 0)) || (decide (p1≥p0.2.1.1.2.1)))=v1) (fun v1=>⟨[(19,.b v1),(0,.o (lQ 155 (lx155 p0) 0)),(2,.f qI p2)],[],0⟩) ?_ ?_
 ·rintro _ rfl
  refine .nil (.seqN ?_)
  rcases ifS hm with ⟨hc,hm⟩ | ⟨hc,hm⟩
  ·refine .cT R hc ?_
   refine .seq (.reg (.sa R (.nil (.seqN (.ret (.seqR ?_))))))
   obtain rfl:=oi hm
   exact WX.rt [] (.inl R) Tryz.results86 (.tmp R .nil) R (fun _ _ _ h=>h) trivial
  ·refine .cF R hc ?_
   refine .skip (.seqN (.seq (.seq (.reg (.mv R (bS hm fun r3 er3 hm=> .op (O.ca0 (y2F er3) cf25 R R Z R R R) R (.sa R (.nil (.seqN (.seq (.reg (.mv R (.bi R (.nil (.seqN ?_)))))))))))))))
   rcases ifS hm with ⟨hc,hm⟩ | ⟨hc,hm⟩
   ·refine .cT R hc ?_
    refine .seq (.reg (.mv R (.sa R (.nil (.seqN (.ret (.seqR ?_)))))))
    obtain rfl:=oi hm
    exact WX.rt [] (.inl R) Tryz.results86 (.tmp R .nil) R (fun _ _ _ h=>h) trivial
   ·refine .cF R hc ?_
    refine .skip (.seqN (.seq (.block (.seq (.reg (.mv R (.op (O.len sl32 Z R R) R (.bi R (.sa R (.nil (.seqN ?_)))))))))))
    rcases ifS hm with ⟨hc,hm⟩ | ⟨hc,hm⟩
    ·refine .cT R hc ?_
     refine .seq (.reg (.sa R (.nil (.seqN (.ret (.blkR (.seqR ?_)))))))
     obtain rfl:=oi hm
     exact WX.rt [] (.inl R) Tryz.results86 (.tmp R .nil) R (fun _ _ _ h=>h) trivial
    ·refine .cF R hc ?_
     refine .seq (.reg (.mv R (.mv R (.op (O.nc .Q Z R R) R (.op (O.faQ y9f Z R R) R (.op (O.faQ y3B Z R R) R (.op (O.faQ y1S Z R R) R (.op (O.ld nag32 Z R .Q R R) R (bS hm fun r4 er4 hm=> .op (O.ca0 (y4l er4) cf26 R R Z R R R) R (.op (O.not Z R R) R (.sa R (.nil (.seqN ?_)))))))))))))
     rcases ifS hm with ⟨hc,hm⟩ | ⟨hc,hm⟩
     ·refine .cT R hc ?_
      refine .seq (.reg (.sa R (.nil (.seqN (.ret (.blkR (.seqR ?_)))))))
      obtain rfl:=oi hm
      exact WX.rt [] (.inl R) Tryz.results86 (.tmp R .nil) R (fun _ _ _ h=>h) trivial
     ·refine .cF R hc ?_
      refine .skip (.blkN (.seqN (.seq (.reg (.sa R (.nil (.seqN (.ret ?_))))))))
      obtain rfl:=oi hm
      exact WX.rt [] (.inl R) Tryz.results86 (.tmp R .nil) R (fun _ _ _ h=>h) trivial
 ·intro J2
  rcases Bool.eq_false_or_eq_true (decide (p1 < 0)) with hc | hc
  ·refine .know (d:=10) R hc ?_
   exact .sk R (.sk R (.sk R (.sk R (.sk R (.sk R (.sk R (.sk R (.op (O.pkT Z R R R R) R ((J2 true (orT hc).symm).sub [] R)))))))))
  ·refine .know (d:=10) R hc ?_
   exact .op (O.mv (Gu.mk R R) R R) R (.op (O.mv (Gu.mk R R) R R) R (.op (O.nc .Q (Gu.mk R R) R R) R (.op (O.faQ y9i (Gu.mk R R) R R) R (.op (O.faQ y3B (Gu.mk R R) R R) R (.op (O.faQ y1T (Gu.mk R R) R R) R (.op (O.ld nag3 (Gu.mk R R) R .Q R R) R (.op (O.bi (Gu.mk R R) R R R R) R (.op (O.pkF Z R R R R) R ((J2 (decide (p1≥p0.2.1.1.2.1)) (orF hc).symm).sub [] R)))))))))
noncomputable def y2C (p0:AutT×AutT×List Int) (p1:Int) (p2:List Int):Option (Int×Int×Int):=
 (y1P p0).bind fun r1=>
 if(r1.2 != 0) then
  some (0,0,r1.2)
 else
  r1.1.bind fun x2=>
  (yh x2 p1 p2).bind fun r3=>
  if(r3 != 0) then
   some (0,0,r3)
  else
   (y1k x2 p1 p2).bind fun r4=>
   some (r4.1,r4.2,0)
theorem y8D {p0:AutT×AutT×List Int} {p1:Int} {p2:List Int} {r:Int×Int×Int} (hm:y2C p0 p1 p2=some r):
  Fw Tryz.prog 23 ⟨0,[]⟩ [.a [lF qI p0.1.1,lI p0.1.2.1,lF qI p0.1.2.2.1,lF qT p0.1.2.2.2,lF qI p0.2.1.1,lI p0.2.1.2.1,lF qI p0.2.1.2.2.1,lF qT p0.2.1.2.2.2,lF qI p0.2.2],.i p1,.f qI p2] [] (.tp [.i r.1,.i r.2.1,.i r.2.2]) []:=by
 unfold y2C at hm
 refine Fw.mk' Tryz.func23 R Tryz.ntmps23 R R (fun C=>?_) R R
 refine .seq (.reg (.op (O.box 0 R Z R R R) R (.sa R (.sa R (.sa R (.nil (.seqN (.seq (.reg (.op (O.lg (l':=[lF qI p0.1.1,lI p0.1.2.1,lF qI p0.1.2.2.1,lF qT p0.1.2.2.2,lF qI p0.2.1.1,lI p0.2.1.2.1,lF qI p0.2.1.2.2.1,lF qT p0.2.1.2.2.2,lF qI p0.2.2]) ag37 Z R (.B R) R R R) R (bS hm fun r1 er1 hm=> .op (O.ca0 (y4S er1) cf85 R R Z R R R) R (.mv R (.op (O.ex Z R R R) R (.op (O.ex Z R R R) R (.sa R (.sa R (.nil (.seqN (.seq (.seq (.reg (.mv R (.bi R (.nil (.seqN ?_)))))))))))))))))))))))))
 rcases ifS hm with ⟨hc,hm⟩ | ⟨hc,hm⟩
 ·refine .cT R hc ?_
  refine .seq (.reg (.mv R (.sa R (.sa R (.sa R (.nil (.seqN (.ret (.seqR ?_)))))))))
  obtain rfl:=oi hm
  exact WX.rt [] (.inl R) Tryz.results23 (.tmp R (.tmp R (.tmp R .nil))) R (fun _ _ _ h=>h) trivial
 ·refine .cF R hc ?_
  refine .skip (.seqN (.seq (.seq (.reg (.mv R (.mv R (.mv R (bS hm fun x2 ex2 hm=> .cnt 19 R (.c (.pd ex2 lv155) .n) R (.cnt 9 R (.c (.pd ex2 lv155) .n) R (.cnt 14 R (.c (.pd ex2 lv155) .n) R (bS hm fun r3 er3 hm=> .op (O.ca0 (y4x er3) cf86 R R Z R R R) R (.sa R (.nil (.seqN (.seq (.reg (.mv R (.bi R (.nil (.seqN ?_))))))))))))))))))))
  rcases ifS hm with ⟨hc,hm⟩ | ⟨hc,hm⟩
  ·refine .cT R hc ?_
   refine .seq (.reg (.mv R (.sa R (.sa R (.sa R (.nil (.seqN (.ret (.seqR ?_)))))))))
   obtain rfl:=oi hm
   exact WX.rt [] (.inl R) Tryz.results23 (.tmp R (.tmp R (.tmp R .nil))) R (fun _ _ _ h=>h) trivial
  ·refine .cF R hc ?_
   refine .skip (.seqN (.seq (.reg (.mv R (.mv R (.mv R (bS hm fun r4 er4 hm=> .op (O.ca0 (y2X er4) cf87 R R Z R R R) R (.mv R (.op (O.ex Z R R R) R (.op (O.ex Z R R R) R (.sa R (.sa R (.nil (.seqN (.seq (.reg (.mv R (.mv R (.sa R (.sa R (.sa R (.nil (.seqN (.ret ?_))))))))))))))))))))))))
   obtain rfl:=oi hm
   exact WX.rt [] (.inl R) Tryz.results23 (.tmp R (.tmp R (.tmp R .nil))) R (fun _ _ _ h=>h) trivial
noncomputable def y4T (q0:Option ((AutT×(List KeyT))×(AutT×(List KeyT))×(AutT×(List KeyT))×List (List Int)×List Int×List Int)) (q1:Int) (q2:Int) (q3:List (List Int)) (p0:List Int):Option (List (List Int)):=
 q0.bind fun x1=>
 (y1k x1 q1 p0).bind fun r2=>
 if((r2.2 == (p0.length:Int)) && (r2.1 == q2)) then
  (app q3 ([p0]:List (List Int))).bind fun x5=>
  some x5
 else
  some q3
theorem y8E {q0:Option ((AutT×(List KeyT))×(AutT×(List KeyT))×(AutT×(List KeyT))×List (List Int)×List Int×List Int)} {q1:Int} {q2:Int} {q3:List (List Int)} {p0:List Int} {r:List (List Int)} (hm:y4T q0 q1 q2 q3 p0=some r):
  Fw Tryz.prog 89 ⟨2,[0,1]⟩ [.f qI p0,.o (lQ 136 [lK rE155 155 q0] 0),.o (lQ 3 [lI q1] 0),.o (lQ 3 [lI q2] 0),.o (lP 0 0)] [.bx 53 [lH 1],ROW (rL qI) 32 q3] (.tp []) [.bx 53 [lH 2],.u,ROW (rL qI) 32 r]:=by
 unfold y4T at hm
 refine Fw.mk' Tryz.func89 R Tryz.ntmps89 R R (fun C=>?_) R R
 refine .mvb 1 0 0 R R R R (.seq (.reg (.op (O.ld y7C Z R .Q R R) R (.op (O.ld nag3 Z R .Q R R) R (.mv R (bS hm fun x1 ex1 hm=> .cnt 9 R (.c (.pd ex1 lv155) .n) R (bS hm fun r2 er2 hm=> .op (O.ca0 (y2X er2) cf87 R R Z R R R) R (.mv R (.op (O.ex Z R R R) R (.op (O.ex Z R R R) R (.sa R (.sa R (.nil (.seqN (.seq (.reg (.mv R (.mv R (.op (O.len sl32 Z R R) R (.bi R (.mv R ?_)))))))))))))))))))))
 refine .cut 4 (fun (v3:Bool)=>((r2.2 == (p0.length:Int)) && (r2.1 == q2))=v3) (fun v3=>⟨[(23,.b v3),(0,.f qI p0),(4,.q 0 0)],[(0,.bx 53 [lH 2]),(2,ROW (rL qI) 32 q3)],3⟩) ?_ ?_
 ·rintro _ rfl
  refine .nil (.seqN ?_)
  rcases ifS hm with ⟨hc,hm⟩ | ⟨hc,hm⟩
  ·refine .cT R hc ?_
   refine .reg (.op (O.ld nag53 Z R (.B R) R R) R (.mv R (.op (O.bsF (r:=(rL qI)) (zs:=([p0]:List (List Int))) bs53 R R Z R R R (.c .l .n) R R R) R (bS hm fun x5 ex5 hm=> .op (O.ap 3 Tryz.underlying53 el32 R R Z R R (.fr R) ex5 R) R (.op (O.st nag53.sz Z R R R R R) R (.nil (.ou 1 R ?_)))))))
   obtain rfl:=oi hm
   exact WX.rt [0,1,3] (.inr R) Tryz.results89 .nil R (fun _ _ _ h=>h) ⟨⟨_,R,fun _ _ _ _ h=>h⟩,⟨_,R,fun _ _ _ _ _=>trivial⟩,⟨_,R,fun _ _ _ _ h=>h⟩,trivial⟩
  ·refine .cF R hc ?_
   refine .skip (.ou 1 R ?_)
   obtain rfl:=oi hm
   exact WX.rt [0,1,2] (.inr R) Tryz.results89 .nil R (fun _ _ _ h=>h) ⟨⟨_,R,fun _ _ _ _ h=>h⟩,⟨_,R,fun _ _ _ _ _=>trivial⟩,⟨_,R,fun _ _ _ _ h=>h⟩,trivial⟩
 ·intro J4
  rcases Bool.eq_false_or_eq_true (r2.2 == (p0.length:Int)) with hc | hc
  ·refine .know (d:=19) R hc ?_
   exact .op (O.mv (Gu.mk R R) R R) R (.op (O.ld nag3 (Gu.mk R R) R .Q R R) R (.op (O.bi (Gu.mk R R) R R R R) R (.op (O.pkT Z R R R R) R ((J4 (r2.1 == q2) (andT hc).symm).sub [] R))))
  ·refine .know (d:=19) R hc ?_
   exact .sk R (.sk R (.sk R (.op (O.pkF Z R R R R) R ((J4 false (andF hc).symm).sub [] R))))
end Go.Proofs.YtecmobjeeonmaaaGreatDoor
namespace Go.Proofs
open Go.Shelf
def Tryz.lays223_ren :Go.Shelf.Ren:=⟨fun | 23=>153 | n=>n,fun | 22=>32 | 3=>3 | 4=>4 | 0=>0 | n=>n,fun | n=>n⟩
theorem Tryz.lays223 :Go.Proofs.Lays2.n23 Tryz.prog Tryz.lays223_ren:={
 mixed:=by kernel_rfl
 f23:=Tryz.func153.trans (congrArg some (by kernel_rfl))
 t0:=Tryz.underlying0
 a0:=Tryz.isAgg0
 z0:=Tryz.sizeOf0
 v0:=Tryz.zeroValue0
 t3:=Tryz.underlying3
 a3:=Tryz.isAgg3
 z3:=Tryz.sizeOf3
 v3:=Tryz.zeroValue3
 t4:=Tryz.underlying4
 a4:=Tryz.isAgg4
 z4:=Tryz.sizeOf4
 v4:=Tryz.zeroValue4
 t22:=Tryz.underlying32
 a22:=Tryz.isAgg32
 z22:=Tryz.sizeOf32
 v22:=Tryz.zeroValue32
 i3:=by kernel_rfl }
open Go.RowKit Go.Sort Go.Lib in
theorem Tryz.slices_Delete_int (blk off cap i j:Nat) (zs:List Int) (w:World) (hH:Holds (Value.int .i64) w blk off zs.toArray) (hcap:zs.length≤cap) (hm:cap≤9223372036854775807) (hij:i≤j) (hj:j≤zs.length):
  Calls Tryz.prog 153 #[.slice (some ⟨blk,off,none⟩) zs.length cap,.int .i64 i,.int .i64 j] w fun e w'=>e= .returned (.slice (some ⟨blk,off,none⟩) (zs.length - (j - i)) cap)∧∃q,w'=putRow (Value.int .i64) (Sort.ahead w q) blk off (zs.take i ++ zs.drop j ++ List.replicate (j - i) 0).toArray:=Any.slices_Delete_int Tryz.lays223 blk off cap i j zs w hH hcap hm hij hj
end Go.Proofs
namespace Go.Proofs.YtecmobjeeonmaaaGreatDoor
open Go Go.RowKit Go.Sort
section
variable {α:Type} {r:Rep α} {s:Sig} {t:Nat} {T:TypeId} {a:Option Addr} {cap:Nat} {xs:List α}
theorem RowT.front (hR:RowT r s t T a cap xs) (j:Nat) (hj:j≤xs.length):RowT r s t T a cap (xs.take j):=by
 obtain⟨cs,g1,g2⟩:=hR
 have hl:(xs.take j).length=j:=by rw [List.length_take];omega
 have hlen:=g1.1
 have hjm:=Nat.mul_le_mul_right r.sz hj
 rw [←List.take_append_drop j xs] at g2
 have hc:=g2.split.1
 rw [List.length_take,Nat.min_eq_left hj] at hc
 refine⟨cs.take (j * r.sz),⟨?_,?_⟩,by simpa using hc⟩
 ·rw [List.length_take,hl];omega
 ·rw [hl]
  rcases g1.2 with ⟨e1,e2⟩ | ⟨b,off,cap',cur,e1,ho,q1,q2,q3,q4⟩
  ·simp only [Value.slice.injEq] at e1
   have e0:j=0:=by omega
   exact .inl ⟨by rw [e1.1,e0,e1.2.2],by rw [e0]⟩
  ·simp only [Value.slice.injEq] at e1
   refine .inr ⟨b,off,cap',cur,by rw [e1.1,e1.2.2],ho,by omega,q2,q3,?_⟩
   rw [←q4,List.take_take,Nat.min_eq_left (by omega)]
end
def y2y (p0:List Int) (i j:Int):Option (List Int):=if p0≠ []∧0≤i∧i≤j∧j≤(p0.length:Int) then some (p0.take i.toNat ++ p0.drop j.toNat) else none
theorem y6U {s:Sig} {p0:List Int} {i j:Int} {t0:Nat} {a1:Option Addr} {c1:Nat} {r:List Int} (zt0:0 < t0) (h1:RowT (rK .i64) s t0 3 a1 c1 p0) (hm:y2y p0 i j=some r):
  Calls Tryz.prog 153 #[.slice a1 p0.length c1,.int .i64 i,.int .i64 j] s.w (RetS (One t0) s fun v s'=>v= .slice a1 r.length c1∧RowT (rK .i64) s' t0 3 a1 c1 r):=by
 unfold y2y at hm
 split at hm
 case isFalse=>cases hm
 rename_i hh
 obtain⟨hne,h0,hij,hj⟩:=hh
 have hr:=Option.some.inj hm
 obtain⟨i,rfl⟩:∃i':Nat,i=(i':Int):=⟨i.toNat,by omega⟩
 obtain⟨j,rfl⟩:∃j':Nat,j=(j':Int):=⟨j.toNat,by omega⟩
 rw [Int.toNat_natCast,Int.toNat_natCast] at hr
 rcases h1.seen rfl with ⟨rfl,rfl,rfl⟩ | ⟨b,off,cur,vs,rfl,h⟩
 ·exact absurd rfl hne
 ·have hv:∀j (h2:j < vs.length) (h3:j < p0.length),vs[j]= .int .i64 p0[j]:=fun j h2 h3=>by
   have:=h.rd j h2 h3
   exact List.head_eq_of_cons_eq this
  have hlen:=h.len
  have hcap:=h.cap
  have hrl:r.length=p0.length - (j - i):=by rw [←hr];simp;omega
  refine(Tryz.slices_Delete_int b off c1 i j p0 s.w (h.holds (by simp [hlen]) fun j hj=>?_) (by omega) (by have:=hcap.2.1;unfold maxLen at this;omega) (by omega) (by omega)).mono ?_
  ·rw [hv j hj (by omega),getElem!_pos _ _ (by simp;omega)]
   simp
  ·rintro e w' ⟨rfl,q,hw⟩
   obtain⟨s',hw',hm,hr'⟩:=h.put (w':=w') rfl zt0 (ys:=r ++ List.replicate (j - i) 0) (enc:=Value.int .i64) (d:=(r ++ List.replicate (j - i) 0).toArray) (by simp [hrl];omega) (by simp [hrl];omega) (fun k hk h2=>by
    have e:=getElem!_pos (r ++ List.replicate (j - i) 0).toArray k hk
    rw [e]
    show [_]= [_]
    simp) ⟨q,#[],by rw [hw,hr,grow_empty]⟩
   have hf:=hr'.front r.length (by simp)
   rw [List.take_left] at hf
   exact⟨_,s',hw',by rw [hrl],hm,rfl,hf⟩
theorem y6V {p0:List Int} {i j:Int} {r:List Int} (hm:y2y p0 i j=some r):Fw Tryz.prog 153 ⟨1,[0]⟩ [.h 0,.i i,.i j] [ROW qI 3 p0] (.h 1) [.u,ROW qI 3 r]:=
 ⟨fun ts β s vs ht _ _ hp ⟨v,us,h,⟨v1,us1,h1,⟨v2,us2,h2,hu2,e2⟩,e1⟩,e⟩ ho=>by
  have hu2:us2= []:=hu2
  have h1:v1= .int .i64 i:=h1.1
  have h2:v2= .int .i64 j:=h2.1
  subst hu2 e2 e1 e h1 h2
  obtain⟨t,t',rfl⟩:∃t t',ts= [t,t']:=by
   match ts,ht with
   | [t,t'],_=>exact⟨t,t',rfl⟩
  obtain⟨a,c,e,h2⟩:=ho 0 _ rfl
  have hv:v= .slice a p0.length c:=h.1.trans e
  subst hv
  refine Calls.mono (y6U (hp t (.head _)) h2 hm) fun en w' ⟨v,s',e1,e2,m,hv,hr⟩=>⟨v,s'.re t t',e1,e2,(m.trans (Sig.re_mv s')).weak fun t2 ht2=>⟨0,.head _,by rw [show t2=t from ht2];rfl⟩,fun i=>if i=0 then β 0 else v,fun i hi=>?_,⟨by simp,by rw [hv];rfl⟩,fun i o ho=>?_⟩
  ·have hi:i < 1:=hi
   have:i=0:=by omega
   subst this
   rfl
  ·match i,ho with
   | 0,ho=>cases ho;trivial
   | 1,ho=>
    cases ho
    exact⟨a,c,by simpa using hv,hr.re (hp t (.head _))⟩⟩
end Go.Proofs.YtecmobjeeonmaaaGreatDoor
set_option maxRecDepth 100000
set_option maxHeartbeats 8000000
namespace Go.Proofs.YtecmobjeeonmaaaGreatDoor
open Go Go.RowKit
noncomputable section
def y3F (p0:List Int) (p1:List Int) (p2c0:Option ((AutT×(List KeyT))×(AutT×(List KeyT))×(AutT×(List KeyT))×List (List Int)×List Int×List Int)) (p2c1:Int) (p2c2:Int) (pF:(List Int)→(List Int)→(Option ((AutT×(List KeyT))×(AutT×(List KeyT))×(AutT×(List KeyT))×List (List Int)×List Int×List Int))→Int→Int→(List (List Int))→Option (List (List Int))) (st12:List (List Int)×Int):Option ((List (List Int)×Int) ⊕ (List (List Int))):=
 if decide (st12.2 < (p1.length:Int)) then
  (idx p1 st12.2).bind fun x15=>
  (yQ p0).bind fun r16=>
  (app r16 ([x15]:List Int)).bind fun x17=>
  (yQ p1).bind fun r18=>
  (y2y r18 st12.2 (W (st12.2 + 1))).bind fun r19=>
  (pF x17 r19 p2c0 p2c1 p2c2 st12.1).bind fun r20=>
  some (.inl (r20,W (st12.2 + 1)))
 else
  some (.inr st12.1)
def y3R (pF:(List Int)→(List Int)→(Option ((AutT×(List KeyT))×(AutT×(List KeyT))×(AutT×(List KeyT))×List (List Int)×List Int×List Int))→Int→Int→(List (List Int))→Option (List (List Int))) (p0:List Int) (p1:List Int) (p2c0:Option ((AutT×(List KeyT))×(AutT×(List KeyT))×(AutT×(List KeyT))×List (List Int)×List Int×List Int)) (p2c1:Int) (p2c2:Int) (p2c3:List (List Int)):Option (List (List Int)):=
 if((p1.length:Int) == 0) then
  (y4T p2c0 p2c1 p2c2 p2c3 p0).bind fun r1=>
  some r1
 else
  (iter (y3F p0 p1 p2c0 p2c1 p2c2 pF) (p2c3,0)).bind fun o12=>
  some o12
theorem y7U {pF:(List Int)→(List Int)→(Option ((AutT×(List KeyT))×(AutT×(List KeyT))×(AutT×(List KeyT))×List (List Int)×List Int×List Int))→Int→Int→(List (List Int))→Option (List (List Int))} (ih:∀{p0:List Int} {p1:List Int} {p2c0:Option ((AutT×(List KeyT))×(AutT×(List KeyT))×(AutT×(List KeyT))×List (List Int)×List Int×List Int)} {p2c1:Int} {p2c2:Int} {p2c3:List (List Int)} {r:List (List Int)} (_:pF p0 p1 p2c0 p2c1 p2c2 p2c3=some r),
  Fw Tryz.prog 88 ⟨2,[0,1]⟩ [.f qI p0,.f qI p1,.o (lZ 89 [lQ 136 [lK rE155 155 p2c0] 0,lQ 3 [lI p2c1] 0,lQ 3 [lI p2c2] 0,lP 0 0])] [.bx 53 [lH 1],ROW (rL qI) 32 p2c3] (.tp []) [.bx 53 [lH 2],.u,ROW (rL qI) 32 r]) {p0:List Int} {p1:List Int} {p2c0:Option ((AutT×(List KeyT))×(AutT×(List KeyT))×(AutT×(List KeyT))×List (List Int)×List Int×List Int)} {p2c1:Int} {p2c2:Int} {p2c3:List (List Int)} {r:List (List Int)} (hm:y3R pF p0 p1 p2c0 p2c1 p2c2 p2c3=some r):
  Fw Tryz.prog 88 ⟨2,[0,1]⟩ [.f qI p0,.f qI p1,.o (lZ 89 [lQ 136 [lK rE155 155 p2c0] 0,lQ 3 [lI p2c1] 0,lQ 3 [lI p2c2] 0,lP 0 0])] [.bx 53 [lH 1],ROW (rL qI) 32 p2c3] (.tp []) [.bx 53 [lH 2],.u,ROW (rL qI) 32 r]:=by
 unfold y3R at hm
 refine Fw.mk' Tryz.func88 R Tryz.ntmps88 R R (fun C=>?_) R R
 refine .mvb 1 0 0 R R R R (.seq (.seq (.reg (.mv R (.op (O.len sl32 Z R R) R (.bi R (.nil (.seqN ?_))))))))
 rcases ifS hm with ⟨hc,hm⟩ | ⟨hc,hm⟩
 ·refine .cT R hc ?_
  refine .seq (.reg (.mv R (.mv R (bS hm fun r1 er1 hm=> .op (O.caW (r':= .tp []) [0,2,3] [(1,.u),(2,ROW (rL qI) 32 r1),(0,.bx 53 [lH 3])] (some 4) (y8E er1) cf89 R R R Z R R R R R ⟨⟨_,R,fun _ _ _ _ _=>trivial⟩,⟨_,R,fun _ _ _ _ h=>h⟩,⟨_,R,fun _ _ _ _ h=>h⟩,trivial⟩ (fun _ _ _ h=>h) R) R (.nil (.seqN (.ret (.seqR (.ou 1 R ?_)))))))))
  obtain rfl:=oi hm
  exact WX.rt [0,1,3] (.inl R) Tryz.results88 .nil R (fun _ _ _ h=>h) ⟨⟨_,R,fun _ _ _ _ h=>h⟩,⟨_,R,fun _ _ _ _ _=>trivial⟩,⟨_,R,fun _ _ _ _ h=>h⟩,trivial⟩
 ·refine .cF R hc ?_
  refine .skip (.seqN (.seq (.reg (.mv R (.op (O.len sl32 Z R R) R (.mv R (.nil (.seqN (.block (bS hm fun o12 eo12 hm=>?_))))))))))
  refine .cut1 (z:= .exit 0) o12 (fun (o12:List (List Int))=>⟨[],[(0,.bx 53 [lH 2]),(2,ROW (rL qI) 32 o12)],3⟩) ?_ fun K14=>?_
  ·skip
   refine .blkE (.ou 1 R ?_)
   obtain rfl:=oi hm
   exact WX.rt [0,1,2] (.inr R) Tryz.results88 .nil R (fun _ _ _ h=>h) ⟨⟨_,R,fun _ _ _ _ h=>h⟩,⟨_,R,fun _ _ _ _ _=>trivial⟩,⟨_,R,fun _ _ _ _ h=>h⟩,trivial⟩
  refine .iter (fun (st12:List (List Int)×Int)=>⟨[(16,.i st12.2),(15,.i (p1.length:Int)),(14,.f qI p1),(0,.f qI p0),(1,.f qI p1),(2,.o (lZ 89 [lQ 136 [lK rE155 155 p2c0] 0,lQ 3 [lI p2c1] 0,lQ 3 [lI p2c2] 0,lP 0 0]))],[(0,.bx 53 [lH 2]),(2,ROW (rL qI) 32 st12.1)],3⟩) eo12 [] R ?_
  intro st12 res12 hm ih12 ho12
  unfold y3F at hm
  refine .seq (.reg (.bi R (.nil (.seqN (.seq ?_)))))
  rcases ifS hm with ⟨hc,hm⟩ | ⟨hc,hm⟩
  ·refine .cT R hc ?_
   refine .skip (.seqN (.seq (.block (.seq (.reg (.mv R (bS hm fun x15 ex15 hm=> .op (O.ix sl32 Z R R ex15 R) R (.op (O.ld nag3 Z R (.E lv3) R R) R (.sa R (.sa R (.nil (.seqN (.reg (.mv R (bS hm fun r16 er16 hm=> .op (O.ca (r':= .h 3) [3] [(0,ROW qI 3 r16)] (some 4) (y2k er16) cf103 R R Z R R R R ⟨⟨_,R,fun _ _ _ _ h=>h⟩,trivial⟩ (fun _ _ _ h=>h) R) R (.mv R (.op (O.bsF (r:=qI) (zs:=([x15]:List Int)) bs32 R R Z R R R (.c .k .n) R R R) R (bS hm fun x17 ex17 hm=> .op (O.ap 4 Tryz.underlying32 el3 R R Z R R (.fr R) ex17 R) R (.mv R (bS hm fun r18 er18 hm=> .op (O.ca (r':= .h 5) [5] [(0,ROW qI 3 r18)] (some 6) (y2k er18) cf103 R R Z R R R R ⟨⟨_,R,fun _ _ _ _ h=>h⟩,trivial⟩ (fun _ _ _ h=>h) R) R (.mv R (.mv R (.bi R (bS hm fun r19 er19 hm=> .op (O.ca (r':= .h 6) [5,6] [(0,.u),(1,ROW qI 3 r19)] (some 7) (y6V er19) cf153 R R Z R R R R ⟨⟨_,R,fun _ _ _ _ _=>trivial⟩,⟨_,R,fun _ _ _ _ h=>h⟩,trivial⟩ (fun _ _ _ h=>h) R) R (.mv R (.fz 4 [25] [] R R fR R R (.fz 6 [31] [] R R fR R R (bS hm fun r20 er20 hm=> .op (O.ca (r':= .tp []) [0,2,7] [(1,.u),(2,ROW (rL qI) 32 r20),(0,.bx 53 [lH 7])] (some 8) (ih er20) cf88 R R Z R R R R ⟨⟨_,R,fun _ _ _ _ _=>trivial⟩,⟨_,R,fun _ _ _ _ h=>h⟩,⟨_,R,fun _ _ _ _ h=>h⟩,trivial⟩ (fun _ _ _ h=>h) R) R (.nil (.blkN (.seqN (.reg (.bi R ?_)))))))))))))))))))))))))))))))))
   exact .mv R (.nil ((ih12 _ (oi hm).symm).sub [(2,7)] R))
  ·refine .cF R hc ?_
   exact .exit (.seqX (.seqX ((K14 _ (ho12 _ (oi hm).symm)).sub [] R)))
def y3c :Nat→(List Int)→(List Int)→(Option ((AutT×(List KeyT))×(AutT×(List KeyT))×(AutT×(List KeyT))×List (List Int)×List Int×List Int))→Int→Int→(List (List Int))→Option (List (List Int))
 | 0=>fun _ _ _ _ _ _=>none
 | n + 1=>y3R (y3c n)
def y5M :(List Int)→(List Int)→(Option ((AutT×(List KeyT))×(AutT×(List KeyT))×(AutT×(List KeyT))×List (List Int)×List Int×List Int))→Int→Int→(List (List Int))→Option (List (List Int)):=y3c 1000
theorem y5P :∀(n:Nat) {p0:List Int} {p1:List Int} {p2c0:Option ((AutT×(List KeyT))×(AutT×(List KeyT))×(AutT×(List KeyT))×List (List Int)×List Int×List Int)} {p2c1:Int} {p2c2:Int} {p2c3:List (List Int)} {r:List (List Int)} (_:y3c n p0 p1 p2c0 p2c1 p2c2 p2c3=some r),
  Fw Tryz.prog 88 ⟨2,[0,1]⟩ [.f qI p0,.f qI p1,.o (lZ 89 [lQ 136 [lK rE155 155 p2c0] 0,lQ 3 [lI p2c1] 0,lQ 3 [lI p2c2] 0,lP 0 0])] [.bx 53 [lH 1],ROW (rL qI) 32 p2c3] (.tp []) [.bx 53 [lH 2],.u,ROW (rL qI) 32 r]
 | 0=>by intros;rename_i hm;cases hm
 | n + 1=>y7U (y5P n)
theorem y8F {p0:List Int} {p1:List Int} {p2c0:Option ((AutT×(List KeyT))×(AutT×(List KeyT))×(AutT×(List KeyT))×List (List Int)×List Int×List Int)} {p2c1:Int} {p2c2:Int} {p2c3:List (List Int)} {r:List (List Int)} (hm:y5M p0 p1 p2c0 p2c1 p2c2 p2c3=some r):
  Fw Tryz.prog 88 ⟨2,[0,1]⟩ [.f qI p0,.f qI p1,.o (lZ 89 [lQ 136 [lK rE155 155 p2c0] 0,lQ 3 [lI p2c1] 0,lQ 3 [lI p2c2] 0,lP 0 0])] [.bx 53 [lH 1],ROW (rL qI) 32 p2c3] (.tp []) [.bx 53 [lH 2],.u,ROW (rL qI) 32 r]:=y5P 1000 hm
def y3k (p0:AutT×AutT×List Int) (p1:Int) (p2:List Int):Option (List (List Int)×Int):=
 (y1P p0).bind fun r1=>
 if(r1.2 != 0) then
  some (([]:List (List Int)),r1.2)
 else
  r1.1.bind fun x2=>
  (yh x2 p1 p2).bind fun r3=>
  if(r3 != 0) then
   some (([]:List (List Int)),r3)
  else
   r1.1.bind fun x4=>
   (y1k x4 p1 p2).bind fun r5=>
   if decide (r5.2 < (p2.length:Int)) then
    some (([]:List (List Int)),0)
   else
    (y5M ([]:List Int) p2 r1.1 p1 r5.1 ([]:List (List Int))).bind fun r6=>
    some (r6,0)
theorem y9K {p0:AutT×AutT×List Int} {p1:Int} {p2:List Int} {r:List (List Int)×Int} (hm:y3k p0 p1 p2=some r):
  Fw Tryz.prog 24 ⟨0,[]⟩ [.a [lF qI p0.1.1,lI p0.1.2.1,lF qI p0.1.2.2.1,lF qT p0.1.2.2.2,lF qI p0.2.1.1,lI p0.2.1.2.1,lF qI p0.2.1.2.2.1,lF qT p0.2.1.2.2.2,lF qI p0.2.2],.i p1,.f qI p2] [] (.tp [.h 0,.i r.2]) [ROW (rL qI) 32 r.1]:=by
 unfold y3k at hm
 refine Fw.mk' Tryz.func24 R Tryz.ntmps24 R R (fun C=>?_) R R
 refine .seq (.reg (.op (O.box 0 R Z R R R) R (.op (O.box 1 R Z R R R) R (.sa R (.sa R (.nil (.seqN (.seq (.reg (.op (O.lg (l':=[lF qI p0.1.1,lI p0.1.2.1,lF qI p0.1.2.2.1,lF qT p0.1.2.2.2,lF qI p0.2.1.1,lI p0.2.1.2.1,lF qI p0.2.1.2.2.1,lF qT p0.2.1.2.2.2,lF qI p0.2.2]) ag37 Z R (.B R) R R R) R (bS hm fun r1 er1 hm=> .op (O.ca0 (y4S er1) cf85 R R Z R R R) R (.mv R (.op (O.ex Z R R R) R (.op (O.ex Z R R R) R (.op (O.al 2 R zz136 R Z R) R (.op (O.st y7C.sz Z R R R R R) R (.sa R (.nil (.seqN (.seq (.seq (.reg (.mv R (.bi R (.nil (.seqN ?_))))))))))))))))))))))))))
 rcases ifS hm with ⟨hc,hm⟩ | ⟨hc,hm⟩
 ·refine .cT R hc ?_
  refine .seq (.reg (.mv R (.sa R (.sa R (.nil (.seqN (.ret (.seqR (.nlg (rL qI) 32 6 0 R R ?_)))))))))
  obtain rfl:=oi hm
  exact WX.rt [3] (.inl R) Tryz.results24 (.tmp R (.tmp R .nil)) R (fun _ _ _ h=>h) ⟨⟨_,R,fun _ _ _ _ h=>h⟩,trivial⟩
 ·refine .cF R hc ?_
  refine .skip (.seqN (.seq (.seq (.reg (.op (O.ld y7C Z R (.B R) R R) R (.op (O.ld nag3 Z R (.B R) R R) R (.mv R (bS hm fun x2 ex2 hm=> .cnt 22 R (.c (.pd ex2 lv155) .n) R (.cnt 17 R (.c (.pd ex2 lv155) .n) R (bS hm fun r3 er3 hm=> .op (O.ca0 (y4x er3) cf86 R R Z R R R) R (.sa R (.nil (.seqN (.seq (.reg (.mv R (.bi R (.nil (.seqN ?_)))))))))))))))))))
  rcases ifS hm with ⟨hc,hm⟩ | ⟨hc,hm⟩
  ·refine .cT R hc ?_
   refine .seq (.reg (.mv R (.sa R (.sa R (.nil (.seqN (.ret (.seqR (.nlg (rL qI) 32 6 0 R R ?_)))))))))
   obtain rfl:=oi hm
   exact WX.rt [3] (.inl R) Tryz.results24 (.tmp R (.tmp R .nil)) R (fun _ _ _ h=>h) ⟨⟨_,R,fun _ _ _ _ h=>h⟩,trivial⟩
  ·refine .cF R hc ?_
   refine .skip (.seqN (.seq (.reg (.op (O.ld y7C Z R (.B R) R R) R (.op (O.ld nag3 Z R (.B R) R R) R (.mv R (bS hm fun x4 ex4 hm=> .cnt 30 R (.c (.pd ex4 lv155) .n) R (bS hm fun r5 er5 hm=> .op (O.ca0 (y2X er5) cf87 R R Z R R R) R (.mv R (.op (O.ex Z R R R) R (.op (O.ex Z R R R) R (.op (O.al 3 R zz3 R Z R) R (.op (O.st nag3.sz Z R R R R R) R (.sa R (.nil (.seqN (.seq (.seq (.reg (.mv R (.mv R (.op (O.len sl32 Z R R) R (.bi R (.nil (.seqN ?_)))))))))))))))))))))))))
   rcases ifS hm with ⟨hc,hm⟩ | ⟨hc,hm⟩
   ·refine .cT R hc ?_
    refine .seq (.reg (.sa R (.sa R (.nil (.seqN (.ret (.seqR (.nlg (rL qI) 32 6 0 R R ?_))))))))
    obtain rfl:=oi hm
    exact WX.rt [4] (.inl R) Tryz.results24 (.tmp R (.tmp R .nil)) R (fun _ _ _ h=>h) ⟨⟨_,R,fun _ _ _ _ h=>h⟩,trivial⟩
   ·refine .cF R hc ?_
    refine .skip (.seqN (.seq (.reg (.op (O.al 4 R zz53 R Z R) R (.nil (.seqN (.seq (.reg (.mv R (.fz 2 [8] [] R R fB R R (.fz 1 [4] [] R R fB R R (.fz 3 [11] [] R R fB R R (.op (O.mz (l:=[lQ 136 [lK rE155 155 r1.1] 0,lQ 3 [lI p1] 0,lQ 3 [lI r5.1] 0,lP 4 0]) Z R R) R (.nlb (rL qI) 32 4 0 R R (bS hm fun r6 er6 hm=> .op (O.caV (r':= .tp []) [4,5,6] [(1,.u),(2,ROW (rL qI) 32 r6),(0,.bx 53 [lH 6])] (some 7) (y8F er6) cf88 R R Z R ⟨⟨R,(.c (.nf (r:=qI)) .n)⟩,⟨R,.rf⟩,⟨R,CnvL.rf⟩,trivial⟩ R R R ⟨⟨_,R,fun _ _ _ _ _=>trivial⟩,⟨_,R,fun _ _ _ _ h=>h⟩,⟨_,R,fun _ _ _ _ h=>h⟩,trivial⟩ (fun _ _ _ h=>h) R) R (.nil (.seqN (.seq (.reg (.op (O.ld nag53 Z R (.B R) R R) R (.sa R (.sa R (.nil (.seqN (.ret ?_)))))))))))))))))))))))))
    obtain rfl:=oi hm
    exact WX.rt [6] (.inl R) Tryz.results24 (.tmp R (.tmp R .nil)) R (fun _ _ _ h=>h) ⟨⟨_,R,fun _ _ _ _ h=>h⟩,trivial⟩
def y2B (p0:List Int) (p1:Int) (st4:Int):Option (Int ⊕ (Unit ⊕ Unit)):=
 if decide (st4 < (p0.length:Int)) then
  (idx p0 st4).bind fun x9=>
  if(x9 == p1) then
   some (.inr (.inr (())))
  else
   some (.inl (W (st4 + 1)))
 else
  some (.inr (.inl ()))
def y3e (p0:List Int) (p1:Int):Option Bool:=
 (iter (y2B p0 p1) 0).bind fun o4=>
 match o4 with
 | .inl u5=>
  some false
 | .inr (u7)=>
  some true
theorem y6W {p0:List Int} {p1:Int} {r:Bool} (hm:y3e p0 p1=some r):
  Fw Tryz.prog 44 ⟨0,[]⟩ [.f qI p0,.i p1] [] (.b r) []:=by
 unfold y3e at hm
 refine Fw.mk' Tryz.func44 R Tryz.ntmps44 R R (fun C=>?_) R R
 refine .seq (.reg (.sa R (.nil (.seqN (.seq (.seq (.reg (.sa R (.nil (.seqN (.block (bS hm fun o4 eo4 hm=>?_))))))))))))
 refine .cutU (z:= .exit 0) (fun u5=> .inl u5=o4) (fun (u5:Unit)=>⟨[],[],0⟩) ?_ fun K6=>?_
 ·rintro u5 rfl
  dsimp only at hm
  refine .blkE (.seqN (.seq (.reg (.sa R (.nil (.seqN (.ret ?_)))))))
  obtain rfl:=oi hm
  exact WX.rt [] (.inl R) Tryz.results44 (.tmp R .nil) R (fun _ _ _ h=>h) trivial
 refine .cutU (z:= .ret) (fun u7=> .inr (u7)=o4) (fun (u7:Unit)=>⟨[(4,.b true)],[],0⟩) ?_ fun K8=>?_
 ·rintro u7 rfl
  dsimp only at hm
  refine .blkR (.seqR ?_)
  obtain rfl:=oi hm
  exact WX.rt [] (.inl R) Tryz.results44 (.tmp R .nil) R (fun _ _ _ h=>h) trivial
 refine .iter (fun (st4:Int)=>⟨[(5,.i st4),(0,.f qI p0),(1,.i p1)],[],0⟩) eo4 [] R ?_
 intro st4 res4 hm ih4 ho4
 unfold y2B at hm
 refine .seq (.seq (.reg (.mv R (.mv R (.op (O.len sl32 Z R R) R (.bi R (.nil (.seqN ?_))))))))
 rcases ifS hm with ⟨hc,hm⟩ | ⟨hc,hm⟩
 ·refine .cT R hc ?_
  refine .skip (.seqN (.seq (.block (.seq (.reg (.mv R (.mv R (bS hm fun x9 ex9 hm=> .op (O.ix sl32 Z R R ex9 R) R (.op (O.ld nag3 Z R (.E lv3) R R) R (.mv R (.bi R (.nil (.seqN ?_)))))))))))))
  rcases ifS hm with ⟨hc,hm⟩ | ⟨hc,hm⟩
  ·refine .cT R hc ?_
   exact .seq (.reg (.sa R (.nil (.seqN (.ret (.blkR (.seqR (.seqR ((K8 _ (ho4 _ (oi hm).symm)).sub [] R)))))))))
  ·refine .cF R hc ?_
   exact .skip (.blkN (.seqN (.reg (.mv R (.bi R (.sa R (.nil ((ih4 _ (oi hm).symm).sub [] R))))))))
 ·refine .cF R hc ?_
  exact .exit (.seqX (.seqX ((K6 _ (ho4 _ (oi hm).symm)).sub [] R)))
def y1q (st11:Int×Int) (n19:Int):Option ((Int×Int) ⊕ (Int ⊕ (Int×Int))):=
 some (.inl (W (st11.1 + 1),n19))
def y1V (p0:AutT) (p2:List Int) (st11:Int×Int):Option ((Int×Int) ⊕ (Int ⊕ (Int×Int))):=
 if decide (st11.1 < (p2.length:Int)) then
  (idx p2 st11.1).bind fun x21=>
  (y3e p0.1 x21).bind fun r22=>
  if(!r22) then
   y1q st11 st11.2
  else
   (idx p2 st11.1).bind fun x23=>
   (y1N p0 st11.2 x23).bind fun r24=>
   if decide (r24 < 0) then
    some (.inr (.inr (st11)))
   else
    y1q st11 r24
 else
  some (.inr (.inl st11.2))
def y1R (p0:AutT) (p1:Int) (p2:List Int):Option (Int×Int):=
 (iter (y1V p0 p2) (0,p1)).bind fun o11=>
 match o11 with
 | .inl u15=>
  some (u15,(p2.length:Int))
 | .inr (u17)=>
  some (u17.2,u17.1)
theorem y4y {p0:AutT} {p1:Int} {p2:List Int} {r:Int×Int} (hm:y1R p0 p1 p2=some r):
  Fw Tryz.prog 27 ⟨0,[]⟩ [.a [lF qI p0.1,lI p0.2.1,lF qI p0.2.2.1,lF qT p0.2.2.2],.i p1,.f qI p2] [] (.tp [.i r.1,.i r.2]) []:=by
 unfold y1R at hm
 refine Fw.mk' Tryz.func27 R Tryz.ntmps27 R R (fun C=>?_) R R
 refine .seq (.reg (.op (O.box 0 R Z R R R) R (.sa R (.sa R (.nil (.seqN (.seq (.seq (.reg (.sa R (.nil (.seqN (.block (bS hm fun o11 eo11 hm=>?_))))))))))))))
 refine .cutU (z:= .exit 0) (fun u15=> .inl u15=o11) (fun (u15:Int)=>⟨[(1,.i u15),(2,.f qI p2)],[],0⟩) ?_ fun K16=>?_
 ·rintro u15 rfl
  dsimp only at hm
  refine .blkE (.seqN (.seq (.reg (.mv R (.mv R (.op (O.len sl32 Z R R) R (.sa R (.sa R (.nil (.seqN (.ret ?_)))))))))))
  obtain rfl:=oi hm
  exact WX.rt [] (.inl R) Tryz.results27 (.tmp R (.tmp R .nil)) R (fun _ _ _ h=>h) trivial
 refine .cutU (z:= .ret) (fun u17=> .inr (u17)=o11) (fun (u17:Int×Int)=>⟨[(7,.i u17.1),(6,.i u17.2)],[],0⟩) ?_ fun K18=>?_
 ·rintro u17 rfl
  dsimp only at hm
  refine .blkR (.seqR ?_)
  obtain rfl:=oi hm
  exact WX.rt [] (.inl R) Tryz.results27 (.tmp R (.tmp R .nil)) R (fun _ _ _ h=>h) trivial
 refine .iter (fun (st11:Int×Int)=>⟨[(8,.i st11.1),(3,.q 0 0),(1,.i st11.2),(2,.f qI p2)],[(0,.bx 35 [lF qI p0.1,lI p0.2.1,lF qI p0.2.2.1,lF qT p0.2.2.2])],1⟩) eo11 [] R ?_
 intro st11 res11 hm ih11 ho11
 unfold y1V at hm
 refine .seq (.seq (.reg (.mv R (.mv R (.op (O.len sl32 Z R R) R (.bi R (.nil (.seqN ?_))))))))
 rcases ifS hm with ⟨hc,hm⟩ | ⟨hc,hm⟩
 ·refine .cT R hc ?_
  refine .skip (.seqN ?_)
  refine .join1 (fun (n19:Int)=>y1q st11 n19=some res11) (fun n19=>⟨[(8,.i st11.1),(3,.q 0 0),(1,.i n19),(2,.f qI p2)],[(0,.bx 35 [lF qI p0.1,lI p0.2.1,lF qI p0.2.2.1,lF qT p0.2.2.2])],1⟩) ?_ ?_
  ·intro n19 hm
   unfold y1q at hm
   exact .reg (.mv R (.bi R (.sa R (.nil ((ih11 _ (oi hm).symm).sub [] R)))))
  ·intro Jj20
   refine .block (.seq (.seq ?_))
   refine .sub (τ:=⟨[(8,.i st11.1),(3,.q 0 0),(1,.i st11.2),(2,.f qI p2)],[(0,.bx 35 [lF qI p0.1,lI p0.2.1,lF qI p0.2.2.1,lF qT p0.2.2.2])],1⟩) ?_ [] R
   refine bS hm fun x21 ex21 hm=>bS hm fun r22 er22 hm=>?_
   refine .drw [(1,[]),(1,[oT]),(1,[]),(1,[]),(1,[oF,oF,oT,oT]),(1,fA 2 (tT 3)),(1,tT 6),(1,tT 7)] [_,_,_,_,_,_,_,_] ⟨[(23,.b (!r22)),(8,.i st11.1),(3,.q 0 0),(1,.i st11.2),(2,.f qI p2)],[(0,.bx 35 [lF qI p0.1,lI p0.2.1,lF qI p0.2.2.1,lF qT p0.2.2.2])],1⟩ ⟨O.faP y1S Z R R,O.ld nag32 Z R (.B R) R R,O.mv Z R R,O.mv Z R R,O.ix sl32 Z R R ex21 R,O.ld nag3 Z R (.E lv3) R R,O.ca0 (y6W er22) cf44 R R Z R R R,O.not Z R R,trivial⟩ (by kernel_rfl) R ?_
   refine .seqN ?_
   rcases ifS hm with ⟨hc,hm⟩ | ⟨hc,hm⟩
   ·refine .cT R hc ?_
    exact .exit (.seqX (.blkE ((Jj20 _ hm).sub [] R)))
   ·refine .cF R hc ?_
    refine .skip (.seqN (.seq ?_))
    refine .sub (τ:=⟨[(8,.i st11.1),(3,.q 0 0),(1,.i st11.2),(2,.f qI p2)],[(0,.bx 35 [lF qI p0.1,lI p0.2.1,lF qI p0.2.2.1,lF qT p0.2.2.2])],1⟩) ?_ [] R
    refine bS hm fun x23 ex23 hm=>bS hm fun r24 er24 hm=>?_
    refine .drw [(1,[]),(1,[]),(1,[]),(1,[]),(1,[oF,oF,oT,oT]),(1,fA 2 (tT 3)),(1,tT 6),(1,tT 7)] [_,_,_,_,_,_,_,_] ⟨[(9,.i r24),(8,.i st11.1),(3,.q 0 0),(1,.i st11.2),(2,.f qI p2)],[(0,.bx 35 [lF qI p0.1,lI p0.2.1,lF qI p0.2.2.1,lF qT p0.2.2.2])],1⟩ ⟨O.lg (l':=[lF qI p0.1,lI p0.2.1,lF qI p0.2.2.1,lF qT p0.2.2.2]) ag35 Z R (.B R) R R R,O.mv Z R R,O.mv Z R R,O.mv Z R R,O.ix sl32 Z R R ex23 R,O.ld nag3 Z R (.E lv3) R R,O.ca0 (y3V er24) cf73 R R Z R R R,O.as Z R R,trivial⟩ (by kernel_rfl) R ?_
    refine .seqN (.seq (.seq (.reg (.mv R (.bi R (.nil (.seqN ?_)))))))
    rcases ifS hm with ⟨hc,hm⟩ | ⟨hc,hm⟩
    ·refine .cT R hc ?_
     exact .seq (.reg (.mv R (.mv R (.sa R (.sa R (.nil (.seqN (.ret (.seqR (.blkR (.seqR (.seqR ((K18 _ (ho11 _ (oi hm).symm)).sub [] R)))))))))))))
    ·refine .cF R hc ?_
     exact .skip (.seqN (.reg (.mv R (.sa R (.nil (.blkN ((Jj20 _ hm).sub [] R)))))))
 ·refine .cF R hc ?_
  exact .exit (.seqX (.seqX ((K16 _ (ho11 _ (oi hm).symm)).sub [] R)))
def y1r (p0:List Int) (st25:Int×List (List Int)) (r32:List (List Int)) (st41:Int×List (List Int)):Option ((Int×List (List Int)) ⊕ (List (List Int))):=
 if decide (st41.1 < (r32.length:Int)) then
  (idx r32 st41.1).bind fun x44=>
  (idx p0 st25.1).bind fun x45=>
  (app ([x45]:List Int) x44).bind fun x46=>
  (app st41.2 ([x46]:List (List Int))).bind fun x47=>
  some (.inl (W (st41.1 + 1),x47))
 else
  some (.inr st41.2)
def y1W (p0:List Int) (pF:(List Int)→Option (List (List Int))) (st25:Int×List (List Int)):Option ((Int×List (List Int)) ⊕ (List (List Int))):=
 if decide (st25.1 < (p0.length:Int)) then
  (slc p0 0 st25.1).bind fun x28=>
  (app ([]:List Int) x28).bind fun x29=>
  (slc p0 (W (st25.1 + 1)) (p0.length:Int)).bind fun x30=>
  (app x29 x30).bind fun x31=>
  (pF x31).bind fun r32=>
  (iter (y1r p0 st25 r32) (0,st25.2)).bind fun o41=>
  some (.inl (W (st25.1 + 1),o41))
 else
  some (.inr st25.2)
def y2i (pF:(List Int)→Option (List (List Int))) (p0:List Int):Option (List (List Int)):=
 if((p0.length:Int) == 0) then
  some ([([]:List Int)]:List (List Int))
 else
  (iter (y1W p0 pF) (0,([]:List (List Int)))).bind fun o25=>
  some o25
theorem y5N {pF:(List Int)→Option (List (List Int))} (ih:∀{p0:List Int} {r:List (List Int)} (_:pF p0=some r),
  Fw Tryz.prog 28 ⟨0,[]⟩ [.f qI p0] [] (.f (rL qI) r) []) {p0:List Int} {r:List (List Int)} (hm:y2i pF p0=some r):
  Fw Tryz.prog 28 ⟨0,[]⟩ [.f qI p0] [] (.f (rL qI) r) []:=by
 unfold y2i at hm
 refine Fw.mk' Tryz.func28 R Tryz.ntmps28 R R (fun C=>?_) R R
 refine .seq (.reg (.sa R (.nil (.seqN (.seq (.seq (.reg (.mv R (.op (O.len sl32 Z R R) R (.bi R (.nil (.seqN ?_))))))))))))
 rcases ifS hm with ⟨hc,hm⟩ | ⟨hc,hm⟩
 ·refine .cT R hc ?_
  refine .seq (.reg (.op (O.bsF (r:=(rL qI)) (zs:=([([]:List Int)]:List (List Int))) bs53 R R Z R R R (.c .n .n) R R R) R (.sa R (.nil (.seqN (.ret (.seqR ?_)))))))
  obtain rfl:=oi hm
  exact WX.rt [] (.inl R) Tryz.results28 (.tmp R .nil) R (fun _ _ _ h=>h) trivial
 ·refine .cF R hc ?_
  refine .skip (.seqN (.seq (.reg (.sa R (.nil (.seqN (.seq (.seq (.reg (.sa R (.nil (.seqN (.block (bS hm fun o25 eo25 hm=>?_))))))))))))))
  refine .cut1 (z:= .exit 0) o25 (fun (o25:List (List Int))=>⟨[(3,.h 0)],[(0,ROW (rL qI) 32 o25)],1⟩) ?_ fun K27=>?_
  ·skip
   refine .blkE (.seqN (.seq (.reg (.mv R (.sa R (.nil (.seqN (.ret (.fz 0 [2] [] R R fR R R ?_)))))))))
   obtain rfl:=oi hm
   exact WX.rt [] (.inl R) Tryz.results28 (.tmp R .nil) R (fun _ _ _ h=>h) trivial
  refine .nlg (rL qI) 32 3 0 R R (.iter (fun (st25:Int×List (List Int))=>⟨[(4,.i st25.1),(3,.h 0),(0,.f qI p0)],[(0,ROW (rL qI) 32 st25.2)],1⟩) eo25 [] R ?_)
  intro st25 res25 hm ih25 ho25
  unfold y1W at hm
  refine .seq (.seq (.reg (.mv R (.mv R (.op (O.len sl32 Z R R) R (.bi R (.nil (.seqN ?_))))))))
  rcases ifS hm with ⟨hc,hm⟩ | ⟨hc,hm⟩
  ·refine .cT R hc ?_
   refine .skip (.seqN (.seq (.block (.seq ?_))))
   refine .sub (τ:=⟨[(4,.i st25.1),(3,.h 0),(0,.f qI p0)],[(0,ROW (rL qI) 32 st25.2)],1⟩) ?_ [] R
   refine bS hm fun x28 ex28 hm=>bS hm fun x29 ex29 hm=>bS hm fun x30 ex30 hm=>bS hm fun x31 ex31 hm=>?_
   refine .drz 4 [(0,1),(4,2)] [(1,[],[],[]),(1,[],[],[]),(1,[],[],[]),(1,[oF,oT,oT],[],[]),(2,[oT,oT,oT,oT],[],[]),(1,[],[],[]),(1,[],[],[]),(1,[oF,oF,oF,oF,oF,oF,oT],[],[]),(1,[oF,oF,oF,oF,oF,oT,oT,oT],[],[]),(3,[oT,oT,oT,oT,oT,oT,oT,oT,oT],[],[(0,1)]),(4,[oT,oT,oT,oT,oT,oT,oT,oT,oT,oT],[],[(0,1),(4,2)])] [_,_,_,_,_,_,_,_,_,_,_] ⟨[(5,.h 3),(4,.i st25.1),(3,.h 0),(0,.f qI p0)],[(3,ROW qI 3 x31),(0,ROW (rL qI) 32 st25.2)],4⟩ ⟨O.b0O (r:=qI) 1 R bs32 R Z R,O.mv Z R R,O.mv Z R R,O.sh sl32 Z R R ex28 R,O.ap 2 Tryz.underlying32 el3 R R Z R R (.fr R) ex29 R,O.mv Z R R,O.mv Z R R,O.bi Z R R R R,O.sf sl32 Z R R ex30 R,O.ap 3 Tryz.underlying32 el3 R R Z R R (.fr R) ex31 R,O.as Z R R,trivial⟩ (by kernel_rfl) R ?_
   refine .seqN (.seq (.reg (.mv R (.fz 3 [28] [] R R fR R R (bS hm fun r32 er32 hm=> .op (O.ca0 (ih er32) cf28 R R Z R R R) R (.op (O.len sl53 Z R R) R (.mv R (.nil (.seqN (.block (bS hm fun o41 eo41 hm=>?_)))))))))))
   refine .cut1 (z:= .exit 2) o41 (fun (o41:List (List Int))=>⟨[(4,.i st25.1),(3,.h 0),(0,.f qI p0)],[(0,ROW (rL qI) 32 o41)],1⟩) ?_ fun K43=>?_
   ·skip
    exact .blkE (.blkN (.seqN (.reg (.mv R (.bi R (.sa R (.nil ((ih25 _ (oi hm).symm).sub [] R))))))))
   refine .iter (fun (st41:Int×List (List Int))=>⟨[(31,.i st41.1),(30,.i (r32.length:Int)),(29,.f (rL qI) r32),(4,.i st25.1),(3,.h 0),(0,.f qI p0)],[(0,ROW (rL qI) 32 st41.2)],1⟩) eo41 [] R ?_
   intro st41 res41 hm ih41 ho41
   unfold y1r at hm
   refine .seq (.reg (.bi R (.nil (.seqN (.seq ?_)))))
   rcases ifS hm with ⟨hc,hm⟩ | ⟨hc,hm⟩
   ·refine .cT R hc ?_
    exact .skip (.seqN (.seq (.block (.seq (.reg (bS hm fun x44 ex44 hm=> .op (O.ix sl53 Z R R ex44 R) R (.op (O.ld nag32 Z R (.E lv32) R R) R (.sa R (.nil (.seqN (.reg (.mv R (.mv R (.mv R (bS hm fun x45 ex45 hm=> .op (O.ix sl32 Z R R ex45 R) R (.op (O.ld nag3 Z R (.E lv3) R R) R (.op (O.bsO (r:=qI) (zs:=([x45]:List Int)) 1 R bs32 R R Z R R R (.c .k .n) R R R) R (.mv R (bS hm fun x46 ex46 hm=> .op (O.ap 2 Tryz.underlying32 el3 R R Z R R (.fr R) ex46 R) R (.fz 2 [42] [] R R fR R R (.op (O.bsF (r:=(rL qI)) (zs:=([x46]:List (List Int))) bs53 R R Z R R R (.c .l .n) R R R) R (bS hm fun x47 ex47 hm=> .op (O.ap 3 Tryz.underlying53 el32 R R Z R R (.fr R) ex47 R) R (.sa R (.nil (.blkN (.seqN (.reg (.bi R (.mv R (.nil ((ih41 _ (oi hm).symm).sub [(0,3)] R)))))))))))))))))))))))))))))))
   ·refine .cF R hc ?_
    exact .exit (.seqX (.seqX ((K43 _ (ho41 _ (oi hm).symm)).sub [] R)))
  ·refine .cF R hc ?_
   exact .exit (.seqX (.seqX ((K27 _ (ho25 _ (oi hm).symm)).sub [] R)))
def y1b :Nat→(List Int)→Option (List (List Int))
 | 0=>fun _=>none
 | n + 1=>y2i (y1b n)
def y3W :(List Int)→Option (List (List Int)):=y1b 1000
theorem y4i :∀(n:Nat) {p0:List Int} {r:List (List Int)} (_:y1b n p0=some r),
  Fw Tryz.prog 28 ⟨0,[]⟩ [.f qI p0] [] (.f (rL qI) r) []
 | 0=>by intros;rename_i hm;cases hm
 | n + 1=>y5N (y4i n)
theorem y6m {p0:List Int} {r:List (List Int)} (hm:y3W p0=some r):
  Fw Tryz.prog 28 ⟨0,[]⟩ [.f qI p0] [] (.f (rL qI) r) []:=y4i 1000 hm
def yw (st45:Int×Int) (n51:Int):Option ((Int×Int) ⊕ (Int ⊕ Unit)):=
 some (.inl (W (st45.1 + 1),n51))
def yi (p1:Int) (p2:List Int) (r5:(AutT×AutT×List Int)) (r7:List (List Int)×Int) (r20:Int×Int) (r27:List (List Int)) (st45:Int×Int):Option ((Int×Int) ⊕ (Int ⊕ Unit)):=
 if decide (st45.1 < (r27.length:Int)) then
  (idx r27 st45.1).bind fun x53=>
  (y1R r5.2.1 p1 x53).bind fun r54=>
  if(((decide (r20.2 < (p2.length:Int))) || (decide (r54.2 < (p2.length:Int)))) || (r54.1 != r20.1)) then
   yw st45 st45.2
  else
   (if decide (st45.2≥(r7.1.length:Int)) then
    some true
   else
    (idx r7.1 st45.2).bind fun x62=>
    (y3E x62 x53).bind fun r63=>
    some (!r63)).bind fun b59=>
   if b59 then
    some (.inr (.inr (())))
   else
    yw st45 (W (st45.2 + 1))
 else
  some (.inr (.inl st45.2))
def yf (p1:Int) (p2:List Int) (r5:(AutT×AutT×List Int)) (r6:Int×Int×Int) (r7:List (List Int)×Int) (n10:Int):Option Bool:=
 if(n10 != 0) then
  some (((((r6.1 == 0) && (r6.2.1 == 0)) && (r6.2.2 == n10)) && ((r7.1.length:Int) == 0)) && (r7.2 == n10))
 else
  (y1R r5.2.1 p1 p2).bind fun r20=>
  if((((r6.1 != r20.1) || (r6.2.1 != r20.2)) || (r6.2.2 != 0)) || (r7.2 != 0)) then
   some false
  else
   (y3W p2).bind fun r27=>
   (iter (yi p1 p2 r5 r7 r20 r27) (0,0)).bind fun o45=>
   match o45 with
   | .inl u47=>
    some (u47 == (r7.1.length:Int))
   | .inr (u49)=>
    some false
def yg (p1:Int) (p2:List Int) (r5:(AutT×AutT×List Int)) (r6:Int×Int×Int) (r7:List (List Int)×Int) (n8:Int):Option Bool:=
 (if (n8 == 0) then
  (y2u p2 r5.1.1).bind fun r67=>
  some (!r67)
 else
  some false).bind fun b64=>
 if b64 then
  yf p1 p2 r5 r6 r7 9
 else
  yf p1 p2 r5 r6 r7 n8
def y2w (p0:(Int×y1O)×(Int×y1O)×Int) (p1:Int) (p2:List Int):Option Bool:=
 (y2J).bind fun r1=>
 if((!r1) || (decide ((p2.length:Int) > 5))) then
  (y2J).bind fun r4=>
  some r4
 else
  (y3b p0 false).bind fun r5=>
  (y2C r5 p1 p2).bind fun r6=>
  (y3k r5 p1 p2).bind fun r7=>
  if((decide (p1 < 0)) || (decide (p1≥r5.2.1.2.1))) then
   yg p1 p2 r5 r6 r7 2
  else
   (yT p2 32).bind fun r70=>
   if((r70 == 0) && (decide ((p2.length:Int) > 3))) then
    yg p1 p2 r5 r6 r7 3
   else
    yg p1 p2 r5 r6 r7 r70
theorem y5q {p0:(Int×y1O)×(Int×y1O)×Int} {p1:Int} {p2:List Int} {r:Bool} (hm:y2w p0 p1 p2=some r):
  Fw Tryz.prog 4 ⟨0,[]⟩ [.a (lx30 p0),.i p1,.f qI p2] [] (.b r) []:=by
 unfold y2w at hm
 refine Fw.mk' Tryz.func4 R Tryz.ntmps4 R R (fun C=>?_) R R
 refine .seq (.reg (.op (O.box 0 R Z R R R) R (.sa R (.nil (.seqN (.seq (.seq (.reg (bS hm fun r1 er1 hm=> .op (O.ca0 (y4H er1) cf15 R R Z R R R) R (.op (O.not Z R R) R (.mv R ?_)))))))))))
 refine .cut 4 (fun (v2:Bool)=>((!r1) || (decide ((p2.length:Int) > 5)))=v2) (fun v2=>⟨[(27,.b v2),(3,.q 0 0),(1,.i p1),(2,.f qI p2)],[(0,.bx 30 (lx30 p0))],1⟩) ?_ ?_
 ·rintro _ rfl
  refine .nil (.seqN ?_)
  rcases ifS hm with ⟨hc,hm⟩ | ⟨hc,hm⟩
  ·refine .cT R hc ?_
   refine .seq (.reg (bS hm fun r4 er4 hm=> .op (O.ca0 (y4H er4) cf15 R R Z R R R) R (.sa R (.nil (.seqN (.ret (.seqR ?_)))))))
   obtain rfl:=oi hm
   exact WX.rt [] (.inl R) Tryz.results4 (.tmp R .nil) R (fun _ _ _ h=>h) trivial
  ·refine .cF R hc ?_
   refine .skip (.seqN (.seq (.reg (.op (O.lg (l':=(lx30 p0)) ag30 Z R (.B R) R R R) R (bS hm fun r5 er5 hm=> .op (O.ca (r':= .g [lF qI r5.1.1,lI r5.1.2.1,lF qI r5.1.2.2.1,lF qT r5.1.2.2.2,lH 1,lI r5.2.1.2.1,lH 2,lH 3,lH 4]) [1,2,3,4] [(0,ROW qI 3 r5.2.1.1),(1,ROW qI 3 r5.2.1.2.2.1),(2,ROW qT 124 r5.2.1.2.2.2),(3,ROW qI 3 r5.2.2)] (some 5) (y6B er5) cf16 R R Z R R R R ⟨⟨_,R,fun _ _ _ _ h=>h⟩,⟨_,R,fun _ _ _ _ h=>h⟩,⟨_,R,fun _ _ _ _ h=>h⟩,⟨_,R,fun _ _ _ _ h=>h⟩,trivial⟩ (fun _ _ _ h=>h) R) R (.op (O.al 5 R zz37 R Z R) R (.op (O.st ag37.sz Z R R R R R) R (.nil (.seqN (.seq (.reg (.op (O.lg (l':=[lF qI r5.1.1,lI r5.1.2.1,lF qI r5.1.2.2.1,lF qT r5.1.2.2.2,lH 1,lI r5.2.1.2.1,lH 2,lH 3,lH 4]) ag37 Z R (.B R) R R R) R (.mv R (.mv R (bS hm fun r6 er6 hm=> .op (O.caZ (y8D er6) cf23 R R Z R ⟨⟨R,.rf,.rf,.rf,.rf,.hr R,.rf,.hr R,.hr R,.hr R,trivial⟩,⟨R,LnL.rf⟩,⟨R,LnL.rf⟩,trivial⟩ (fun _ _ _ _ _ h=>h) R) R (.mv R (.op (O.ex Z R R R) R (.op (O.ex Z R R R) R (.op (O.ex Z R R R) R (.sa R (.sa R (.sa R (.nil (.seqN (.seq (.reg (.op (O.lg (l':=[lF qI r5.1.1,lI r5.1.2.1,lF qI r5.1.2.2.1,lF qT r5.1.2.2.2,lH 1,lI r5.2.1.2.1,lH 2,lH 3,lH 4]) ag37 Z R (.B R) R R R) R (.mv R (.mv R (.fz 1 [40] [5] R R fR R R (.fz 2 [40] [5] R R fR R R (.fz 3 [40] [5] R R fR R R (.fz 4 [40] [5] R R fR R R (bS hm fun r7 er7 hm=> .op (O.ca (r':= .tp [.h 6,.i r7.2]) [6] [(0,ROW (rL qI) 32 r7.1)] (some 7) (y9K er7) cf24 R R Z R R R R ⟨⟨_,R,fun _ _ _ _ h=>h⟩,trivial⟩ (fun _ _ _ h=>h) R) R (.mv R (.op (O.ex Z R R R) R ?_))))))))))))))))))))))))))))))))))))
   refine .op (O.ex Z R R R) R (.sa R (.sa R (.nil (.seqN (.seq (.reg (.sa R (.nil (.seqN ?_)))))))))
   refine .join1 (fun (n8:Int)=>yg p1 p2 r5 r6 r7 n8=some r) (fun n8=>⟨[(13,.i n8),(12,.i r7.2),(11,.h 0),(10,.i r6.2.2),(9,.i r6.2.1),(8,.i r6.1),(7,.q 1 0),(1,.i p1),(2,.f qI p2)],[(0,ROW (rL qI) 32 r7.1),(1,.bx 37 [lF qI r5.1.1,lI r5.1.2.1,lF qI r5.1.2.2.1,lF qT r5.1.2.2.2,lF qI r5.2.1.1,lI r5.2.1.2.1,lF qI r5.2.1.2.2.1,lF qT r5.2.1.2.2.2,lF qI r5.2.2])],2⟩) ?_ ?_
   ·intro n8 hm
    unfold yg at hm
    refine .join1 (fun (n10:Int)=>yf p1 p2 r5 r6 r7 n10=some r) (fun n10=>⟨[(13,.i n10),(12,.i r7.2),(11,.h 0),(10,.i r6.2.2),(9,.i r6.2.1),(8,.i r6.1),(7,.q 1 0),(1,.i p1),(2,.f qI p2)],[(0,ROW (rL qI) 32 r7.1),(1,.bx 37 [lF qI r5.1.1,lI r5.1.2.1,lF qI r5.1.2.2.1,lF qT r5.1.2.2.2,lF qI r5.2.1.1,lI r5.2.1.2.1,lF qI r5.2.1.2.2.1,lF qT r5.2.1.2.2.2,lF qI r5.2.2])],2⟩) ?_ ?_
    ·intro n10 hm
     unfold yf at hm
     refine .seq (.seq (.reg (.mv R (.bi R (.nil (.seqN ?_))))))
     rcases ifS hm with ⟨hc,hm⟩ | ⟨hc,hm⟩
     ·refine .cT R hc ?_
      refine .seq (.reg (.mv R (.bi R (.mv R ?_))))
      refine .cut 3 (fun (v12:Bool)=>((r6.1 == 0) && (r6.2.1 == 0))=v12) (fun v12=>⟨[(81,.b v12),(13,.i n10),(12,.i r7.2),(11,.h 0),(10,.i r6.2.2)],[(0,ROW (rL qI) 32 r7.1)],2⟩) ?_ ?_
      ·rintro _ rfl
       refine .mv R ?_
       refine .cut 4 (fun (v14:Bool)=>(((r6.1 == 0) && (r6.2.1 == 0)) && (r6.2.2 == n10))=v14) (fun v14=>⟨[(86,.b v14),(13,.i n10),(12,.i r7.2),(11,.h 0)],[(0,ROW (rL qI) 32 r7.1)],2⟩) ?_ ?_
       ·rintro _ rfl
        refine .mv R ?_
        refine .cut 4 (fun (v16:Bool)=>((((r6.1 == 0) && (r6.2.1 == 0)) && (r6.2.2 == n10)) && ((r7.1.length:Int) == 0))=v16) (fun v16=>⟨[(91,.b v16),(13,.i n10),(12,.i r7.2)],[],2⟩) ?_ ?_
        ·rintro _ rfl
         refine .mv R ?_
         refine .cut 4 (fun (v18:Bool)=>(((((r6.1 == 0) && (r6.2.1 == 0)) && (r6.2.2 == n10)) && ((r7.1.length:Int) == 0)) && (r7.2 == n10))=v18) (fun v18=>⟨[(96,.b v18)],[],2⟩) ?_ ?_
         ·rintro _ rfl
          refine .sa R (.nil (.seqN (.ret (.seqR ?_))))
          obtain rfl:=oi hm
          exact WX.rt [] (.inl R) Tryz.results4 (.tmp R .nil) R (fun _ _ _ h=>h) trivial
         ·intro J19
          rcases Bool.eq_false_or_eq_true ((((r6.1 == 0) && (r6.2.1 == 0)) && (r6.2.2 == n10)) && ((r7.1.length:Int) == 0)) with hc | hc
          ·refine .know (d:=92) R hc ?_
           exact .op (O.mv (Gu.mk R R) R R) R (.op (O.mv (Gu.mk R R) R R) R (.op (O.bi (Gu.mk R R) R R R R) R (.op (O.pkT Z R R R R) R ((J19 (r7.2 == n10) (andT hc).symm).sub [] R))))
          ·refine .know (d:=92) R hc ?_
           exact .sk R (.sk R (.sk R (.op (O.pkF Z R R R R) R ((J19 false (andF hc).symm).sub [] R))))
        ·intro J17
         rcases Bool.eq_false_or_eq_true (((r6.1 == 0) && (r6.2.1 == 0)) && (r6.2.2 == n10)) with hc | hc
         ·refine .know (d:=87) R hc ?_
          exact .op (O.mv (Gu.mk R R) R R) R (.op (O.lenH sl53 (Gu.mk R R) R R R) R (.op (O.bi (Gu.mk R R) R R R R) R (.op (O.pkT Z R R R R) R ((J17 ((r7.1.length:Int) == 0) (andT hc).symm).sub [] R))))
         ·refine .know (d:=87) R hc ?_
          exact .sk R (.sk R (.sk R (.op (O.pkF Z R R R R) R ((J17 false (andF hc).symm).sub [] R))))
       ·intro J15
        rcases Bool.eq_false_or_eq_true ((r6.1 == 0) && (r6.2.1 == 0)) with hc | hc
        ·refine .know (d:=82) R hc ?_
         exact .op (O.mv (Gu.mk R R) R R) R (.op (O.mv (Gu.mk R R) R R) R (.op (O.bi (Gu.mk R R) R R R R) R (.op (O.pkT Z R R R R) R ((J15 (r6.2.2 == n10) (andT hc).symm).sub [] R))))
        ·refine .know (d:=82) R hc ?_
         exact .sk R (.sk R (.sk R (.op (O.pkF Z R R R R) R ((J15 false (andF hc).symm).sub [] R))))
      ·intro J13
       rcases Bool.eq_false_or_eq_true (r6.1 == 0) with hc | hc
       ·refine .know (d:=78) R hc ?_
        exact .op (O.mv (Gu.mk R R) R R) R (.op (O.bi (Gu.mk R R) R R R R) R (.op (O.pkT Z R R R R) R ((J13 (r6.2.1 == 0) (andT hc).symm).sub [] R)))
       ·refine .know (d:=78) R hc ?_
        exact .sk R (.sk R (.op (O.pkF Z R R R R) R ((J13 false (andF hc).symm).sub [] R)))
     ·refine .cF R hc ?_
      refine .skip (.seqN (.seq (.reg (.op (O.faP y5y Z R R) R (.op (O.lg (l':=[lF qI r5.2.1.1,lI r5.2.1.2.1,lF qI r5.2.1.2.2.1,lF qT r5.2.1.2.2.2]) ag35 Z R (.B R) R R R) R (.mv R (.mv R (bS hm fun r20 er20 hm=> .op (O.ca0 (y4y er20) cf27 R R Z R R R) R (.mv R (.op (O.ex Z R R R) R (.op (O.ex Z R R R) R (.sa R (.sa R (.nil (.seqN (.seq (.seq (.reg (.mv R (.mv R (.bi R (.mv R ?_))))))))))))))))))))))
      refine .cut 4 (fun (v21:Bool)=>((r6.1 != r20.1) || (r6.2.1 != r20.2))=v21) (fun v21=>⟨[(112,.b v21),(15,.i r20.2),(14,.i r20.1),(12,.i r7.2),(11,.h 0),(10,.i r6.2.2),(7,.q 1 0),(1,.i p1),(2,.f qI p2)],[(0,ROW (rL qI) 32 r7.1),(1,.bx 37 [lF qI r5.1.1,lI r5.1.2.1,lF qI r5.1.2.2.1,lF qT r5.1.2.2.2,lF qI r5.2.1.1,lI r5.2.1.2.1,lF qI r5.2.1.2.2.1,lF qT r5.2.1.2.2.2,lF qI r5.2.2])],2⟩) ?_ ?_
      ·rintro _ rfl
       refine .mv R ?_
       refine .cut 3 (fun (v23:Bool)=>(((r6.1 != r20.1) || (r6.2.1 != r20.2)) || (r6.2.2 != 0))=v23) (fun v23=>⟨[(116,.b v23),(15,.i r20.2),(14,.i r20.1),(12,.i r7.2),(11,.h 0),(7,.q 1 0),(1,.i p1),(2,.f qI p2)],[(0,ROW (rL qI) 32 r7.1),(1,.bx 37 [lF qI r5.1.1,lI r5.1.2.1,lF qI r5.1.2.2.1,lF qT r5.1.2.2.2,lF qI r5.2.1.1,lI r5.2.1.2.1,lF qI r5.2.1.2.2.1,lF qT r5.2.1.2.2.2,lF qI r5.2.2])],2⟩) ?_ ?_
       ·rintro _ rfl
        refine .mv R ?_
        refine .cut 3 (fun (v25:Bool)=>((((r6.1 != r20.1) || (r6.2.1 != r20.2)) || (r6.2.2 != 0)) || (r7.2 != 0))=v25) (fun v25=>⟨[(120,.b v25),(15,.i r20.2),(14,.i r20.1),(11,.h 0),(7,.q 1 0),(1,.i p1),(2,.f qI p2)],[(0,ROW (rL qI) 32 r7.1),(1,.bx 37 [lF qI r5.1.1,lI r5.1.2.1,lF qI r5.1.2.2.1,lF qT r5.1.2.2.2,lF qI r5.2.1.1,lI r5.2.1.2.1,lF qI r5.2.1.2.2.1,lF qT r5.2.1.2.2.2,lF qI r5.2.2])],2⟩) ?_ ?_
        ·rintro _ rfl
         refine .nil (.seqN ?_)
         rcases ifS hm with ⟨hc,hm⟩ | ⟨hc,hm⟩
         ·refine .cT R hc ?_
          refine .seq (.reg (.sa R (.nil (.seqN (.ret (.seqR ?_))))))
          obtain rfl:=oi hm
          exact WX.rt [] (.inl R) Tryz.results4 (.tmp R .nil) R (fun _ _ _ h=>h) trivial
         ·refine .cF R hc ?_
          refine .skip (.seqN (.seq (.reg (.sa R (.nil (.seqN (.seq (.seq (.reg (.mv R (bS hm fun r27 er27 hm=> .op (O.ca0 (y6m er27) cf28 R R Z R R R) R (.op (O.len sl53 Z R R) R (.mv R (.nil (.seqN (.block (bS hm fun o45 eo45 hm=>?_)))))))))))))))))
          refine .cutU (z:= .exit 0) (fun u47=> .inl u47=o45) (fun (u47:Int)=>⟨[(16,.i u47),(11,.h 0)],[(0,ROW (rL qI) 32 r7.1)],1⟩) ?_ fun K48=>?_
          ·rintro u47 rfl
           dsimp only at hm
           refine .blkE (.seqN (.seq (.reg (.mv R (.mv R (.op (O.lenH sl53 Z R R R) R (.bi R (.sa R (.nil (.seqN (.ret ?_)))))))))))
           obtain rfl:=oi hm
           exact WX.rt [] (.inl R) Tryz.results4 (.tmp R .nil) R (fun _ _ _ h=>h) trivial
          refine .cutU (z:= .ret) (fun u49=> .inr (u49)=o45) (fun (u49:Unit)=>⟨[(6,.b false)],[],0⟩) ?_ fun K50=>?_
          ·rintro u49 rfl
           dsimp only at hm
           refine .blkR (.seqR ?_)
           obtain rfl:=oi hm
           exact WX.rt [] (.inl R) Tryz.results4 (.tmp R .nil) R (fun _ _ _ h=>h) trivial
          refine .iter (fun (st45:Int×Int)=>⟨[(124,.i st45.1),(123,.i (r27.length:Int)),(122,.f (rL qI) r27),(16,.i st45.2),(15,.i r20.2),(14,.i r20.1),(11,.h 0),(7,.q 1 0),(1,.i p1),(2,.f qI p2)],[(0,ROW (rL qI) 32 r7.1),(1,.bx 37 [lF qI r5.1.1,lI r5.1.2.1,lF qI r5.1.2.2.1,lF qT r5.1.2.2.2,lF qI r5.2.1.1,lI r5.2.1.2.1,lF qI r5.2.1.2.2.1,lF qT r5.2.1.2.2.2,lF qI r5.2.2])],2⟩) eo45 [] R ?_
          intro st45 res45 hm ih45 ho45
          unfold yi at hm
          refine .seq (.reg (.bi R (.nil (.seqN (.seq ?_)))))
          rcases ifS hm with ⟨hc,hm⟩ | ⟨hc,hm⟩
          ·refine .cT R hc ?_
           refine .skip (.seqN ?_)
           refine .join1 (fun (n51:Int)=>yw st45 n51=some res45) (fun n51=>⟨[(124,.i st45.1),(123,.i (r27.length:Int)),(122,.f (rL qI) r27),(16,.i n51),(15,.i r20.2),(14,.i r20.1),(11,.h 0),(7,.q 1 0),(1,.i p1),(2,.f qI p2)],[(0,ROW (rL qI) 32 r7.1),(1,.bx 37 [lF qI r5.1.1,lI r5.1.2.1,lF qI r5.1.2.2.1,lF qT r5.1.2.2.2,lF qI r5.2.1.1,lI r5.2.1.2.1,lF qI r5.2.1.2.2.1,lF qT r5.2.1.2.2.2,lF qI r5.2.2])],2⟩) ?_ ?_
           ·intro n51 hm
            unfold yw at hm
            exact .reg (.bi R (.mv R (.nil ((ih45 _ (oi hm).symm).sub [] R))))
           ·intro Jj52
            refine .block (.seq (.reg (bS hm fun x53 ex53 hm=> .op (O.ix sl53 Z R R ex53 R) R (.op (O.ld nag32 Z R (.E lv32) R R) R (.sa R (.nil (.seqN (.seq (.reg (.op (O.faP y5y Z R R) R (.op (O.lg (l':=[lF qI r5.2.1.1,lI r5.2.1.2.1,lF qI r5.2.1.2.2.1,lF qT r5.2.1.2.2.2]) ag35 Z R (.B R) R R R) R (.mv R (.mv R (bS hm fun r54 er54 hm=> .op (O.ca0 (y4y er54) cf27 R R Z R R R) R (.mv R (.op (O.ex Z R R R) R (.op (O.ex Z R R R) R (.sa R (.sa R (.nil (.seqN (.seq (.seq (.reg (.mv R (.mv R (.op (O.len sl32 Z R R) R (.bi R (.mv R ?_)))))))))))))))))))))))))))))
            refine .cut 5 (fun (v55:Bool)=>((decide (r20.2 < (p2.length:Int))) || (decide (r54.2 < (p2.length:Int))))=v55) (fun v55=>⟨[(145,.b v55),(19,.i r54.1),(18,.f qI x53),(124,.i st45.1),(123,.i (r27.length:Int)),(122,.f (rL qI) r27),(16,.i st45.2),(15,.i r20.2),(14,.i r20.1),(11,.h 0),(7,.q 1 0),(1,.i p1),(2,.f qI p2)],[(0,ROW (rL qI) 32 r7.1),(1,.bx 37 [lF qI r5.1.1,lI r5.1.2.1,lF qI r5.1.2.2.1,lF qT r5.1.2.2.2,lF qI r5.2.1.1,lI r5.2.1.2.1,lF qI r5.2.1.2.2.1,lF qT r5.2.1.2.2.2,lF qI r5.2.2])],2⟩) ?_ ?_
            ·rintro _ rfl
             refine .mv R ?_
             refine .cut 4 (fun (v57:Bool)=>(((decide (r20.2 < (p2.length:Int))) || (decide (r54.2 < (p2.length:Int)))) || (r54.1 != r20.1))=v57) (fun v57=>⟨[(150,.b v57),(18,.f qI x53),(124,.i st45.1),(123,.i (r27.length:Int)),(122,.f (rL qI) r27),(16,.i st45.2),(15,.i r20.2),(14,.i r20.1),(11,.h 0),(7,.q 1 0),(1,.i p1),(2,.f qI p2)],[(0,ROW (rL qI) 32 r7.1),(1,.bx 37 [lF qI r5.1.1,lI r5.1.2.1,lF qI r5.1.2.2.1,lF qT r5.1.2.2.2,lF qI r5.2.1.1,lI r5.2.1.2.1,lF qI r5.2.1.2.2.1,lF qT r5.2.1.2.2.2,lF qI r5.2.2])],2⟩) ?_ ?_
             ·rintro _ rfl
              refine .nil (.seqN ?_)
              rcases ifS hm with ⟨hc,hm⟩ | ⟨hc,hm⟩
              ·refine .cT R hc ?_
               exact .exit (.seqX (.blkE ((Jj52 _ hm).sub [] R)))
              ·refine .cF R hc ?_
               refine .skip (.seqN (.seq (.seq (.reg (.mv R (.mv R (.op (O.lenH sl53 Z R R R) R (.bi R (.mv R (bS hm fun b59 eb59 hm=>?_))))))))))
               refine .cut 8 (fun (v60:Bool)=>b59=v60) (fun v60=>⟨[(163,.b v60),(124,.i st45.1),(123,.i (r27.length:Int)),(122,.f (rL qI) r27),(16,.i st45.2),(15,.i r20.2),(14,.i r20.1),(11,.h 0),(7,.q 1 0),(1,.i p1),(2,.f qI p2)],[(0,ROW (rL qI) 32 r7.1),(1,.bx 37 [lF qI r5.1.1,lI r5.1.2.1,lF qI r5.1.2.2.1,lF qT r5.1.2.2.2,lF qI r5.2.1.1,lI r5.2.1.2.1,lF qI r5.2.1.2.2.1,lF qT r5.2.1.2.2.2,lF qI r5.2.2])],2⟩) ?_ ?_
               ·rintro _ rfl
                refine .nil (.seqN ?_)
                rcases ifS hm with ⟨hc,hm⟩ | ⟨hc,hm⟩
                ·refine .cT R hc ?_
                 exact .seq (.reg (.sa R (.nil (.seqN (.ret (.seqR (.blkR (.seqR (.seqR ((K50 _ (ho45 _ (oi hm).symm)).sub [] R))))))))))
                ·refine .cF R hc ?_
                 exact .skip (.seqN (.reg (.mv R (.bi R (.sa R (.nil (.blkN ((Jj52 _ hm).sub [] R))))))))
               ·intro J61
                rcases ifS eb59 with ⟨hc,hm⟩ | ⟨hc,hm⟩
                ·refine .know (d:=155) R hc ?_
                 exact .sk R (.sk R (.sk R (.sk R (.sk R (.sk R (.sk R (.op (O.pkT Z R R R R) R ((J61 true (oi hm).symm).sub [] R))))))))
                ·refine .know (d:=155) R hc ?_
                 exact .op (O.mv (Gu.mk R R) R R) R (.op (O.mv (Gu.mk R R) R R) R (bS hm fun x62 ex62 hm=> .op (O.ir sl53 (Gu.mk R R) R R R ex62 R) R (.op (O.ld nag32 (Gu.mk R R) R (.R R ex62 lv32) R R) R (.op (O.mv (Gu.mk R R) R R) R (bS hm fun r63 er63 hm=> .op (O.ca0 (y5u er63) cf29 R R (Gu.mk R R) R R R) R (.op (O.not (Gu.mk R R) R R) R (.op (O.pkF Z R R R R) R ((J61 (!r63) (oi hm).symm).sub [] R))))))))
             ·intro J58
              rcases Bool.eq_false_or_eq_true ((decide (r20.2 < (p2.length:Int))) || (decide (r54.2 < (p2.length:Int)))) with hc | hc
              ·refine .know (d:=146) R hc ?_
               exact .sk R (.sk R (.sk R (.op (O.pkT Z R R R R) R ((J58 true (orT hc).symm).sub [] R))))
              ·refine .know (d:=146) R hc ?_
               exact .op (O.mv (Gu.mk R R) R R) R (.op (O.mv (Gu.mk R R) R R) R (.op (O.bi (Gu.mk R R) R R R R) R (.op (O.pkF Z R R R R) R ((J58 (r54.1 != r20.1) (orF hc).symm).sub [] R))))
            ·intro J56
             rcases Bool.eq_false_or_eq_true (decide (r20.2 < (p2.length:Int))) with hc | hc
             ·refine .know (d:=140) R hc ?_
              exact .sk R (.sk R (.sk R (.sk R (.op (O.pkT Z R R R R) R ((J56 true (orT hc).symm).sub [] R)))))
             ·refine .know (d:=140) R hc ?_
              exact .op (O.mv (Gu.mk R R) R R) R (.op (O.mv (Gu.mk R R) R R) R (.op (O.len sl32 (Gu.mk R R) R R) R (.op (O.bi (Gu.mk R R) R R R R) R (.op (O.pkF Z R R R R) R ((J56 (decide (r54.2 < (p2.length:Int))) (orF hc).symm).sub [] R)))))
          ·refine .cF R hc ?_
           exact .exit (.seqX (.seqX ((K48 _ (ho45 _ (oi hm).symm)).sub [] R)))
        ·intro J26
         rcases Bool.eq_false_or_eq_true (((r6.1 != r20.1) || (r6.2.1 != r20.2)) || (r6.2.2 != 0)) with hc | hc
         ·refine .know (d:=117) R hc ?_
          exact .sk R (.sk R (.op (O.pkT Z R R R R) R ((J26 true (orT hc).symm).sub [] R)))
         ·refine .know (d:=117) R hc ?_
          exact .op (O.mv (Gu.mk R R) R R) R (.op (O.bi (Gu.mk R R) R R R R) R (.op (O.pkF Z R R R R) R ((J26 (r7.2 != 0) (orF hc).symm).sub [] R)))
       ·intro J24
        rcases Bool.eq_false_or_eq_true ((r6.1 != r20.1) || (r6.2.1 != r20.2)) with hc | hc
        ·refine .know (d:=113) R hc ?_
         exact .sk R (.sk R (.op (O.pkT Z R R R R) R ((J24 true (orT hc).symm).sub [] R)))
        ·refine .know (d:=113) R hc ?_
         exact .op (O.mv (Gu.mk R R) R R) R (.op (O.bi (Gu.mk R R) R R R R) R (.op (O.pkF Z R R R R) R ((J24 (r6.2.2 != 0) (orF hc).symm).sub [] R)))
      ·intro J22
       rcases Bool.eq_false_or_eq_true (r6.1 != r20.1) with hc | hc
       ·refine .know (d:=108) R hc ?_
        exact .sk R (.sk R (.sk R (.op (O.pkT Z R R R R) R ((J22 true (orT hc).symm).sub [] R))))
       ·refine .know (d:=108) R hc ?_
        exact .op (O.mv (Gu.mk R R) R R) R (.op (O.mv (Gu.mk R R) R R) R (.op (O.bi (Gu.mk R R) R R R R) R (.op (O.pkF Z R R R R) R ((J22 (r6.2.1 != r20.2) (orF hc).symm).sub [] R))))
    ·intro Jj11
     refine .seq (.reg (.mv R (.bi R (.mv R (bS hm fun b64 eb64 hm=>?_)))))
     refine .cut 7 (fun (v65:Bool)=>b64=v65) (fun v65=>⟨[(73,.b v65),(13,.i n8),(12,.i r7.2),(11,.h 0),(10,.i r6.2.2),(9,.i r6.2.1),(8,.i r6.1),(7,.q 1 0),(1,.i p1),(2,.f qI p2)],[(0,ROW (rL qI) 32 r7.1),(1,.bx 37 [lF qI r5.1.1,lI r5.1.2.1,lF qI r5.1.2.2.1,lF qT r5.1.2.2.2,lF qI r5.2.1.1,lI r5.2.1.2.1,lF qI r5.2.1.2.2.1,lF qT r5.2.1.2.2.2,lF qI r5.2.2])],2⟩) ?_ ?_
     ·rintro _ rfl
      refine .nil (.seqN ?_)
      rcases ifS hm with ⟨hc,hm⟩ | ⟨hc,hm⟩
      ·refine .cT R hc ?_
       exact .reg (.sa R (.nil ((Jj11 _ hm).sub [] R)))
      ·refine .cF R hc ?_
       exact .skip ((Jj11 _ hm).sub [] R)
     ·intro J66
      rcases ifS eb64 with ⟨hc,hm⟩ | ⟨hc,hm⟩
      ·refine .know (d:=66) R hc ?_
       exact .op (O.mv (Gu.mk R R) R R) R (.op (O.faP y6c (Gu.mk R R) R R) R (.op (O.faP y1S (Gu.mk R R) R R) R (.op (O.ld nag32 (Gu.mk R R) R (.B R) R R) R (bS hm fun r67 er67 hm=> .op (O.ca0 (y4l er67) cf26 R R (Gu.mk R R) R R R) R (.op (O.not (Gu.mk R R) R R) R (.op (O.pkT Z R R R R) R ((J66 (!r67) (oi hm).symm).sub [] R)))))))
      ·refine .know (d:=66) R hc ?_
       exact .sk R (.sk R (.sk R (.sk R (.sk R (.sk R (.op (O.pkF Z R R R R) R ((J66 false (oi hm).symm).sub [] R)))))))
   ·intro Jj9
    refine .seq (.reg (.mv R (.bi R (.mv R ?_))))
    refine .cut 6 (fun (v68:Bool)=>((decide (p1 < 0)) || (decide (p1≥r5.2.1.2.1)))=v68) (fun v68=>⟨[(54,.b v68),(12,.i r7.2),(11,.h 6),(10,.i r6.2.2),(9,.i r6.2.1),(8,.i r6.1),(7,.q 5 0),(1,.i p1),(2,.f qI p2)],[(6,ROW (rL qI) 32 r7.1),(5,.bx 37 [lF qI r5.1.1,lI r5.1.2.1,lF qI r5.1.2.2.1,lF qT r5.1.2.2.2,lF qI r5.2.1.1,lI r5.2.1.2.1,lF qI r5.2.1.2.2.1,lF qT r5.2.1.2.2.2,lF qI r5.2.2])],7⟩) ?_ ?_
    ·rintro _ rfl
     refine .nil (.seqN ?_)
     rcases ifS hm with ⟨hc,hm⟩ | ⟨hc,hm⟩
     ·refine .cT R hc ?_
      exact .reg (.sa R (.nil ((Jj9 _ hm).sub [(0,6),(1,5)] R)))
     ·refine .cF R hc ?_
      refine .seq (.reg (.mv R (bS hm fun r70 er70 hm=> .op (O.ca0 (y2F er70) cf25 R R Z R R R) R (.sa R (.nil (.seqN (.seq (.reg (.mv R (.bi R (.mv R ?_)))))))))))
      refine .cut 4 (fun (v71:Bool)=>((r70 == 0) && (decide ((p2.length:Int) > 3)))=v71) (fun v71=>⟨[(63,.b v71),(13,.i r70),(12,.i r7.2),(11,.h 6),(10,.i r6.2.2),(9,.i r6.2.1),(8,.i r6.1),(7,.q 5 0),(1,.i p1),(2,.f qI p2)],[(6,ROW (rL qI) 32 r7.1),(5,.bx 37 [lF qI r5.1.1,lI r5.1.2.1,lF qI r5.1.2.2.1,lF qT r5.1.2.2.2,lF qI r5.2.1.1,lI r5.2.1.2.1,lF qI r5.2.1.2.2.1,lF qT r5.2.1.2.2.2,lF qI r5.2.2])],7⟩) ?_ ?_
      ·rintro _ rfl
       refine .nil (.seqN ?_)
       rcases ifS hm with ⟨hc,hm⟩ | ⟨hc,hm⟩
       ·refine .cT R hc ?_
        exact .reg (.sa R (.nil ((Jj9 _ hm).sub [(0,6),(1,5)] R)))
       ·refine .cF R hc ?_
        exact .skip ((Jj9 _ hm).sub [(0,6),(1,5)] R)
      ·intro J72
       rcases Bool.eq_false_or_eq_true (r70 == 0) with hc | hc
       ·refine .know (d:=59) R hc ?_
        exact .op (O.mv (Gu.mk R R) R R) R (.op (O.len sl32 (Gu.mk R R) R R) R (.op (O.bi (Gu.mk R R) R R R R) R (.op (O.pkT Z R R R R) R ((J72 (decide ((p2.length:Int) > 3)) (andT hc).symm).sub [] R))))
       ·refine .know (d:=59) R hc ?_
        exact .sk R (.sk R (.sk R (.op (O.pkF Z R R R R) R ((J72 false (andF hc).symm).sub [] R))))
    ·intro J69
     rcases Bool.eq_false_or_eq_true (decide (p1 < 0)) with hc | hc
     ·refine .know (d:=48) R hc ?_
      exact .sk R (.sk R (.sk R (.sk R (.sk R (.op (O.pkT Z R R R R) R ((J69 true (orT hc).symm).sub [] R))))))
     ·refine .know (d:=48) R hc ?_
      exact .op (O.mv (Gu.mk R R) R R) R (.op (O.faP y5y (Gu.mk R R) R R) R (.op (O.faP y1T (Gu.mk R R) R R) R (.op (O.ld nag3 (Gu.mk R R) R (.B R) R R) R (.op (O.bi (Gu.mk R R) R R R R) R (.op (O.pkF Z R R R R) R ((J69 (decide (p1≥r5.2.1.2.1)) (orF hc).symm).sub [] R))))))
 ·intro J3
  rcases Bool.eq_false_or_eq_true (!r1) with hc | hc
  ·refine .know (d:=23) R hc ?_
   exact .sk R (.sk R (.sk R (.op (O.pkT Z R R R R) R ((J3 true (orT hc).symm).sub [] R))))
  ·refine .know (d:=23) R hc ?_
   exact .op (O.mv (Gu.mk R R) R R) R (.op (O.len sl32 (Gu.mk R R) R R) R (.op (O.bi (Gu.mk R R) R R R R) R (.op (O.pkF Z R R R R) R ((J3 (decide ((p2.length:Int) > 5)) (orF hc).symm).sub [] R))))
end
end Go.Proofs.YtecmobjeeonmaaaGreatDoor
namespace Go.Proofs.YtecmobjeeonmaaaGreatDoor
def wval (u:List Int):Int:=u.foldl (fun acc e=>33 * acc + e + 1) 0
theorem y7G (u:List Int) (e:Int):wval (u ++ [e])=33 * wval u + e + 1:=by simp [wval,List.foldl_append]
def Evs (u:List Int):Prop:=∀e∈u,0≤e∧e < 32
theorem Evs.nil :Evs []:=fun e h=>by cases h
theorem Evs.snoc {u:List Int} {e:Int} (h:Evs u) (h0:0≤e) (h1:e < 32):Evs (u ++ [e]):=by
 intro x hx
 rcases List.mem_append.1 hx with h2 | h2
 ·exact h x h2
 ·rw [List.mem_singleton.1 h2];exact⟨h0,h1⟩
theorem Evs.of_snoc {u:List Int} {e:Int} (h:Evs (u ++ [e])):Evs u∧0≤e∧e < 32:=
 ⟨fun x hx=>h x (List.mem_append_left _ hx),h e (by simp)⟩
theorem yc1 {α:Type} {P:List α→Prop} (h0:P []) (h1:∀u e,P u→P (u ++ [e])) (u:List α):P u:=by
 have h2:∀n (u:List α),u.length=n→P u:=by
  intro n
  induction n with
  | zero=>intro u hu;rw [List.eq_nil_of_length_eq_zero hu];exact h0
  | succ n ih=>
   intro u hu
   rcases List.eq_nil_or_concat u with rfl | ⟨l,b,rfl⟩
   ·cases hu
   ·have hl:l.length=n:=by simpa using hu
    simpa using h1 l b (ih l hl)
 exact h2 _ u rfl
theorem yah (u:List Int):Evs u→0≤wval u:=by
 refine yc1 (P:=fun u=>Evs u→0≤wval u) (fun _=>Int.le_refl 0) (fun u e ih h=>?_) u
 have h1:=h.of_snoc
 have:=ih h1.1
 rw [y7G];omega
def Leads (es:List Ed) (perm:Ed→Bool) (s:Int):List Int→Int→Prop
 | [],t=>s=t
 | e :: u,t=>∃x∈es,x.f=s∧x.e=e∧perm x=true∧Leads es perm x.t u t
theorem Leads.snoc {es:List Ed} {perm:Ed→Bool}:∀{u:List Int} {s t:Int},Leads es perm s u t→∀{x:Ed},x∈es→x.f=t→perm x=true→Leads es perm s (u ++ [x.e]) x.t
 | [],s,t,h,x,hx,hf,hp=>⟨x,hx,by rw [hf];exact h.symm,rfl,hp,rfl⟩
 | e :: u,s,t,⟨y,hy,h1,h2,h3,h4⟩,x,hx,hf,hp=>⟨y,hy,h1,h2,h3,h4.snoc hx hf hp⟩
theorem Leads.of_snoc {es:List Ed} {perm:Ed→Bool} {e:Int}:∀{u:List Int} {s t:Int},Leads es perm s (u ++ [e]) t→∃x∈es,Leads es perm s u x.f∧x.e=e∧x.t=t∧perm x=true
 | [],s,t,⟨y,hy,h1,h2,h3,h4⟩=>⟨y,hy,h1.symm,h2,h4,h3⟩
 | a :: u,s,t,⟨y,hy,h1,h2,h3,h4⟩=>by
  obtain⟨x,hx,g1,g2,g3,g4⟩:=Leads.of_snoc (u:=u) h4
  exact⟨x,hx,⟨y,hy,h1,h2,h3,g1⟩,g2,g3,g4⟩
def EvEs (es:List Ed):Prop:=∀x∈es,0≤x.e∧x.e < 32
def edLt (x y:Ed):Prop:=x.f < y.f∨(x.f=y.f∧x.e < y.e)
def y8G (es:List Ed):Prop:=es.Pairwise edLt
def y7P (es:List Ed) (tg:List Int):Nat→Int→Prop
 | 0,s=>s∈tg
 | k + 1,s=>∃x∈es,x.f=s∧y7P es tg k x.t
end Go.Proofs.YtecmobjeeonmaaaGreatDoor
namespace Go.Proofs.YtecmobjeeonmaaaGreatDoor
open Go Go.RowKit
theorem W_of {x:Int} (h0: -9223372036854775808≤x) (h1:x < 9223372036854775808):W x=x:=IntWalk.i64_in _ (by omega)
theorem W_nat {k:Nat} (h:k < 9223372036854775808):W (k:Int)=k:=W_of (by omega) (by omega)
theorem ya {α:Type} {xs:List α} {i:Nat} (h:i < xs.length):idx xs (i:Int)=some xs[i]:=by rw [ycv,yGe h]
theorem y3M {S O:Type} {f:S→Option (S ⊕ O)} {s:S} {o:O} {n:Nat} (hn:n≤18446744073709551616) (h:iterF f n s=some o):iter f s=some o:=by
 have mono:∀(n m:Nat) (s:S),n≤m→iterF f n s=some o→iterF f m s=some o:=by
  intro n
  induction n with
  | zero=>intro m s _ h;cases h
  | succ n ih=>
   intro m s hm h
   obtain⟨k,rfl⟩:∃k,m=k + 1:=⟨m - 1,by omega⟩
   rw [ye] at h ⊢
   split at h
   ·cases h
   ·rename_i h1;exact ih k _ (by omega) h
   ·rename_i h1;exact h
 exact mono n _ s hn h
theorem yb {S O:Type} {f:S→Option (S ⊕ O)} (P:Nat→S→Prop) (Q:O→Prop):∀(n i:Nat),n < i + 18446744073709551616→(∀i s,i < n→P i s→(∃s',f s=some (.inl s')∧P (i + 1) s')∨∃o,f s=some (.inr o)∧Q o)→(∀s,P n s→∃o,f s=some (.inr o)∧Q o)→i≤n→
  ∀s,P i s→∃o,iter f s=some o∧Q o:=by
 have key:∀(n:Nat),(∀i s,i < n→P i s→(∃s',f s=some (.inl s')∧P (i + 1) s')∨∃o,f s=some (.inr o)∧Q o)→(∀s,P n s→∃o,f s=some (.inr o)∧Q o)→∀(j i:Nat),i + j=n→∀s,P i s→∃o,iterF f (j + 1) s=some o∧Q o:=by
  intro n step fin j
  induction j with
  | zero=>
   intro i hi s h
   obtain rfl:i=n:=by omega
   obtain⟨o,h1,h2⟩:=fin s h
   exact⟨o,by rw [ye,h1],h2⟩
  | succ j ih=>
   intro i hi s h
   rcases step i s (by omega) h with ⟨s',h1,h2⟩ | ⟨o,h1,h2⟩
   ·obtain ⟨o,h3,h4⟩:=ih (i + 1) (by omega) s' h2
    exact⟨o,by rw [ye,h1];exact h3,h4⟩
   ·exact ⟨o,by rw [ye,h1],h2⟩
 intro n i hn step fin hi s h
 obtain⟨o,h1,h2⟩:=key n step fin (n - i) i (by omega) s h
 exact⟨o,y3M (by omega) h1,h2⟩
theorem nxt {i:Nat} (h:i < 4611686018427387904):W ((i:Int) + 1)=((i + 1:Nat):Int):=by rw [show (i:Int) + 1=((i + 1:Nat):Int) by omega,W_nat (by omega)]
theorem ct_lt {i n:Nat} (h:i < n):decide ((i:Int) < (n:Int))=true:=by simp;omega
theorem ct_ge {n:Nat}:¬decide ((n:Int) < (n:Int))=true:=by simp
theorem y5G {α:Type} {xs:List α} {i:Nat} {y:α} (h:i < xs.length):upd xs (i:Int) y=some (xs.set i y):=by
 unfold upd
 rw [if_pos ⟨by omega,by omega⟩,Int.toNat_natCast]
theorem y6n {xs:List Int} (h:xs.length≤4294967296):yQ xs=some xs:=by
 rw [yQ,yE (by simpa using h)];rfl
def errO (e:Int):Unit ⊕ Int:=if e=0 then .inl () else .inr e
theorem yai {xs:List Int} {n:Int} (hl:xs.length < 4611686018427387904):∀(j i:Nat),i + j=xs.length→
  iterF (y1J xs n) (j + 1) (i:Int)=some (errO (yO n (y4s xs i) (xs.drop i))):=by
 intro j
 induction j with
 | zero=>
  intro i hi
  have e:xs.drop i= []:=List.drop_of_length_le (by omega)
  rw [ye,y1J,if_neg (by simp;omega),e]
  rfl
 | succ j ih=>
  intro i hi
  have hlt:i < xs.length:=by omega
  rw [ye,y1J,if_pos (by simp;omega),ya hlt,yOb]
  by_cases h1:xs[i] < 0∨n≤xs[i]
  ·rw [if_pos (by simpa using h1),ybO hlt h1]
   rfl
  ·rw [if_neg (by simpa using h1)]
   by_cases h0:0 < i
   ·rw [if_pos (by simp;omega),show(i:Int) - 1=((i - 1:Nat):Int) by omega,W_nat (by omega),ya (show i - 1 < xs.length by omega),yOb,yOb]
    by_cases h2:xs[i]≤xs[i - 1]
    ·rw [if_pos (by simpa using h2),ybP hlt h1 h0 h2]
     rfl
    ·rw [if_neg (by simpa using h2),show(i:Int) + 1=((i + 1:Nat):Int) by omega,W_nat (by omega),y7X hlt h1 (fun _=>by omega)]
     exact ih (i + 1) (by omega)
   ·rw [if_neg (by simp;omega),yOb,if_neg (by simp),show(i:Int) + 1=((i + 1:Nat):Int) by omega,W_nat (by omega),y7X hlt h1 (fun h=>absurd h h0)]
    exact ih (i + 1) (by omega)
theorem y6C {xs:List Int} {n:Int} (hl:xs.length < 4611686018427387904):y1i xs n=some (yO n none xs):=by
 have h:iter (y1J xs n) 0=some (errO (yO n none xs)):=y3M (by omega) (yai (n:=n) hl xs.length 0 (by omega))
 rw [y1i,h,yOb]
 by_cases h0:yO n none xs=0
 ·rw [h0];rfl
 ·rw [errO,if_neg h0]
theorem yc2 {xs:List Int} {x:Int} (hl:xs.length < 4611686018427387904):∀(j i:Nat),i + j=xs.length→
  ∃o,iterF (y1X xs x) (j + 1) (i:Int)=some o∧((o= .inl ()∧x∉xs.drop i)∨∃k:Nat,i≤k∧o= .inr (k:Int)∧x∈xs.drop i):=by
 intro j
 induction j with
 | zero=>
  intro i hi
  have e:xs.drop i= []:=List.drop_of_length_le (by omega)
  refine⟨.inl (),?_,.inl ⟨rfl,by rw [e];simp⟩⟩
  rw [ye,y1X,if_neg (by simp;omega)]
 | succ j ih=>
  intro i hi
  have hlt:i < xs.length:=by omega
  rw [ye,y1X,if_pos (by simp;omega),ya hlt,yOb]
  by_cases h1:x=xs[i]
  ·rw [if_pos (by simpa using h1)]
   exact⟨_,rfl,.inr ⟨i,Nat.le_refl _,rfl,by rw [List.drop_eq_getElem_cons hlt,h1];exact List.mem_cons_self⟩⟩
  ·rw [if_neg (by simpa using h1),show(i:Int) + 1=((i + 1:Nat):Int) by omega,W_nat (by omega)]
   obtain⟨o,h2,h3⟩:=ih (i + 1) (by omega)
   refine⟨o,h2,?_⟩
   rw [List.drop_eq_getElem_cons hlt]
   rcases h3 with ⟨h4,h5⟩ | ⟨k,h4,h5,h6⟩
   ·exact .inl ⟨h4,fun hc=>(List.mem_cons.1 hc).elim h1 h5⟩
   ·exact .inr ⟨k,by omega,h5,List.mem_cons_of_mem _ h6⟩
theorem y6D {xs:List Int} {x:Int} (hl:xs.length < 4611686018427387904):yx xs x=some (hasB xs x):=by
 obtain⟨o,h1,h2⟩:=yc2 (x:=x) hl xs.length 0 (by omega)
 have h:iter (y1X xs x) 0=some o:=y3M (by omega) h1
 rw [yx,y3O,h,yOb]
 rcases h2 with ⟨rfl,h4⟩ | ⟨k,_,rfl,h4⟩
 ·rw [y6Y.2 (by simpa using h4)];rfl
 ·rw [yl.2 (by simpa using h4)]
  show some (decide ((k:Int)≥0))=some true
  simp
def edP (x:Ed):Int×Int×Int:=(x.f,x.e,x.t)
def autP (a:Aut):List Int×Int×List Int×List (Int×Int×Int):=(a.al,a.n,a.ms,a.es.map edP)
def prevE (es:List Ed) (k:Nat):Option Ed:=if k=0 then none else es[k - 1]?
theorem yaj {al:List Int} {n:Int} {es:List Ed} {k:Nat} (hk:k < es.length):edErr al n (prevE es k) (es.drop k)=
  if(es[k].f < 0∨n≤es[k].f∨es[k].t < 0∨n≤es[k].t) then 2 else if hasB al es[k].e=false then 9 else if(∃q,prevE es k=some q∧(es[k].f < q.f∨(es[k].f=q.f∧es[k].e≤q.e))) then 5 else edErr al n (prevE es (k + 1)) (es.drop (k + 1)):=by
 rw [List.drop_eq_getElem_cons hk,edErr]
 congr 3
 simp [prevE,yGe hk]
theorem yc3 {a:Aut} (hl:a.es.length < 4611686018427387904) (hal:a.al.length < 4611686018427387904):∀(j i:Nat),i + j=a.es.length→
  iterF (y1o (autP a)) (j + 1) (i:Int)=some (errO (edErr a.al a.n (prevE a.es i) (a.es.drop i))):=by
 have hlen:(autP a).2.2.2.length=a.es.length:=by simp [autP]
 have hat:∀(i:Nat) (h:i < a.es.length),idx (autP a).2.2.2 (i:Int)=some (edP a.es[i]):=fun i h=>by
  rw [ya (by rw [hlen];exact h)];simp [autP]
 intro j
 induction j with
 | zero=>
  intro i hi
  have e:a.es.drop i= []:=List.drop_of_length_le (by omega)
  rw [ye,y1o,if_neg (by rw [hlen];simp;omega),e]
  rfl
 | succ j ih=>
  intro i hi
  have hlt:i < a.es.length:=by omega
  have hnext:y1n (i:Int)=some (.inl ((i + 1:Nat):Int)):=by
   rw [y1n,show(i:Int) + 1=((i + 1:Nat):Int) by omega,W_nat (by omega)]
  rw [ye,y1o,if_pos (by rw [hlen];simp;omega),hat i hlt,yOb,yaj hlt]
  by_cases h1:a.es[i].f < 0∨a.n≤a.es[i].f∨a.es[i].t < 0∨a.n≤a.es[i].t
  ·rw [if_pos (by simp only [Bool.or_eq_true,decide_eq_true_eq];show((a.es[i].f < 0∨a.es[i].f≥a.n)∨a.es[i].t < 0)∨a.es[i].t≥a.n;omega),if_pos h1]
   rfl
  ·rw [if_neg (by simp only [Bool.or_eq_true,decide_eq_true_eq];show ¬(((a.es[i].f < 0∨a.es[i].f≥a.n)∨a.es[i].t < 0)∨a.es[i].t≥a.n);omega),if_neg h1]
   rw [show yx (autP a).1 (edP a.es[i]).2.1=some (hasB a.al a.es[i].e) from y6D hal,yOb]
   cases h2:hasB a.al a.es[i].e with
   | false=>rfl
   | true=>
    rw [if_neg (show ¬(!true)=true by simp),if_neg (show ¬(true=false) by simp)]
    by_cases h0:i=0
    ·subst h0
     rw [if_pos (by simp),hnext,if_neg (by rintro⟨q,hq,_⟩;simp [prevE] at hq)]
     exact ih 1 (by omega)
    ·have hp:prevE a.es i=some a.es[i - 1]:=by rw [prevE,if_neg h0,yGe (by omega)]
     rw [if_neg (by simp;omega),show(i:Int) - 1=((i - 1:Nat):Int) by omega,W_nat (by omega),hat (i - 1) (by omega),yOb]
     by_cases h3:a.es[i].f < a.es[i - 1].f∨(a.es[i].f=a.es[i - 1].f∧a.es[i].e≤a.es[i - 1].e)
     ·rw [if_pos (by simp only [Bool.or_eq_true,Bool.and_eq_true,decide_eq_true_eq,beq_iff_eq];exact h3),if_pos ⟨_,hp,h3⟩]
      rfl
     ·rw [if_neg (by simp only [Bool.or_eq_true,Bool.and_eq_true,decide_eq_true_eq,beq_iff_eq];exact h3),hnext,if_neg (by rintro⟨q,hq,h4⟩;rw [hp] at hq;cases hq;exact h3 h4)]
      exact ih (i + 1) (by omega)
theorem ya6 {a:Aut} (hl:a.es.length < 4611686018427387904) (hal:a.al.length < 4611686018427387904) (hms:a.ms.length < 4611686018427387904):y1t (autP a)=some a.err:=by
 have h:iter (y1o (autP a)) 0=some (errO (edErr a.al a.n none a.es)):=y3M (by omega) (yc3 hl hal a.es.length 0 (by omega))
 have he:y2z (autP a)=some (edErr a.al a.n none a.es):=by
  rw [y2z,h,yOb]
  by_cases h0:edErr a.al a.n none a.es=0
  ·rw [h0];rfl
  ·rw [errO,if_neg h0]
 rw [y1t,show y1i (autP a).1 32=some (yO 32 none a.al) from y6C hal,yOb,Aut.err]
 by_cases h1:(yO 32 none a.al != 0)=true
 ·rw [if_pos h1,if_pos h1]
 ·rw [if_neg h1,if_neg h1]
  by_cases h2:a.n < 0
  ·rw [if_pos (show decide ((autP a).2.1 < 0)=true from decide_eq_true h2),if_pos h2]
  ·rw [if_neg (show ¬decide ((autP a).2.1 < 0)=true from fun e=>h2 (of_decide_eq_true e)),if_neg h2]
   by_cases h3:4096 < a.n
   ·rw [if_pos (show decide ((autP a).2.1 > 4096)=true from decide_eq_true h3),if_pos h3]
   ·rw [if_neg (show ¬decide ((autP a).2.1 > 4096)=true from fun e=>h3 (of_decide_eq_true e)),if_neg h3,show y1i (autP a).2.2.1 (autP a).2.1=some (yO a.n none a.ms) from y6C hms,yOb]
    by_cases h4:(yO a.n none a.ms != 0)=true
    ·rw [if_pos h4,if_pos h4]
    ·rw [if_neg h4,if_neg h4,he]
     rfl
abbrev Inc (xs:List Int):Prop:=xs.Pairwise (· < ·)
theorem ycO {i j:Nat} (h:i + j < 9223372036854775808):W ((IntKind.u64.wrap (W ((i:Int) + (j:Int)))).fdiv (2 ^ (min (1:Int).toNat 64)))=(((i + j) / 2:Nat):Int):=by
 rw [W_of (x:=(i:Int) + j) (by omega) (by omega),IntWalk.u64_in _ (by omega),show(2:Int) ^ (min (1:Int).toNat 64)=2 from rfl,Int.fdiv_eq_ediv_of_nonneg _ (by omega),W_of (by omega) (by omega)]
 omega
theorem ycP (x y:Int):y4b x y=some (decide (x < y)):=by
 rw [y4b,show y3q x=some false by rw [y3q];simp,yOb,if_neg (by simp),yOb,Bool.false_or]
theorem ydc {xs:List Int} {t:Int} (hl:xs.length < 4294967296) (hs:Inc xs):∀(f i j:Nat),j≤i + f→i≤j→j≤xs.length→(∀k (h:k < xs.length),k < i→xs[k] < t)→(∀k (h:k < xs.length),j≤k→t≤xs[k])→
  ∃p:Nat,iterF (yX xs t) (f + 1) ((j:Int),(i:Int))=some (p:Int)∧p≤xs.length∧(∀k (h:k < xs.length),k < p→xs[k] < t)∧(∀k (h:k < xs.length),p≤k→t≤xs[k]):=by
 intro f
 induction f with
 | zero=>
  intro i j h1 h2 h3 h4 h5
  refine⟨i,?_,by omega,h4,fun k h hk=>h5 k h (by omega)⟩
  rw [ye,yX,if_neg (by simp;omega)]
 | succ f ih=>
  intro i j h1 h2 h3 h4 h5
  rw [ye,yX]
  dsimp only
  by_cases hij:i < j
  ·have hm:(i + j) / 2 < xs.length:=by omega
   rw [if_pos (by simp;omega),ycO (by omega),ya hm,yOb,ycP,yOb]
   have mono:∀(a b:Nat) (ha:a < xs.length) (hb:b < xs.length),a≤b→xs[a]≤xs[b]:=fun a b ha hb hab=>by
    rcases Nat.lt_or_ge a b with h | h
    ·exact Int.le_of_lt (List.pairwise_iff_getElem.1 hs a b ha hb h)
    ·have:a=b:=by omega
     subst this
     exact Int.le_refl _
   by_cases hc:xs[(i + j) / 2] < t
   ·rw [if_pos (decide_eq_true hc),show(((i + j) / 2:Nat):Int) + 1=(((i + j) / 2 + 1:Nat):Int) by omega,W_nat (by omega)]
    exact ih _ j (by omega) (by omega) h3 (fun k h hk=>by have:=mono k _ h hm (by omega);omega) h5
   ·rw [if_neg (by simpa using hc)]
    exact ih i _ (by omega) (by omega) (by omega) h4 (fun k h hk=>by have:=mono _ k hm h hk;omega)
  ·rw [if_neg (by simp;omega)]
   exact⟨i,rfl,by omega,h4,fun k h hk=>h5 k h (by omega)⟩
theorem y4z {xs:List Int} {t:Int} (hl:xs.length < 4294967296) (hs:Inc xs):yH xs t=some (hasB xs t):=by
 obtain⟨p,hp,hle,hlo,hhi⟩:=ydc (t:=t) hl hs xs.length 0 xs.length (by omega) (by omega) (by omega) (fun k h hk=>absurd hk (by omega)) (fun k h hk=>absurd hk (by omega))
 have hi:iter (yX xs t) ((xs.length:Int),0)=some (p:Int):=y3M (by omega) hp
 rw [yH,y2Q,hi,yOb]
 by_cases hlt:p < xs.length
 ·rw [if_pos (by simpa using hlt),ya hlt,yOb]
  by_cases he:xs[p]=t
  ·rw [if_pos (by simpa using he)]
   show some true=_
   rw [yl.2 (he ▸ List.getElem_mem hlt)]
  ·rw [if_neg (by simpa using he),yOb,show y2H xs[p]=some false by rw [y2H];simp,yOb,if_neg (by simp)]
   show some false=_
   rw [y6Y.2]
   intro hm
   obtain⟨k,hk,hk2⟩:=List.getElem_of_mem hm
   rcases Nat.lt_trichotomy k p with h | h | h
   ·have:=hlo k hk h;omega
   ·subst h;exact he hk2
   ·have:=hhi p hlt (Nat.le_refl _)
    have:=List.pairwise_iff_getElem.1 hs p k hlt hk h
    omega
 ·rw [if_neg (by simpa using hlt)]
  show some false=_
  rw [y6Y.2]
  intro hm
  obtain⟨k,hk,hk2⟩:=List.getElem_of_mem hm
  have:=hlo k hk (by omega)
  omega
theorem y5d {n:Int}:∀{p:Option Int} {xs:List Int},xs.Pairwise (· < ·)→(∀x∈xs,0≤x∧x < n)→(∀q,p=some q→∀x∈xs,q < x)→yO n p xs=0
 | _,[],_,_,_=>rfl
 | p,x :: xs,h,hr,hp=>by
  obtain⟨h1,h2⟩:=List.pairwise_cons.1 h
  have h3:=hr x (List.mem_cons_self ..)
  rw [yO,if_neg (by omega),if_neg ?_]
  ·exact y5d h2 (fun y hy=>hr y (List.mem_cons_of_mem _ hy)) (fun q hq y hy=>by cases hq;exact h1 y hy)
  ·rintro ⟨q,hq,hle⟩
   have:=hp q hq x (List.mem_cons_self ..)
   omega
theorem ya7 {al:List Int} {n:Int}:∀{p:Option Ed} {es:List Ed},y8G es→(∀x∈es,0≤x.f∧x.f < n∧0≤x.t∧x.t < n∧hasB al x.e=true)→(∀q,p=some q→∀x∈es,edLt q x)→edErr al n p es=0
 | _,[],_,_,_=>rfl
 | p,x :: xs,h,hr,hp=>by
  obtain⟨h1,h2⟩:=List.pairwise_cons.1 h
  have h3:=hr x (List.mem_cons_self ..)
  rw [edErr,if_neg (by omega),if_neg (by rw [h3.2.2.2.2];simp),if_neg ?_]
  ·exact ya7 h2 (fun y hy=>hr y (List.mem_cons_of_mem _ hy)) (fun q hq y hy=>by cases hq;exact h1 y hy)
  ·rintro ⟨q,hq,hle⟩
   have:=hp q hq x (List.mem_cons_self ..)
   unfold edLt at this
   omega
theorem y8H (a:AutT):autP (toAut a)=a:=by
 obtain⟨x,y,z,es⟩:=a
 simp only [autP,toAut,List.map_map]
 rw [show (edP ∘ toEd)=id from rfl,List.map_id]
structure Right (a:AutT) (n:Nat):Prop where
 nn:a.2.1=(n:Int)
 nl:n≤4096
 ali:Inc a.1
 alr:∀x∈a.1,0≤x∧x < 32
 msi:Inc a.2.2.1
 msr:∀x∈a.2.2.1,0≤x∧x < (n:Int)
 es:∀x∈a.2.2.2,0≤x.1∧x.1 < (n:Int)∧0≤x.2.2∧x.2.2 < (n:Int)∧x.2.1∈a.1
 so:a.2.2.2.Pairwise fun x y=>x.1 < y.1∨(x.1=y.1∧x.2.1 < y.2.1)
 l1:a.1.length≤1000000
 l2:a.2.2.1.length≤1000000
 l3:a.2.2.2.length≤1000000
namespace Right
variable {a:AutT} {n:Nat}
theorem sorted (h:Right a n):y8G (a.2.2.2.map toEd):=by
 unfold y8G
 rw [List.pairwise_map]
 exact h.so
theorem ein (h:Right a n):∀x∈a.2.2.2.map toEd,0≤x.f∧x.f < (n:Int)∧0≤x.t∧x.t < (n:Int):=fun x hx=>by
 obtain⟨y,hy,rfl⟩:=List.mem_map.1 hx
 have:=h.es y hy
 exact⟨this.1,this.2.1,this.2.2.1,this.2.2.2.1⟩
theorem evs (h:Right a n):EvEs (a.2.2.2.map toEd):=fun x hx=>by
 obtain⟨y,hy,rfl⟩:=List.mem_map.1 hx
 exact h.alr _ (h.es y hy).2.2.2.2
theorem err (h:Right a n):(toAut a).err=0:=by
 have h1:yO 32 none (toAut a).al=0:=y5d h.ali h.alr (fun q hq=>by cases hq)
 have hn:(toAut a).n=n:=h.nn
 have h2:yO (toAut a).n none (toAut a).ms=0:=by rw [hn];exact y5d h.msi h.msr (fun q hq=>by cases hq)
 have h3:edErr (toAut a).al (toAut a).n none (toAut a).es=0:=by
  rw [hn]
  refine ya7 h.sorted (fun x hx=>?_) (fun q hq=>by cases hq)
  obtain⟨y,hy,rfl⟩:=List.mem_map.1 hx
  have:=h.es y hy
  exact⟨this.1,this.2.1,this.2.2.1,this.2.2.2.1,yl.2 this.2.2.2.2⟩
 have:=h.nl
 unfold Aut.err
 rw [h1,if_neg (by decide),if_neg (by rw [hn];omega),if_neg (by rw [hn];omega),h2,if_neg (by decide),h3]
theorem check (h:Right a n):y1t a=some 0:=by
 have h1:=h.l1
 have h2:=h.l2
 have h3:=h.l3
 have:=ya6 (a:=toAut a) (by simp [toAut];omega) (by simp [toAut];omega) (by simp [toAut];omega)
 rwa [y8H,h.err] at this
end Right
theorem y3u {n:Nat}:∀{xs:List Int} {lo:Int},Inc xs→(∀x∈xs,lo≤x∧x < (n:Int))→0≤lo→xs.length≤n - lo.toNat
 | [],_,_,_,_=>Nat.zero_le _
 | x :: xs,lo,h,hr,h0=>by
  obtain⟨h1,h2⟩:=List.pairwise_cons.1 h
  have hx:=hr x (List.mem_cons_self ..)
  have:=y3u (n:=n) (lo:=x + 1) h2 (fun y hy=>⟨by have:=h1 y hy;omega,(hr y (List.mem_cons_of_mem _ hy)).2⟩) (by omega)
  rw [List.length_cons]
  omega
theorem y2O {α:Type} (a:α) (us:List α):idx (a :: us) 0=some a:=rfl
theorem y4j {α:Type} (a:α) (us:List α):slc (a :: us) 1 ((a :: us).length:Int)=some us:=by
 rw [slc,if_pos ⟨by omega,by simp;omega,by omega⟩]
 simp
structure Mrg (out us vs:List Int):Prop where
 o:Inc out
 u:Inc us
 v:Inc vs
 ou:∀x∈out,∀y∈us,x < y
 ov:∀x∈out,∀y∈vs,x < y
 ro:∀x∈out,0≤x∧x < 32
 ru:∀x∈us,0≤x∧x < 32
 rv:∀x∈vs,0≤x∧x < 32
theorem Mrg.swap {out us vs:List Int} (h:Mrg out us vs):Mrg out vs us:=⟨h.o,h.v,h.u,h.ov,h.ou,h.ro,h.rv,h.ru⟩
theorem Mrg.push {out us vs:List Int} {a:Int} (h:Mrg out (a :: us) vs) (hv:∀y∈vs,a < y):Mrg (out ++ [a]) us vs:=by
 obtain⟨u1,u2⟩:=List.pairwise_cons.1 h.u
 refine⟨?_,u2,h.v,?_,?_,?_,fun x hx=>h.ru x (List.mem_cons_of_mem _ hx),h.rv⟩
 ·unfold Inc;rw [List.pairwise_append]
  exact⟨h.o,List.pairwise_singleton _ _,fun x hx y hy=>by rw [List.mem_singleton.1 hy];exact h.ou x hx a (List.mem_cons_self ..)⟩
 ·intro x hx y hy
  rcases List.mem_append.1 hx with hx | hx
  ·exact h.ou x hx y (List.mem_cons_of_mem _ hy)
  ·rw [List.mem_singleton.1 hx];exact u1 y hy
 ·intro x hx y hy
  rcases List.mem_append.1 hx with hx | hx
  ·exact h.ov x hx y hy
  ·rw [List.mem_singleton.1 hx];exact hv y hy
 ·intro x hx
  rcases List.mem_append.1 hx with hx | hx
  ·exact h.ro x hx
  ·rw [List.mem_singleton.1 hx];exact h.ru a (List.mem_cons_self ..)
theorem Mrg.tailv {out us vs:List Int} {a:Int} (h:Mrg out us (a :: vs)):Mrg out us vs:=
 ⟨h.o,h.u,(List.pairwise_cons.1 h.v).2,h.ou,fun x hx y hy=>h.ov x hx y (List.mem_cons_of_mem _ hy),h.ro,h.ru,fun x hx=>h.rv x (List.mem_cons_of_mem _ hx)⟩
theorem Mrg.len {out us vs:List Int} (h:Mrg out us vs):out.length≤32:=by
 have:=y3u (n:=32) (lo:=0) h.o h.ro (Int.le_refl _)
 simpa using this
theorem Mrg.lt {out us vs:List Int} {a b:Int} (h:Mrg out us (b :: vs)) (hab:a < b):∀y∈b :: vs,a < y:=fun y hy=>by
 rcases List.mem_cons.1 hy with rfl | hy
 ·exact hab
 ·have:=(List.pairwise_cons.1 h.v).1 y hy;omega
theorem yaV {out us vs:List Int} (h:Mrg out us vs) (hne:0 < us.length + vs.length):
  ∃o u v,yn yt (out,us,vs)=some (.inl (o,u,v))∧Mrg o u v∧u.length + v.length + 1≤us.length + vs.length:=by
 have hl:=h.len
 have ho:∀a:Int,app out ([a]:List Int)=some (out ++ [a]):=fun a=>yE (by simp;omega)
 cases us with
 | nil=>
  cases vs with
  | nil=>simp at hne
  | cons b vs=>
   refine⟨out ++ [b],[],vs,?_,(h.swap.push (fun y hy=>by cases hy)).swap,by simp⟩
   rw [yn]
   dsimp only
   rw [if_pos (by simp),if_neg (by simp),yG]
   dsimp only
   rw [if_pos (by simp),if_pos (by simp),yr,if_neg (by simp),ym,if_pos rfl]
   dsimp only
   rw [y2O,yOb,y4j,yOb,yF,show yt false true=some true from rfl,yOb,if_pos rfl]
   dsimp only
   rw [ho,yOb]
 | cons a us=>
  cases vs with
  | nil=>
   refine⟨out ++ [a],us,[],?_,h.push (fun y hy=>by cases hy),by simp⟩
   rw [yn]
   dsimp only
   rw [if_pos (by simp),if_pos (by simp),if_pos (by simp),yG]
   dsimp only
   rw [if_neg (by simp),yr,if_pos rfl]
   dsimp only
   rw [y2O,yOb,y4j,yOb,ym,if_neg (by simp),yF,show yt true false=some true from rfl,yOb,if_pos rfl]
   dsimp only
   rw [ho,yOb]
  | cons b vs=>
   have e0:yn yt (out,a :: us,b :: vs)=yr yt (out,a :: us,b :: vs) (decide (a≤b)) (decide (b≤a)):=by
    rw [yn]
    dsimp only
    rw [if_pos (by simp),if_pos (by simp),if_neg (by simp;omega),y2O,yOb,y2O,yOb,yG]
    dsimp only
    rw [if_pos (by simp),if_neg (by simp;omega),y2O,yOb,y2O,yOb]
   rw [e0,yr]
   dsimp only
   by_cases h1:a < b
   ·refine ⟨out ++ [a],us,b :: vs,?_,h.push (h.lt h1),by simp;omega⟩
    rw [if_pos (show decide (a≤b)=true by simp;omega),y2O,yOb,y4j,yOb,ym,if_neg (by simp;omega),yF,show decide (a≤b)=true by simp;omega,show decide (b≤a)=false by simp;omega,
     show yt true false=some true from rfl,yOb,if_pos rfl]
    dsimp only
    rw [ho,yOb]
   ·by_cases h2:b < a
    ·refine ⟨out ++ [b],a :: us,vs,?_,(h.swap.push (h.swap.lt h2)).swap,by simp;omega⟩
     rw [if_neg (show ¬decide (a≤b)=true by simp;omega),ym,if_pos (show decide (b≤a)=true by simp;omega)]
     dsimp only
     rw [y2O,yOb,y4j,yOb,yF,show decide (a≤b)=false by simp;omega,show decide (b≤a)=true by simp;omega,
      show yt false true=some true from rfl,yOb,if_pos rfl]
     dsimp only
     rw [ho,yOb]
    ·obtain rfl:a=b:=by omega
     refine⟨out ++ [a],us,vs,?_,h.tailv.push ((List.pairwise_cons.1 h.v).1),by simp;omega⟩
     rw [if_pos (show decide (a≤a)=true by simp),y2O,yOb,y4j,yOb,ym,if_pos (show decide (a≤a)=true by simp)]
     dsimp only
     rw [y2O,yOb,y4j,yOb,yF,show decide (a≤a)=true by simp,
      show yt true true=some true from rfl,yOb,if_pos rfl]
     dsimp only
     rw [ho,yOb]
def Alp (xs:List Int):Prop:=Inc xs∧∀x∈xs,0≤x∧x < 32
theorem Alp.nil :Alp []:=⟨List.Pairwise.nil,fun x hx=>by cases hx⟩
theorem Alp.len {xs:List Int} (h:Alp xs):xs.length≤32:=by
 have:=y3u (n:=32) (lo:=0) h.1 h.2 (Int.le_refl _)
 simpa using this
theorem yc4 {us vs:List Int} (hu:Alp us) (hv:Alp vs):∃o,y2D us vs=some o∧Alp o:=by
 have h0:Mrg [] us vs:=⟨List.Pairwise.nil,hu.1,hv.1,fun x hx=>(by cases hx),fun x hx=>(by cases hx),fun x hx=>(by cases hx),hu.2,hv.2⟩
 have l1:=hu.len
 have l2:=hv.len
 obtain⟨o,h1,h2⟩:=yb (f:=yn yt) (fun i s=>Mrg s.1 s.2.1 s.2.2∧s.2.1.length + s.2.2.length + i≤us.length + vs.length) (fun o=>Alp o) (us.length + vs.length) 0 (by omega) (fun i s hi ⟨g1,g2⟩=>by
   obtain⟨out,u,v⟩:=s
   dsimp only at g1 g2
   by_cases hne:0 < u.length + v.length
   ·obtain ⟨o,u',v',e,g3,g4⟩:=yaV g1 hne
    exact .inl ⟨_,e,g3,by dsimp only;omega⟩
   ·have e1:u= []:=List.eq_nil_of_length_eq_zero (by omega)
    have e2:v= []:=List.eq_nil_of_length_eq_zero (by omega)
    subst e1;subst e2
    exact .inr ⟨out,rfl,g1.o,g1.ro⟩) (fun s ⟨g1,g2⟩=>by
   obtain⟨out,u,v⟩:=s
   dsimp only at g1 g2
   have e1:u= []:=List.eq_nil_of_length_eq_zero (by omega)
   have e2:v= []:=List.eq_nil_of_length_eq_zero (by omega)
   subst e1;subst e2
   exact⟨out,rfl,g1.o,g1.ro⟩) (Nat.zero_le _) ([],us,vs) ⟨h0,by dsimp only;omega⟩
 exact⟨o,by rw [y2D,y2d,h1];rfl,h2⟩
theorem ybv {l:List AutT} (hl:l.length≤1000) (h:∀a∈l,Alp a.1):∃ev,y2E l=some ev∧Alp ev:=by
 obtain⟨o,h1,h2⟩:=yb (f:=y1c l) (fun i s=>s.1=(i:Int)∧Alp s.2) (fun o=>Alp o) l.length 0 (by omega) (fun i s hi ⟨e1,g1⟩=>by
   obtain⟨k,out⟩:=s
   dsimp only at e1 g1
   subst e1
   obtain⟨o,e,g2⟩:=yc4 g1 (h _ (List.getElem_mem hi))
   refine .inl ⟨(((i + 1:Nat):Int),o),?_,rfl,g2⟩
   rw [y1c]
   dsimp only
   rw [if_pos (ct_lt hi),ya hi,yOb,e,yOb,nxt (by omega)]) (fun s ⟨e1,g1⟩=>by
   obtain⟨k,out⟩:=s
   dsimp only at e1 g1
   subst e1
   refine⟨out,?_,g1⟩
   rw [y1c]
   dsimp only
   rw [if_neg ct_ge]) (Nat.zero_le _) (0,[]) ⟨rfl,Alp.nil⟩
 exact⟨o,by rw [y2E,h1];rfl,h2⟩
section
variable {κ β:Type} [BEq κ]
theorem yc5 {m:List (κ×β)} {k:κ} {v:β} (h:kget m k=some v):∃e∈m,e.2=v:=by
 unfold kget at h
 rw [Option.map_eq_some_iff] at h
 obtain⟨e,h1,h2⟩:=h
 exact⟨e,List.mem_of_find?_eq_some h1,h2⟩
theorem y6o {m:List (κ×β)} {k:κ} {v:β} {e:κ×β} (h:e∈kput m k v):e∈m∨e=(k,v):=by
 unfold kput at h
 split at h
 ·exact List.mem_or_eq_of_mem_set h
 ·rcases List.mem_append.1 h with h | h
  ·exact .inl h
  ·exact .inr (List.mem_singleton.1 h)
theorem y8a {m:List (κ×β)} {k:κ}:(kget m k).isSome=m.any fun p=>k == p.1:=by
 unfold kget
 induction m with
 | nil=>rfl
 | cons p m ih=>
  rw [List.any_cons]
  cases h:k == p.1 with
  | true=>rw [List.find?_cons_of_pos (by simpa using h)];rfl
  | false=>rw [List.find?_cons_of_neg (by simp [h])];simpa using ih
end
theorem beqB (k:ByteArray):(k == k)=true:=by rw [beq_toListBytes];simp
theorem y9B {β:Type} {m:List (ByteArray×β)} {k:ByteArray} {v:β}:(kget (kput m k v) k).isSome=true:=by
 rw [y8a,List.any_eq_true]
 refine⟨(k,v),?_,beqB k⟩
 unfold kput
 split
 ·rename_i h;exact List.mem_set h _
 ·exact List.mem_append_right _ (List.mem_singleton.2 rfl)
theorem ybw {β:Type} {m:List (ByteArray×β)} {k q:ByteArray} {v:β} (h:(kget m q).isSome=true):(kget (kput m k v) q).isSome=true:=by
 rw [y8a,List.any_eq_true] at h ⊢
 obtain⟨e,h1,h2⟩:=h
 have hq:=eqS h2
 unfold kput
 split
 ·rename_i hlt
  obtain⟨i,hi,rfl⟩:=List.getElem_of_mem h1
  by_cases e:kidx (m.map (·.1)) k=i
  ·refine ⟨(k,v),List.mem_set hlt _,?_⟩
   have hk:(fun p=>k == p) ((m.map (·.1))[kidx (m.map (·.1)) k]'(by rw [List.length_map];exact hlt))=true:=List.findIdx_getElem (p:=fun p=>k == p) (w:=by rw [List.length_map];exact hlt)
   rw [List.getElem_map] at hk
   have hk:=eqS hk
   subst e
   rw [hq,←hk]
   exact beqB k
  ·refine ⟨m[i],?_,h2⟩
   have:=List.getElem_set_ne (l:=m) e (a:=(k,v)) (by rw [List.length_set];exact hi)
   rw [←this]
   exact List.getElem_mem _
 ·exact ⟨e,List.mem_append_left _ h1,h2⟩
def InT (l:List AutT) (t:List Int):Prop:=t.length=l.length∧∀i (h:i < l.length) (h':i < t.length),0≤t[i]∧t[i] < l[i].2.1
theorem InT.set {l:List AutT} {t:List Int} (h:InT l t) {i:Nat} (hi:i < l.length) {v:Int} (h0:0≤v) (h1:v < l[i].2.1):InT l (t.set i v):=by
 refine⟨by rw [List.length_set];exact h.1,fun k hk hk'=>?_⟩
 rw [List.getElem_set]
 split
 ·rename_i e;subst e;exact⟨h0,h1⟩
 ·exact h.2 k hk _
structure MOk (l:List AutT) (m:List AutT×List Int×List (List ((Int×Int)×Int))):Prop where
 ml:m.1=l
 ev:Alp m.2.1
 len:m.2.2.length=l.length
 edge:∀i (h:i < l.length) (h':i < m.2.2.length),∀e∈m.2.2[i],0≤e.2∧e.2 < l[i].2.1
theorem ycQ {a:AutT} {n:Nat} (hr:Right a n):∃o,iter (y1e a) (0,([]:List ((Int×Int)×Int)))=some o∧∀e∈o,0≤e.2∧e.2 < (n:Int):=by
 have hl:=hr.l3
 refine yb (f:=y1e a) (fun i s=>s.1=(i:Int)∧∀e∈s.2,0≤e.2∧e.2 < (n:Int)) (fun o=>∀e∈o,0≤e.2∧e.2 < (n:Int)) a.2.2.2.length 0 (by omega) (fun i s hi ⟨e1,g1⟩=>?_) (fun s ⟨e1,g1⟩=>?_) (Nat.zero_le _) _ ⟨rfl,fun e he=>(by cases he)⟩
 ·obtain ⟨k,out⟩:=s
  dsimp only at e1 g1
  subst e1
  have hx:=hr.es _ (List.getElem_mem hi)
  refine .inl ⟨(((i + 1:Nat):Int),kput out (a.2.2.2[i].1,a.2.2.2[i].2.1) a.2.2.2[i].2.2),?_,rfl,fun e he=>?_⟩
  ·rw [y1e]
   dsimp only
   rw [if_pos (ct_lt hi),ya hi,yOb,nxt (by omega)]
  ·rcases y6o he with he | he
   ·exact g1 e he
   ·rw [he];exact⟨hx.2.2.1,hx.2.2.2.1⟩
 ·obtain ⟨k,out⟩:=s
  dsimp only at e1 g1
  subst e1
  refine⟨out,?_,g1⟩
  rw [y1e]
  dsimp only
  rw [if_neg ct_ge]
def keyK (t:List Int):ByteArray:=⟨(keyB t).toArray⟩
theorem y5e :∀(N:Nat) (l:List Nat),l.Nodup→(∀x∈l,x < N)→l.length≤N
 | 0,[],_,_=>Nat.le_refl _
 | 0,x :: l,_,h=>absurd (h x (List.mem_cons_self ..)) (by omega)
 | N + 1,l,hn,h=>by
  by_cases hm:N∈l
  ·have h1:=y5e N (l.erase N) (hn.erase N) (fun x hx=>by
    have h2:=(hn.mem_erase_iff).1 hx
    have:=h x h2.2
    omega)
   rw [List.length_erase_of_mem hm] at h1
   omega
  ·have h1:=y5e N l hn (fun x hx=>by
    have:=h x hx
    have:x≠N:=fun e=>hm (e ▸ hx)
    omega)
   omega
abbrev Kno :=List (ByteArray×Int)
structure SI (l:List AutT) (ev:List Int) (i j:Nat) (kn:Kno) (T:List (List Int)) (E:List (Int×Int×Int)):Prop where
 pos:0 < T.length
 nd:T.Nodup
 inT:∀t∈T,InT l t
 key:∀t∈T,(kget kn (keyK t)).isSome=true
 val:∀e∈kn,0≤e.2∧e.2 < (T.length:Int)
 er:∀x∈E,0≤x.1∧x.1≤(i:Int)∧0≤x.2.2∧x.2.2 < (T.length:Int)∧x.2.1∈ev
 es:∀x∈E,x.1=(i:Int)→x.2.1∈ev.take j
 so:E.Pairwise fun x y=>x.1 < y.1∨(x.1=y.1∧x.2.1 < y.2.1)
 el:E.length≤32 * i + j
 lk:∀k:Nat,0 < k→k < T.length→∃x∈E,x.2.2=(k:Int)∧0≤x.1∧x.1 < (k:Int)
section
variable {l:List AutT} {ev:List Int} {i j:Nat} {kn:Kno} {T:List (List Int)} {E:List (Int×Int×Int)}
theorem SI.skip (h:SI l ev i j kn T E):SI l ev i (j + 1) kn T E:=
 ⟨h.pos,h.nd,h.inT,h.key,h.val,h.er,fun x hx e=>(List.take_subset_take_left ev (Nat.le_succ j)) (h.es x hx e),h.so,by have:=h.el;omega,h.lk⟩
theorem SI.next (h:SI l ev i j kn T E) (hj:j≤32):SI l ev (i + 1) 0 kn T E:=
 ⟨h.pos,h.nd,h.inT,h.key,h.val,fun x hx=>by have:=h.er x hx;exact⟨this.1,by omega,this.2.2⟩,fun x hx e=>by have:=h.er x hx;omega,h.so,by have:=h.el;omega,h.lk⟩
theorem yaI (he:Inc ev) (hj:j < ev.length):∀x∈ev.take j,x < ev[j]:=fun x hx=>by
 obtain⟨k,hk,rfl⟩:=List.getElem_of_mem hx
 rw [List.length_take] at hk
 rw [List.getElem_take]
 exact List.pairwise_iff_getElem.1 he k j (by omega) hj (by omega)
theorem SI.edge (h:SI l ev i j kn T E) (he:Inc ev) (hi:i < T.length) (hj:j < ev.length) {q:Int} (h0:0≤q) (h1:q < T.length):SI l ev i (j + 1) kn T (E ++ [((i:Int),ev[j],q)]):=by
 refine⟨h.pos,h.nd,h.inT,h.key,h.val,fun x hx=>?_,fun x hx e=>?_,?_,by have:=h.el;rw [List.length_append,List.length_singleton];omega,fun k h2 h3=>?_⟩
 ·rcases List.mem_append.1 hx with hx | hx
  ·exact h.er x hx
  ·rw [List.mem_singleton.1 hx];exact⟨by dsimp only;omega,by dsimp only;omega,h0,h1,List.getElem_mem _⟩
 ·rcases List.mem_append.1 hx with hx | hx
  ·exact (List.take_subset_take_left ev (Nat.le_succ j)) (h.es x hx e)
  ·rw [List.mem_singleton.1 hx,y7B ev j hj];exact List.mem_append_right _ (List.mem_singleton.2 rfl)
 ·rw [List.pairwise_append]
  refine⟨h.so,List.pairwise_singleton _ _,fun a ha b hb=>?_⟩
  rw [List.mem_singleton.1 hb]
  have h2:=h.er a ha
  by_cases e:a.1=(i:Int)
  ·exact .inr ⟨e,yaI he hj _ (h.es a ha e)⟩
  ·exact .inl (by dsimp only;omega)
 ·obtain ⟨x,hx,h4⟩:=h.lk k h2 h3
  exact⟨x,List.mem_append_left _ hx,h4⟩
theorem SI.new (h:SI l ev i j kn T E) (he:Inc ev) (hi:i < T.length) (hj:j < ev.length) {t:List Int} (ht:InT l t) (hk:(kget kn (keyK t)).isSome=false):SI l ev i (j + 1) (kput kn (keyK t) (T.length:Int)) (T ++ [t]) (E ++ [((i:Int),ev[j],(T.length:Int))]):=by
 have hlen:(T ++ [t]).length=T.length + 1:=by simp
 have h0:SI l ev i j (kput kn (keyK t) (T.length:Int)) T E∨True:= .inr trivial
 refine⟨by omega,?_,fun s hs=>?_,fun s hs=>?_,fun e hx=>?_,fun x hx=>?_,fun x hx e=>?_,?_,by have:=h.el;rw [List.length_append,List.length_singleton];omega,fun k h2 h3=>?_⟩
 ·rw [List.nodup_append]
  refine⟨h.nd,by simp,fun a ha b hb=>?_⟩
  rw [List.mem_singleton.1 hb]
  intro e
  subst e
  rw [h.key a ha] at hk
  cases hk
 ·rcases List.mem_append.1 hs with hs | hs
  ·exact h.inT s hs
  ·rw [List.mem_singleton.1 hs];exact ht
 ·rcases List.mem_append.1 hs with hs | hs
  ·exact ybw (h.key s hs)
  ·rw [List.mem_singleton.1 hs];exact y9B
 ·rw [hlen]
  rcases y6o hx with hx | hx
  ·have:=h.val e hx;omega
  ·rw [hx];dsimp only;omega
 ·rw [hlen]
  rcases List.mem_append.1 hx with hx | hx
  ·have:=h.er x hx;exact⟨this.1,this.2.1,this.2.2.1,by omega,this.2.2.2.2⟩
  ·rw [List.mem_singleton.1 hx];exact⟨by dsimp only;omega,by dsimp only;omega,by dsimp only;omega,by dsimp only;omega,List.getElem_mem _⟩
 ·rcases List.mem_append.1 hx with hx | hx
  ·exact (List.take_subset_take_left ev (Nat.le_succ j)) (h.es x hx e)
  ·rw [List.mem_singleton.1 hx,y7B ev j hj];exact List.mem_append_right _ (List.mem_singleton.2 rfl)
 ·rw [List.pairwise_append]
  refine⟨h.so,List.pairwise_singleton _ _,fun a ha b hb=>?_⟩
  rw [List.mem_singleton.1 hb]
  have h2:=h.er a ha
  by_cases e:a.1=(i:Int)
  ·exact .inr ⟨e,yaI he hj _ (h.es a ha e)⟩
  ·exact .inl (by dsimp only;omega)
 ·by_cases h4:k < T.length
  ·obtain ⟨x,hx,h5⟩:=h.lk k h2 h4
   exact⟨x,List.mem_append_left _ hx,h5⟩
  ·have:k=T.length:=by omega
   subst this
   exact⟨_,List.mem_append_right _ (List.mem_singleton.2 rfl),rfl,by dsimp only;omega,by dsimp only;omega⟩
end
theorem y7P.snoc {es:List Ed}:∀{k:Nat} {x:Int} {e:Ed},e∈es→y7P es [e.f] k x→y7P es [e.t] (k + 1) x
 | 0,x,e,he,h=>⟨e,he,(List.mem_singleton.1 h).symm,List.mem_singleton.2 rfl⟩
 | k + 1,x,e,he,⟨y,hy,h1,h2⟩=>⟨y,hy,h1,h2.snoc he⟩
abbrev edsOf (p:AutT):List Ed:=p.2.2.2.map toEd
theorem ybx {κ β:Type} [BEq κ] {m:List (κ×β)} {k:κ} {v:β} (h:kget m k=some v):∃e∈m,e.2=v∧(k == e.1)=true:=by
 unfold kget at h
 rw [Option.map_eq_some_iff] at h
 obtain⟨e,h1,h2⟩:=h
 exact⟨e,List.mem_of_find?_eq_some h1,h2,List.find?_some (p:=fun p:κ×β=>k == p.1) h1⟩
section
variable {κ β:Type} [DecidableEq κ] [BEq κ] [LawfulBEq κ]
theorem y5H (p:κ×β) (m:List (κ×β)) (q:κ):kget (p :: m) q=if q=p.1 then some p.2 else kget m q:=by
 unfold kget
 by_cases h:q=p.1
 ·rw [if_pos h,List.find?_cons_of_pos (by simp [h])];rfl
 ·rw [if_neg h,List.find?_cons_of_neg (by simp [h])]
omit [DecidableEq κ] [LawfulBEq κ] in
theorem yc6 (k:κ) (v:β):kput [] k v= [(k,v)]:=by
 unfold kput;rw [if_neg (by simp)];rfl
theorem yby (p:κ×β) (m:List (κ×β)) (k:κ) (v:β):kput (p :: m) k v=if k=p.1 then(k,v) :: m else p :: kput m k v:=by
 unfold kput
 rw [List.map_cons,y5w]
 by_cases h:k=p.1
 ·subst h;rw [if_pos (by simp),if_pos (by simp),if_pos rfl];rfl
 ·have e:(if (k == p.1)=true then 0 else kidx (m.map (·.1)) k + 1)=kidx (m.map (·.1)) k + 1:=if_neg (by simp [h])
  rw [e,if_neg h]
  by_cases h2:kidx (m.map (·.1)) k < m.length
  ·rw [if_pos h2,if_pos (by rw [List.length_cons];omega),List.set_cons_succ]
  ·rw [if_neg h2,if_neg (by rw [List.length_cons];omega)];rfl
theorem y3A {k q:κ} {v:β}:∀(m:List (κ×β)),kget (kput m k v) q=if q=k then some v else kget m q
 | []=>by rw [yc6,y5H]
 | p :: m=>by
  rw [yby]
  by_cases h:k=p.1
  ·rw [if_pos h,y5H,y5H]
   by_cases h2:q=k
   ·rw [if_pos h2,if_pos h2]
   ·rw [if_neg h2,if_neg h2,if_neg (by rw [←h];exact h2)]
  ·rw [if_neg h,y5H,y5H,y3A m]
   by_cases h2:q=p.1
   ·rw [if_pos h2,if_neg (by rw [h2];exact fun e=>h e.symm),if_pos h2]
   ·rw [if_neg h2,if_neg h2]
end
structure LOkB (B:Nat) (l:List AutT):Prop where
 len:l.length≤3
 right:∀a∈l,∃n:Nat,1≤n∧n≤B∧Right a n
 b99:B≤99
 pw:B ^ l.length≤4000
theorem yaW {l:List AutT} {B:Nat} (h:LOkB B l):y2W l=some 0:=by
 have hl:=h.len
 have hb99:=h.b99
 obtain⟨o,h1,rfl⟩:=yb (f:=y1j l) (fun i s=>s=(i:Int)) (fun o=>o= .inl ()) l.length 0 (by omega) (fun i s hi e1=>by
   subst e1
   obtain⟨n,_,_,hr⟩:=h.right _ (List.getElem_mem hi)
   refine .inl ⟨((i + 1:Nat):Int),?_,rfl⟩
   rw [y1j,if_pos (ct_lt hi),ya hi,yOb,hr.check,yOb,if_neg (by simp),nxt (by omega)]) (fun s e1=>by
   subst e1
   exact⟨_,by rw [y1j,if_neg ct_ge],rfl⟩) (Nat.zero_le _) 0 rfl
 rw [y2W,if_neg (by simp;omega),h1]
 rfl
theorem yc7 {l:List AutT} {B:Nat} (h:LOkB B l):∃m,y2G l=some m∧MOk l m:=by
 have hl:=h.len
 have hb99:=h.b99
 obtain⟨ev,he,hev⟩:=ybv (l:=l) (by omega) (fun a ha=>by
  obtain⟨n,_,_,hr⟩:=h.right a ha
  exact⟨hr.ali,hr.alr⟩)
 obtain⟨o,h1,h2⟩:=yb (f:=y1u l) (fun i s=>i≤l.length∧s.1=(i:Int)∧s.2.length=i∧∀k (h:k < l.length) (h':k < s.2.length),∀e∈s.2[k],0≤e.2∧e.2 < l[k].2.1) (fun o=>o.length=l.length∧∀k (h:k < l.length) (h':k < o.length),∀e∈o[k],0≤e.2∧e.2 < l[k].2.1) l.length 0 (by omega) (fun i s hi ⟨_,e1,g1,g2⟩=>by
   obtain⟨k,out⟩:=s
   dsimp only at e1 g1 g2
   subst e1
   obtain⟨n,_,_,hr⟩:=h.right _ (List.getElem_mem hi)
   obtain⟨o,e,g3⟩:=ycQ hr
   refine .inl ⟨(((i + 1:Nat):Int),out ++ [o]),?_,by omega,rfl,by simp [g1],fun k hk hk' x hx=>?_⟩
   ·rw [y1u]
    dsimp only
    rw [if_pos (ct_lt hi),ya hi,yOb,e,yOb,yE (by simp;omega),yOb,nxt (by omega)]
   ·dsimp only at hx
    by_cases hki:k < out.length
    ·rw [List.getElem_append_left hki] at hx;exact g2 k hk hki x hx
    ·have hk2:k=i:=by simp at hk';omega
     subst hk2
     rw [List.getElem_append_right (by omega)] at hx
     simp only [g1,Nat.sub_self,List.getElem_cons_zero] at hx
     rw [hr.nn]
     exact g3 x hx) (fun s ⟨_,e1,g1,g2⟩=>by
   obtain⟨k,out⟩:=s
   dsimp only at e1 g1 g2
   subst e1
   refine⟨out,?_,g1,g2⟩
   rw [y1u]
   dsimp only
   rw [if_neg ct_ge]) (Nat.zero_le _) (0,[]) ⟨Nat.zero_le _,rfl,rfl,fun k hk hk'=>(by simp at hk')⟩
 exact⟨(l,ev,o),by rw [y2G,he,yOb,h1];rfl,rfl,hev,h2.1,h2.2⟩
theorem yak {l:List AutT} {B:Nat} (h:LOkB B l) {m:List AutT×List Int×List (List ((Int×Int)×Int))} (hm:MOk l m):∃t,yo m=some (t,true)∧InT l t:=by
 have hl:=h.len
 have hb99:=h.b99
 obtain⟨m1,m2,m3⟩:=m
 obtain⟨rfl,hev,hlen,_⟩:=hm
 dsimp only at *
 obtain⟨o,h1,rfl⟩:=yb (f:=yc (m1,m2,m3)) (fun i s=>s=(i:Int)) (fun o=>o= .inl ()) m1.length 0 (by omega) (fun i s hi e1=>by
   subst e1
   obtain⟨n,hn,_,hr⟩:=h.right _ (List.getElem_mem hi)
   refine .inl ⟨((i + 1:Nat):Int),?_,rfl⟩
   rw [yc]
   dsimp only
   rw [if_pos (ct_lt hi),ya hi,yOb,hr.nn,if_neg (by simp;omega),nxt (by omega)]) (fun s e1=>by
   subst e1
   refine⟨_,?_,rfl⟩
   rw [yc]
   dsimp only
   rw [if_neg ct_ge]) (Nat.zero_le _) 0 rfl
 have hmk:mkL (m1.length:Int) (0:Int)=some (List.replicate m1.length 0):=by unfold mkL;rw [if_pos ⟨by omega,by omega⟩,Int.toNat_natCast]
 refine⟨List.replicate m1.length 0,?_,by simp,fun i hi hi'=>?_⟩
 ·rw [yo,h1,yOb]
  dsimp only
  rw [hmk,yOb]
 ·obtain ⟨n,hn,_,hr⟩:=h.right _ (List.getElem_mem hi)
  rw [List.getElem_replicate,hr.nn]
  omega
theorem yc8 {l:List AutT} {B:Nat} (h:LOkB B l) {m:List AutT×List Int×List (List ((Int×Int)×Int))} (hm:MOk l m) {t:List Int} (ht:InT l t) (e:Int):∃r,yP m t e=some r∧(r.2=true→InT l r.1):=by
 have hl:=h.len
 have hb99:=h.b99
 obtain⟨m1,m2,m3⟩:=m
 obtain⟨rfl,hev,hlen,hed⟩:=hm
 dsimp only at *
 obtain⟨o,h1,h2⟩:=yb (f:=yj (m1,m2,m3) t e) (fun i s=>s.1=(i:Int)∧InT m1 s.2) (fun o=>∀u,o= .inl u→InT m1 u) m1.length 0 (by omega) (fun i s hi ⟨e1,g1⟩=>by
   obtain⟨k,out⟩:=s
   dsimp only at e1 g1
   subst e1
   obtain⟨n,hn,_,hr⟩:=h.right _ (List.getElem_mem hi)
   have ha:m1[i].1.length < 4294967296:=by have:=hr.l1;omega
   have hj:∀u:List Int,yp ((i:Int),out) u=some (.inl (((i + 1:Nat):Int),u)):=fun u=>by
    rw [yp];dsimp only;rw [nxt (by omega)]
   rw [yj]
   dsimp only
   rw [if_pos (ct_lt hi),ya hi,yOb,y4z ha hr.ali,yOb]
   cases hb:hasB m1[i].1 e with
   | false=>
    rw [if_pos (by simp),hj]
    exact .inl ⟨_,rfl,rfl,g1⟩
   | true=>
    rw [if_neg (by simp),ya (by omega),yOb,ya (by have:=ht.1;omega),yOb]
    cases hg:kget m3[i] (t[i]'(by have:=ht.1;omega),e) with
    | none=>
     rw [if_pos (by simp)]
     exact .inr ⟨_,rfl,fun u hu=>by cases hu⟩
    | some v=>
     obtain⟨x,hx,rfl⟩:=yc5 hg
     have hv:=hed i hi (by omega) x hx
     rw [if_neg (by simp),ya (by have:=g1.1;omega),yOb,y5G (by have:=g1.1;omega),yOb,hj]
     exact .inl ⟨_,rfl,rfl,g1.set hi hv.1 hv.2⟩) (fun s ⟨e1,g1⟩=>by
   obtain⟨k,out⟩:=s
   dsimp only at e1 g1
   subst e1
   refine⟨.inl out,?_,fun u hu=>by cases hu;exact g1⟩
   rw [yj]
   dsimp only
   rw [if_neg ct_ge]) (Nat.zero_le _) (0,t) ⟨rfl,ht⟩
 rw [yP,y6n (by have:=ht.1;omega),yOb,h1,yOb]
 cases o with
 | inl u=>exact⟨_,rfl,fun _=>h2 u rfl⟩
 | inr u=>exact⟨_,rfl,fun hb=>by cases hb⟩
theorem yaX {l:List AutT} {B:Nat} (h:LOkB B l) {m:List AutT×List Int×List (List ((Int×Int)×Int))} (hm:MOk l m) {t:List Int} (ht:InT l t):∃b,yv m t=some b:=by
 have hl:=h.len
 have hb99:=h.b99
 obtain⟨m1,m2,m3⟩:=m
 obtain⟨rfl,hev,hlen,hed⟩:=hm
 dsimp only at *
 obtain⟨o,h1,h2⟩:=yb (f:=y1G (m1,m2,m3) t) (fun i s=>s=(i:Int)) (fun _=>True) m1.length 0 (by omega) (fun i s hi e1=>by
   subst e1
   obtain⟨n,hn,_,hr⟩:=h.right _ (List.getElem_mem hi)
   have ha:m1[i].2.2.1.length < 4294967296:=by have:=hr.l2;omega
   rw [y1G]
   dsimp only
   rw [if_pos (ct_lt hi),ya hi,yOb,ya (by have:=ht.1;omega),yOb,y4z ha hr.msi,yOb]
   cases hb:hasB m1[i].2.2.1 (t[i]'(by have:=ht.1;omega)) with
   | false=>rw [if_pos (by simp)];exact .inr ⟨_,rfl,trivial⟩
   | true=>rw [if_neg (by simp),nxt (by omega)];exact .inl ⟨_,rfl,rfl⟩) (fun s e1=>by
   subst e1
   refine⟨.inl (),?_,trivial⟩
   rw [y1G]
   dsimp only
   rw [if_neg ct_ge]) (Nat.zero_le _) 0 rfl
 rw [yv,h1,yOb]
 cases o with
 | inl u=>exact⟨_,rfl⟩
 | inr u=>exact⟨_,rfl⟩
theorem yaJ {l:List AutT} {B:Nat} (h:LOkB B l) {t:List Int} (ht:InT l t):y3d t=some (keyK t):=by
 have hl:=h.len
 have hb99:=h.b99
 have hc:(t.all fun x=>decide (0≤x∧x < 100))=true:=by
  rw [List.all_eq_true]
  intro x hx
  obtain⟨i,hi,rfl⟩:=List.getElem_of_mem hx
  have hi':i < l.length:=by have:=ht.1;omega
  obtain⟨n,hn,hn6,hr⟩:=h.right _ (List.getElem_mem hi')
  have:=ht.2 i hi' hi
  rw [hr.nn] at this
  simp;omega
 rw [y3d,if_pos ⟨hc,by have:=ht.1;omega⟩]
 rfl
def y4A (B:Nat):List Int→Nat
 | []=>0
 | x :: t=>x.toNat + B * y4A B t
theorem y8I {B:Nat}:∀{s t:List Int},s.length=t.length→(∀x∈s,0≤x∧x < B)→(∀x∈t,0≤x∧x < B)→y4A B s=y4A B t→s=t
 | [],[],_,_,_,_=>rfl
 | [],_ :: _,h,_,_,_=>by simp at h
 | _ :: _,[],h,_,_,_=>by simp at h
 | x :: s,y :: t,h,hs,ht,e=>by
  have h1:=hs x (List.mem_cons_self ..)
  have h2:=ht y (List.mem_cons_self ..)
  simp only [y4A] at e
  have e2:x.toNat=y.toNat:=by
   have h3:=congrArg (· % B) e
   simp only [Nat.add_mul_mod_self_left] at h3
   rwa [Nat.mod_eq_of_lt (by omega),Nat.mod_eq_of_lt (by omega)] at h3
  have hxy:x=y:=by omega
  subst hxy
  have e3:B * y4A B s=B * y4A B t:=by omega
  rw [y8I (s:=s) (t:=t) (by simpa using h) (fun z hz=>hs z (List.mem_cons_of_mem _ hz)) (fun z hz=>ht z (List.mem_cons_of_mem _ hz)) (Nat.eq_of_mul_eq_mul_left (by omega) e3)]
theorem y9C {B:Nat}:∀{t:List Int},(∀x∈t,0≤x∧x < B)→y4A B t < B ^ t.length
 | [],_=>by simp [y4A]
 | x :: t,h=>by
  have h1:=h x (List.mem_cons_self ..)
  have h2:=y9C (t:=t) (fun z hz=>h z (List.mem_cons_of_mem _ hz))
  rw [List.length_cons,Nat.pow_succ,y4A]
  have h3:B * (y4A B t + 1)≤B * B ^ t.length:=Nat.mul_le_mul_left B h2
  rw [Nat.mul_add,Nat.mul_one] at h3
  rw [Nat.mul_comm (B ^ t.length) B]
  omega
theorem InT.smallB {l:List AutT} {B:Nat} (h:LOkB B l) {t:List Int} (ht:InT l t):∀x∈t,0≤x∧x < B:=by
 intro x hx
 obtain⟨i,hi,rfl⟩:=List.getElem_of_mem hx
 have hi':i < l.length:=by have:=ht.1;omega
 obtain⟨n,hn,hn6,hr⟩:=h.right _ (List.getElem_mem hi')
 have:=ht.2 i hi' hi
 rw [hr.nn] at this
 omega
theorem y5v {l:List AutT} {B:Nat} (h:LOkB B l) {T:List (List Int)} (hn:T.Nodup) (hT:∀t∈T,InT l t):T.length≤4000:=by
 have h1:=y5e (B ^ l.length) (T.map (y4A B)) ?_ ?_
 ·rw [List.length_map] at h1
  have h2:=h.pw
  omega
 ·rw [List.Nodup,List.pairwise_map]
  refine List.Pairwise.imp_of_mem (fun {a b} ha hb hab e=>hab ?_) hn
  exact y8I ((hT a ha).1.trans (hT b hb).1.symm) ((hT a ha).smallB h) ((hT b hb).smallB h) e
 ·intro x hx
  obtain⟨t,ht,rfl⟩:=List.mem_map.1 hx
  rw [←(hT t ht).1]
  exact y9C ((hT t ht).smallB h)
end Go.Proofs.YtecmobjeeonmaaaGreatDoor
namespace Go.Proofs.YtecmobjeeonmaaaGreatDoor
structure Num (es:List Ed) (n:Nat):Prop where
 so:es.Pairwise fun x y=>x.f < y.f∨(x.f=y.f∧x.e < y.e)
 rng:∀x∈es,0≤x.f∧x.f < (n:Int)∧0≤x.t∧x.t < (n:Int)∧0≤x.e∧x.e < 32
 cov:∀k:Nat,0 < k→k < n→∃x∈es,x.t=(k:Int)
 ear:∀i (hi:i < es.length) (k:Int),0 < k→k < es[i].t→∃j,∃hj:j < es.length,j < i∧es[j].t=k
 fst:∀i (hi:i < es.length),(∀j (hj:j < es.length),j < i→es[j].t≠es[i].t)→es[i].t=0∨es[i].f < es[i].t
theorem y8o {es:List Ed} {k:Int} {x:Ed} (h:es.find? (fun y=>y.t == k)=some x):∃i,∃hi:i < es.length,es[i]=x∧x.t=k∧∀j (hj:j < es.length),j < i→es[j].t≠k:=by
 rw [List.find?_eq_some_iff_getElem] at h
 obtain⟨h1,i,hi,h2,h3⟩:=h
 refine⟨i,hi,h2,by simpa using h1,fun j hj hji e=>?_⟩
 have:=h3 j hji
 simp [e] at this
def wordN (es:List Ed):Nat→Int→List Int
 | 0,_=> []
 | f + 1,k=>if k≤0 then [] else match es.find? (fun y=>y.t == k) with
  | none=> []
  | some x=>wordN es f x.f ++ [x.e]
def wN (es:List Ed) (k:Int):List Int:=wordN es k.toNat k
namespace Num
variable {es:List Ed} {n:Nat}
theorem find (h:Num es n) {k:Nat} (h0:0 < k) (h1:k < n):∃x,es.find? (fun y=>y.t == (k:Int))=some x∧x∈es∧x.t=(k:Int)∧0≤x.f∧x.f < (k:Int):=by
 obtain⟨y,hy,ht⟩:=h.cov k h0 h1
 cases hf:es.find? (fun y=>y.t == (k:Int)) with
 | none=>exact absurd (by simpa using ht) (by simpa using List.find?_eq_none.1 hf y hy)
 | some x=>
  obtain⟨i,hi,e1,e2,e3⟩:=y8o hf
  have hm:x∈es:=e1 ▸ List.getElem_mem hi
  refine⟨x,rfl,hm,e2,(h.rng x hm).1,?_⟩
  have:=h.fst i hi (fun j hj hji=>by rw [e1,e2];exact e3 j hj hji)
  rw [e1,e2] at this
  omega
theorem fuel (h:Num es n):∀(f:Nat) (k:Int),k < (n:Int)→k.toNat≤f→wordN es f k=wN es k:=by
 have key:∀(m:Nat) (k:Int),k.toNat=m→k < (n:Int)→∀f g,m≤f→m≤g→wordN es f k=wordN es g k:=by
  intro m
  induction m using Nat.strongRecOn with
  | ind m ih=>
   intro k hk hn f g hf hg
   by_cases h0:k≤0
   ·have e:∀f,wordN es f k= []:=fun f=>by
     cases f with
     | zero=>rfl
     | succ f=>rw [wordN,if_pos h0]
    rw [e,e]
   ·obtain ⟨f,rfl⟩:∃f',f=f' + 1:=⟨f - 1,by omega⟩
    obtain⟨g,rfl⟩:∃g',g=g' + 1:=⟨g - 1,by omega⟩
    obtain⟨k',rfl⟩:∃k':Nat,k=(k':Int):=⟨k.toNat,by omega⟩
    obtain⟨x,hx,_,ht,hf0,hfk⟩:=h.find (k:=k') (by omega) (by omega)
    rw [wordN,wordN,if_neg h0,if_neg h0,hx]
    dsimp only
    rw [ih x.f.toNat (by omega) x.f rfl (by omega) f g (by omega) (by omega)]
 intro f k hn hf
 exact key k.toNat k rfl hn f k.toNat hf (Nat.le_refl _)
theorem step (h:Num es n) {k:Nat} (h0:0 < k) (h1:k < n):∃x∈es,es.find? (fun y=>y.t == (k:Int))=some x∧x.t=(k:Int)∧0≤x.f∧x.f < (k:Int)∧wN es (k:Int)=wN es x.f ++ [x.e]:=by
 obtain⟨x,hx,hm,ht,hf0,hfk⟩:=h.find h0 h1
 refine⟨x,hm,hx,ht,hf0,hfk,?_⟩
 obtain⟨k,rfl⟩:∃k',k=k' + 1:=⟨k - 1,by omega⟩
 unfold wN
 rw [Int.toNat_natCast,wordN,if_neg (by omega),hx]
 dsimp only
 rw [h.fuel k x.f (by omega) (by omega)]
 rfl
theorem zero :wN es 0= []:=rfl
theorem evs (h:Num es n):∀(k:Nat),k < n→Evs (wN es (k:Int)):=by
 intro k
 induction k using Nat.strongRecOn with
 | ind k ih=>
  intro hk
  by_cases h0:k=0
  ·subst h0;exact Evs.nil
  ·obtain ⟨x,hm,_,_,hf0,hfk,e⟩:=h.step (k:=k) (by omega) hk
   rw [e]
   have hx:=h.rng x hm
   have:=ih x.f.toNat (by omega) (by omega)
   rw [Int.toNat_of_nonneg hf0] at this
   exact this.snoc hx.2.2.2.2.1 hx.2.2.2.2.2
theorem mono (h:Num es n):∀(k' k:Nat),k < k'→k' < n→wval (wN es (k:Int)) < wval (wN es (k':Int)):=by
 intro k'
 induction k' using Nat.strongRecOn with
 | ind k' ih=>
  intro k hkk hk'
  obtain⟨x',hm',hf',ht',hf0',hfk',e'⟩:=h.step (k:=k') (by omega) hk'
  have hx':=h.rng x' hm'
  have hw':0≤wval (wN es x'.f):=by
   have:=h.evs x'.f.toNat (by omega)
   rw [Int.toNat_of_nonneg hf0'] at this
   exact yah _ this
  rw [e',y7G]
  by_cases h0:k=0
  ·subst h0
   show wval [] < _
   show(0:Int) < _
   omega
  ·obtain ⟨x,hm,hf,ht,hf0,hfk,e⟩:=h.step (k:=k) (by omega) (by omega)
   have hx:=h.rng x hm
   rw [e,y7G]
   obtain⟨i,hi,a1,a2,a3⟩:=y8o hf
   obtain⟨i',hi',b1,b2,b3⟩:=y8o hf'
   obtain⟨j,hj,hji,hjt⟩:=h.ear i' hi' (k:Int) (by omega) (by rw [b1,b2];omega)
   have hij:i≤j:=Nat.le_of_not_lt fun hlt=>a3 j hj hlt hjt
   have hlt:=List.pairwise_iff_getElem.1 h.so i i' hi hi' (by omega)
   rw [a1,b1] at hlt
   rcases hlt with hlt | ⟨hlt,hle⟩
   ·have:=ih x'.f.toNat (by omega) x.f.toNat (by omega) (by omega)
    rw [Int.toNat_of_nonneg hf0,Int.toNat_of_nonneg hf0'] at this
    omega
   ·rw [hlt];omega
end Num
end Go.Proofs.YtecmobjeeonmaaaGreatDoor
namespace Go.Proofs.YtecmobjeeonmaaaGreatDoor
open Go Go.RowKit
structure Disc {τ:Type} (st:τ→Int→Option τ) (al:List Int) (T:List τ) (E:List (Int×Int×Int)):Prop where
 nd:T.Nodup
 so:E.Pairwise fun x y=>x.1 < y.1∨(x.1=y.1∧x.2.1 < y.2.1)
 sn:∀x∈E,∃(a q:Nat) (t r:τ),x.1=(a:Int)∧x.2.2=(q:Int)∧T[a]? =some t∧T[q]? =some r∧x.2.1∈al∧st t x.2.1=some r
 ed:∀(a:Nat) (t:τ) (e:Int) (r:τ),T[a]? =some t→e∈al→st t e=some r→∃q:Nat,((a:Int),e,(q:Int))∈E∧T[q]? =some r
 cov:∀k:Nat,0 < k→k < T.length→∃x∈E,x.2.2=(k:Int)
 ear:∀n (hn:n < E.length) (k:Int),0 < k→k < E[n].2.2→∃p,∃hp:p < E.length,p < n∧E[p].2.2=k
 fst:∀n (hn:n < E.length),(∀p (hp:p < E.length),p < n→E[p].2.2≠E[n].2.2)→E[n].2.2=0∨E[n].1 < E[n].2.2
 evr:∀e∈al,0≤e∧e < 32
section
variable {τ:Type} {st:τ→Int→Option τ} {al:List Int} {T T':List τ} {E E':List (Int×Int×Int)}
def stw (st:τ→Int→Option τ) (t:τ):List Int→Option τ
 | []=>some t
 | e :: u=>(st t e).bind fun r=>stw st r u
theorem y7m {lt:τ→τ→Prop} (hir:∀a b,lt a b→lt b a→False):∀{xs ys:List τ},xs.Pairwise lt→ys.Pairwise lt→(∀x,x∈xs↔x∈ys)→xs=ys
 | [],[],_,_,_=>rfl
 | [],y :: ys,_,_,h=>by have:=(h y).2 (List.mem_cons_self ..);cases this
 | x :: xs,[],_,_,h=>by have:=(h x).1 (List.mem_cons_self ..);cases this
 | x :: xs,y :: ys,hx,hy,h=>by
  obtain⟨x1,x2⟩:=List.pairwise_cons.1 hx
  obtain⟨y1,y2⟩:=List.pairwise_cons.1 hy
  have hxy:x=y:=by
   rcases List.mem_cons.1 ((h x).1 (List.mem_cons_self ..)) with e | e
   ·exact e
   ·rcases List.mem_cons.1 ((h y).2 (List.mem_cons_self ..)) with e' | e'
    ·exact e'.symm
    ·exact (hir x y (x1 y e') (y1 x e)).elim
  subst hxy
  have hne1:∀z∈xs,z≠x:=fun z hz e=>by subst e;exact hir z z (x1 z hz) (x1 z hz)
  have hne2:∀z∈ys,z≠x:=fun z hz e=>by subst e;exact hir z z (y1 z hz) (y1 z hz)
  rw [y7m hir x2 y2 fun z=>?_]
  constructor
  ·intro hz
   exact(List.mem_cons.1 ((h z).1 (List.mem_cons_of_mem _ hz))).resolve_left (hne1 z hz)
  ·intro hz
   exact(List.mem_cons.1 ((h z).2 (List.mem_cons_of_mem _ hz))).resolve_left (hne2 z hz)
end
theorem y4B {α:Type} {xs:List α} {x:α} {n:Nat} (hn:n < (xs ++ [x]).length):(∃h:n < xs.length,(xs ++ [x])[n]=xs[n])∨(n=xs.length∧(xs ++ [x])[n]=x):=by
 by_cases h:n < xs.length
 ·exact .inl ⟨h,List.getElem_append_left h⟩
 ·have h2:n=xs.length:=by simp at hn;omega
  subst h2
  exact .inr ⟨rfl,by rw [List.getElem_append_right (Nat.le_refl _)];simp⟩
structure Fnd {τ:Type} (st:τ→Int→Option τ) (ev:List Int) (i j:Nat) (T:List τ) (E:List (Int×Int×Int)):Prop where
 sn:∀x∈E,∃(a q:Nat) (t r:τ),x.1=(a:Int)∧x.2.2=(q:Int)∧T[a]? =some t∧T[q]? =some r∧st t x.2.1=some r
 ed:∀(a b:Nat) (t:τ) (e:Int) (r:τ),(a < i∨(a=i∧b < j))→T[a]? =some t→ev[b]? =some e→st t e=some r→∃q:Nat,((a:Int),e,(q:Int))∈E∧T[q]? =some r
 cov:∀k:Nat,0 < k→k < T.length→∃x∈E,x.2.2=(k:Int)
 ear:∀n (hn:n < E.length) (k:Int),0 < k→k < E[n].2.2→∃p,∃hp:p < E.length,p < n∧E[p].2.2=k
 fst:∀n (hn:n < E.length),(∀p (hp:p < E.length),p < n→E[p].2.2≠E[n].2.2)→E[n].2.2=0∨E[n].1 < E[n].2.2
section
variable {τ:Type} {st:τ→Int→Option τ} {ev:List Int} {i j:Nat} {T:List τ} {E:List (Int×Int×Int)}
theorem Fnd.skip (h:Fnd st ev i j T E) {t:τ} {e:Int} (ht:T[i]? =some t) (he:ev[j]? =some e) (hs:st t e=none):Fnd st ev i (j + 1) T E:=by
 refine⟨h.sn,fun a b t' e' r hab ha hb hst=>?_,h.cov,h.ear,h.fst⟩
 by_cases hx:a=i∧b=j
 ·obtain ⟨rfl,rfl⟩:=hx
  rw [ht] at ha
  rw [he] at hb
  cases ha
  cases hb
  rw [hs] at hst
  cases hst
 ·exact h.ed a b t' e' r (by omega) ha hb hst
theorem Fnd.next (h:Fnd st ev i j T E) (hj:ev.length≤j):Fnd st ev (i + 1) 0 T E:=
 ⟨h.sn,fun a b t e r hab ha hb hst=>h.ed a b t e r (by have:=(List.getElem?_eq_some_iff.1 hb).1;omega) ha hb hst,h.cov,h.ear,h.fst⟩
theorem Fnd.edge (h:Fnd st ev i j T E) {t r:τ} {e:Int} {q:Nat} (ht:T[i]? =some t) (he:ev[j]? =some e) (hs:st t e=some r) (hq:T[q]? =some r):Fnd st ev i (j + 1) T (E ++ [((i:Int),e,(q:Int))]):=by
 have hql:=(List.getElem?_eq_some_iff.1 hq).1
 refine⟨fun x hx=>?_,fun a b t' e' r' hab ha hb hst=>?_,fun k h0 h1=>?_,fun n hn k h0 h1=>?_,fun n hn hf=>?_⟩
 ·rcases List.mem_append.1 hx with hx | hx
  ·exact h.sn x hx
  ·rw [List.mem_singleton.1 hx]
   exact⟨i,q,t,r,rfl,rfl,ht,hq,hs⟩
 ·by_cases hx:a=i∧b=j
  ·obtain ⟨rfl,rfl⟩:=hx
   rw [ht] at ha
   rw [he] at hb
   cases ha
   cases hb
   rw [hs] at hst
   cases hst
   exact⟨q,List.mem_append_right _ (List.mem_singleton.2 rfl),hq⟩
  ·obtain ⟨q',g1,g2⟩:=h.ed a b t' e' r' (by omega) ha hb hst
   exact⟨q',List.mem_append_left _ g1,g2⟩
 ·obtain ⟨x,hx,h2⟩:=h.cov k h0 h1
  exact⟨x,List.mem_append_left _ hx,h2⟩
 ·rcases y4B hn with ⟨hn2,e2⟩ | ⟨hn2,e2⟩
  ·rw [e2] at h1
   obtain⟨p,hp,h3,h4⟩:=h.ear n hn2 k h0 h1
   exact⟨p,by simp;omega,h3,by rw [List.getElem_append_left hp];exact h4⟩
  ·rw [e2] at h1
   dsimp only at h1
   obtain⟨x,hx,h3⟩:=h.cov k.toNat (by omega) (by omega)
   obtain⟨p,hp,rfl⟩:=List.getElem_of_mem hx
   exact⟨p,by simp;omega,by omega,by rw [List.getElem_append_left hp,h3];omega⟩
 ·rcases y4B hn with ⟨hn2,e2⟩ | ⟨hn2,e2⟩
  ·rw [e2]
   refine h.fst n hn2 fun p hp hpn=>?_
   have:=hf p (by simp;omega) hpn
   rwa [List.getElem_append_left hp,e2] at this
  ·rw [e2]
   dsimp only
   by_cases hz:q=0
   ·left;omega
   ·exfalso
    obtain⟨x,hx,h3⟩:=h.cov q (by omega) hql
    obtain⟨p,hp,rfl⟩:=List.getElem_of_mem hx
    have:=hf p (by simp;omega) (by omega)
    rw [List.getElem_append_left hp,e2,h3] at this
    exact this rfl
theorem Fnd.new (h:Fnd st ev i j T E) {t r:τ} {e:Int} (hi:i < T.length) (ht:T[i]? =some t) (he:ev[j]? =some e) (hs:st t e=some r):Fnd st ev i (j + 1) (T ++ [r]) (E ++ [((i:Int),e,(T.length:Int))]):=by
 have hup:∀{a:Nat} {u:τ},T[a]? =some u→(T ++ [r])[a]? =some u:=fun {a u} hu=>by rw [List.getElem?_append_left (List.getElem?_eq_some_iff.1 hu).1];exact hu
 have hnew:(T ++ [r])[T.length]? =some r:=by rw [List.getElem?_append_right (Nat.le_refl _)];simp
 have hto:∀x∈E,0≤x.2.2∧x.2.2 < (T.length:Int):=fun x hx=>by
  obtain⟨a,q,u,v,_,h2,_,h4,_⟩:=h.sn x hx
  have:=(List.getElem?_eq_some_iff.1 h4).1
  omega
 refine⟨fun x hx=>?_,fun a b t' e' r' hab ha hb hst=>?_,fun k h0 h1=>?_,fun n hn k h0 h1=>?_,fun n hn hf=>?_⟩
 ·rcases List.mem_append.1 hx with hx | hx
  ·obtain ⟨a,q,u,v,h1,h2,h3,h4,h5⟩:=h.sn x hx
   exact⟨a,q,u,v,h1,h2,hup h3,hup h4,h5⟩
  ·rw [List.mem_singleton.1 hx]
   exact⟨i,T.length,t,r,rfl,rfl,hup ht,hnew,hs⟩
 ·have hal:a < T.length:=by omega
  rw [List.getElem?_append_left hal] at ha
  by_cases hx:a=i∧b=j
  ·obtain ⟨rfl,rfl⟩:=hx
   rw [ht] at ha
   rw [he] at hb
   cases ha
   cases hb
   rw [hs] at hst
   cases hst
   exact⟨T.length,List.mem_append_right _ (List.mem_singleton.2 rfl),hnew⟩
  ·obtain ⟨q',g1,g2⟩:=h.ed a b t' e' r' (by omega) ha hb hst
   exact⟨q',List.mem_append_left _ g1,hup g2⟩
 ·by_cases hk:k < T.length
  ·obtain ⟨x,hx,h2⟩:=h.cov k h0 hk
   exact⟨x,List.mem_append_left _ hx,h2⟩
  ·have:k=T.length:=by simp at h1;omega
   subst this
   exact⟨_,List.mem_append_right _ (List.mem_singleton.2 rfl),rfl⟩
 ·rcases y4B hn with ⟨hn2,e2⟩ | ⟨hn2,e2⟩
  ·rw [e2] at h1
   obtain⟨p,hp,h3,h4⟩:=h.ear n hn2 k h0 h1
   exact⟨p,by simp;omega,h3,by rw [List.getElem_append_left hp];exact h4⟩
  ·rw [e2] at h1
   dsimp only at h1
   obtain⟨x,hx,h3⟩:=h.cov k.toNat (by omega) (by omega)
   obtain⟨p,hp,rfl⟩:=List.getElem_of_mem hx
   exact⟨p,by simp;omega,by omega,by rw [List.getElem_append_left hp,h3];omega⟩
 ·rcases y4B hn with ⟨hn2,e2⟩ | ⟨hn2,e2⟩
  ·rw [e2]
   refine h.fst n hn2 fun p hp hpn=>?_
   have:=hf p (by simp;omega) hpn
   rwa [List.getElem_append_left hp,e2] at this
  ·rw [e2]
   dsimp only
   right;omega
end
theorem Fnd.start {τ:Type} {st:τ→Int→Option τ} {ev:List Int} {T:List τ} (h:T.length≤1):Fnd st ev 0 0 T []:=
 ⟨fun x hx=>(by cases hx),fun a b t e r hab=>by omega,fun k h0 h1=>by omega,fun n hn=>by simp at hn,fun n hn=>by simp at hn⟩
theorem Fnd.disc {τ:Type} {st:τ→Int→Option τ} {ev:List Int} {T:List τ} {E:List (Int×Int×Int)} (h:Fnd st ev T.length 0 T E) (nd:T.Nodup) (so:E.Pairwise fun x y=>x.1 < y.1∨(x.1=y.1∧x.2.1 < y.2.1)) (hal:∀x∈E,x.2.1∈ev) (evr:∀e∈ev,0≤e∧e < 32):Disc st ev T E:=by
 refine⟨nd,so,fun x hx=>?_,fun a t e r ha he hs=>?_,h.cov,h.ear,h.fst,evr⟩
 ·obtain ⟨a,q,t,r,h1,h2,h3,h4,h5⟩:=h.sn x hx
  exact⟨a,q,t,r,h1,h2,h3,h4,hal x hx,h5⟩
 ·obtain ⟨b,hb,hbe⟩:=List.getElem_of_mem he
  exact h.ed a b t e r (.inl (List.getElem?_eq_some_iff.1 ha).1) ha (by rw [yGe hb,hbe]) hs
theorem yaK {u:Nat} (hu:u < 100):(32:UInt8)∉dig2 u:=by
 have h:∀v:_root_.Fin 100,(32:UInt8)∉dig2 v.val:=by decide +kernel
 exact h ⟨u,hu⟩
theorem yc9 {u v:Nat} (hu:u < 100) (hv:v < 100) (e:dig2 u=dig2 v):u=v:=by
 have h:∀v:_root_.Fin 100,((dig2 v.val).foldl (fun acc d=>10 * acc + (d.toNat - 48)) 0)=v.val:=by decide +kernel
 have h1:=h ⟨u,hu⟩
 have h2:=h ⟨v,hv⟩
 dsimp only at h1 h2
 rw [e] at h1
 omega
theorem ya8 {α:Type} {c:α}:∀{l1 l2 r1 r2:List α},c∉l1→c∉l2→l1 ++ c :: r1=l2 ++ c :: r2→l1=l2∧r1=r2
 | [],[],_,_,_,_,h=>⟨rfl,(List.cons.inj h).2⟩
 | [],b :: l2,_,_,_,h2,h=>absurd (List.cons.inj h).1 (fun e=>h2 (e ▸ List.mem_cons_self ..))
 | a :: l1,[],_,_,h1,_,h=>absurd (List.cons.inj h).1 (fun e=>h1 (e ▸ List.mem_cons_self ..))
 | a :: l1,b :: l2,_,_,h1,h2,h=>by
  obtain⟨e1,e2⟩:=List.cons.inj h
  obtain⟨e3,e4⟩:=ya8 (fun hm=>h1 (List.mem_cons_of_mem _ hm)) (fun hm=>h2 (List.mem_cons_of_mem _ hm)) e2
  exact⟨by rw [e1,e3],e4⟩
theorem ya9 :∀{t u:List Int},(∀x∈t,0≤x∧x < 100)→(∀x∈u,0≤x∧x < 100)→keyB t=keyB u→t=u
 | [],[],_,_,_=>rfl
 | [],y :: u,_,_,h=>by simp [keyB] at h
 | x :: t,[],_,_,h=>by simp [keyB] at h
 | x :: t,y :: u,ht,hu,h=>by
  have h1:=ht x (List.mem_cons_self ..)
  have h2:=hu y (List.mem_cons_self ..)
  obtain⟨e1,e2⟩:=ya8 (yaK (by omega)) (yaK (by omega)) h
  have e3:=yc9 (u:=x.toNat) (v:=y.toNat) (by omega) (by omega) e1
  rw [show x=y by omega,ya9 (fun z hz=>ht z (List.mem_cons_of_mem _ hz)) (fun z hz=>hu z (List.mem_cons_of_mem _ hz)) e2]
theorem yca {t u:List Int} (ht:∀x∈t,0≤x∧x < 100) (hu:∀x∈u,0≤x∧x < 100) (h:keyK t=keyK u):t=u:=by
 refine ya9 ht hu ?_
 have:=congrArg ByteArray.data h
 simpa [keyK] using this
theorem InT.hund {l:List AutT} {B:Nat} (h:LOkB B l) {t:List Int} (ht:InT l t):∀x∈t,0≤x∧x < 100:=fun x hx=>by
 have:=ht.smallB h x hx
 have:=h.b99
 omega
noncomputable def mst (m:List AutT×List Int×List (List ((Int×Int)×Int))) (t:List Int) (e:Int):Option (List Int):=match yP m t e with
 | some (u,true)=>some u
 | _=>none
theorem ycb {l:List AutT} {B:Nat} (h:LOkB B l) {m:List AutT×List Int×List (List ((Int×Int)×Int))} (hm:MOk l m) {t:List Int} (ht:InT l t) (e:Int):∃r,yP m t e=some r∧(r.2=true→InT l r.1∧mst m t e=some r.1)∧(r.2=false→mst m t e=none):=by
 obtain⟨⟨u,b⟩,h1,h2⟩:=yc8 h hm ht e
 refine⟨(u,b),h1,fun hb=>⟨h2 hb,?_⟩,fun hb=>?_⟩
 ·have hb:b=true:=hb
  unfold mst;rw [h1,hb]
 ·have hb:b=false:=hb
  unfold mst;rw [h1,hb]
structure SZ (m:List AutT×List Int×List (List ((Int×Int)×Int))) (i j:Nat) (kn:Kno) (T:List (List Int)) (E:List (Int×Int×Int)):Prop where
 kv:∀e∈kn,∃(q:Nat) (t:List Int),e.2=(q:Int)∧T[q]? =some t∧e.1=keyK t
 sn:∀x∈E,∃(a q:Nat) (t r:List Int),x.1=(a:Int)∧x.2.2=(q:Int)∧T[a]? =some t∧T[q]? =some r∧mst m t x.2.1=some r
 ed:∀(a b:Nat) (t:List Int) (e:Int) (r:List Int),(a < i∨(a=i∧b < j))→T[a]? =some t→m.2.1[b]? =some e→mst m t e=some r→∃q:Nat,((a:Int),e,(q:Int))∈E∧T[q]? =some r
 cov:∀k:Nat,0 < k→k < T.length→∃x∈E,x.2.2=(k:Int)
 ear:∀n (hn:n < E.length) (k:Int),0 < k→k < E[n].2.2→∃p,∃hp:p < E.length,p < n∧E[p].2.2=k
 fst:∀n (hn:n < E.length),(∀p (hp:p < E.length),p < n→E[p].2.2≠E[n].2.2)→E[n].2.2=0∨E[n].1 < E[n].2.2
section
variable {m:List AutT×List Int×List (List ((Int×Int)×Int))} {i j:Nat} {kn:Kno} {T:List (List Int)} {E:List (Int×Int×Int)}
theorem SZ.skip (h:SZ m i j kn T E) {t:List Int} {e:Int} (ht:T[i]? =some t) (he:m.2.1[j]? =some e) (hs:mst m t e=none):SZ m i (j + 1) kn T E:=by
 refine⟨h.kv,h.sn,fun a b t' e' r hab ha hb hst=>?_,h.cov,h.ear,h.fst⟩
 by_cases hx:a=i∧b=j
 ·obtain ⟨rfl,rfl⟩:=hx
  rw [ht] at ha
  rw [he] at hb
  cases ha
  cases hb
  rw [hs] at hst
  cases hst
 ·exact h.ed a b t' e' r (by omega) ha hb hst
theorem SZ.next (h:SZ m i j kn T E) (hj:m.2.1.length≤j):SZ m (i + 1) 0 kn T E:=
 ⟨h.kv,h.sn,fun a b t e r hab ha hb hst=>h.ed a b t e r (by have:=(List.getElem?_eq_some_iff.1 hb).1;omega) ha hb hst,h.cov,h.ear,h.fst⟩
theorem SZ.edge (h:SZ m i j kn T E) {t r:List Int} {e:Int} {q:Nat} (ht:T[i]? =some t) (he:m.2.1[j]? =some e) (hs:mst m t e=some r) (hq:T[q]? =some r):SZ m i (j + 1) kn T (E ++ [((i:Int),e,(q:Int))]):=by
 have hql:=(List.getElem?_eq_some_iff.1 hq).1
 refine⟨h.kv,fun x hx=>?_,fun a b t' e' r' hab ha hb hst=>?_,fun k h0 h1=>?_,fun n hn k h0 h1=>?_,fun n hn hf=>?_⟩
 ·rcases List.mem_append.1 hx with hx | hx
  ·exact h.sn x hx
  ·rw [List.mem_singleton.1 hx]
   exact⟨i,q,t,r,rfl,rfl,ht,hq,hs⟩
 ·by_cases hx:a=i∧b=j
  ·obtain ⟨rfl,rfl⟩:=hx
   rw [ht] at ha
   rw [he] at hb
   cases ha
   cases hb
   rw [hs] at hst
   cases hst
   exact⟨q,List.mem_append_right _ (List.mem_singleton.2 rfl),hq⟩
  ·obtain ⟨q',g1,g2⟩:=h.ed a b t' e' r' (by omega) ha hb hst
   exact⟨q',List.mem_append_left _ g1,g2⟩
 ·obtain ⟨x,hx,h2⟩:=h.cov k h0 h1
  exact⟨x,List.mem_append_left _ hx,h2⟩
 ·rcases y4B hn with ⟨hn2,e2⟩ | ⟨hn2,e2⟩
  ·rw [e2] at h1
   obtain⟨p,hp,h3,h4⟩:=h.ear n hn2 k h0 h1
   exact⟨p,by simp;omega,h3,by rw [List.getElem_append_left hp];exact h4⟩
  ·rw [e2] at h1
   dsimp only at h1
   obtain⟨x,hx,h3⟩:=h.cov k.toNat (by omega) (by omega)
   obtain⟨p,hp,rfl⟩:=List.getElem_of_mem hx
   exact⟨p,by simp;omega,by omega,by rw [List.getElem_append_left hp,h3];omega⟩
 ·rcases y4B hn with ⟨hn2,e2⟩ | ⟨hn2,e2⟩
  ·rw [e2]
   refine h.fst n hn2 fun p hp hpn=>?_
   have:=hf p (by simp;omega) hpn
   rwa [List.getElem_append_left hp,e2] at this
  ·rw [e2]
   dsimp only
   by_cases hz:q=0
   ·left;omega
   ·exfalso
    obtain⟨x,hx,h3⟩:=h.cov q (by omega) hql
    obtain⟨p,hp,rfl⟩:=List.getElem_of_mem hx
    have:=hf p (by simp;omega) (by omega)
    rw [List.getElem_append_left hp,e2,h3] at this
    exact this rfl
theorem SZ.new (h:SZ m i j kn T E) {t r:List Int} {e:Int} (hi:i < T.length) (ht:T[i]? =some t) (he:m.2.1[j]? =some e) (hs:mst m t e=some r):SZ m i (j + 1) (kput kn (keyK r) (T.length:Int)) (T ++ [r]) (E ++ [((i:Int),e,(T.length:Int))]):=by
 have hup:∀{a:Nat} {u:List Int},T[a]? =some u→(T ++ [r])[a]? =some u:=fun {a u} hu=>by rw [List.getElem?_append_left (List.getElem?_eq_some_iff.1 hu).1];exact hu
 have hnew:(T ++ [r])[T.length]? =some r:=by rw [List.getElem?_append_right (Nat.le_refl _)];simp
 have hto:∀x∈E,0≤x.2.2∧x.2.2 < (T.length:Int):=fun x hx=>by
  obtain⟨a,q,u,v,_,h2,_,h4,_⟩:=h.sn x hx
  have:=(List.getElem?_eq_some_iff.1 h4).1
  omega
 refine⟨fun x hx=>?_,fun x hx=>?_,fun a b t' e' r' hab ha hb hst=>?_,fun k h0 h1=>?_,fun n hn k h0 h1=>?_,fun n hn hf=>?_⟩
 ·rcases y6o hx with hx | hx
  ·obtain ⟨q,u,h1,h2,h3⟩:=h.kv x hx
   exact⟨q,u,h1,hup h2,h3⟩
  ·rw [hx]
   exact⟨T.length,r,rfl,hnew,rfl⟩
 ·rcases List.mem_append.1 hx with hx | hx
  ·obtain ⟨a,q,u,v,h1,h2,h3,h4,h5⟩:=h.sn x hx
   exact⟨a,q,u,v,h1,h2,hup h3,hup h4,h5⟩
  ·rw [List.mem_singleton.1 hx]
   exact⟨i,T.length,t,r,rfl,rfl,hup ht,hnew,hs⟩
 ·have hal:a < T.length:=by omega
  rw [List.getElem?_append_left hal] at ha
  by_cases hx:a=i∧b=j
  ·obtain ⟨rfl,rfl⟩:=hx
   rw [ht] at ha
   rw [he] at hb
   cases ha
   cases hb
   rw [hs] at hst
   cases hst
   exact⟨T.length,List.mem_append_right _ (List.mem_singleton.2 rfl),hnew⟩
  ·obtain ⟨q',g1,g2⟩:=h.ed a b t' e' r' (by omega) ha hb hst
   exact⟨q',List.mem_append_left _ g1,hup g2⟩
 ·by_cases hk:k < T.length
  ·obtain ⟨x,hx,h2⟩:=h.cov k h0 hk
   exact⟨x,List.mem_append_left _ hx,h2⟩
  ·have:k=T.length:=by simp at h1;omega
   subst this
   exact⟨_,List.mem_append_right _ (List.mem_singleton.2 rfl),rfl⟩
 ·rcases y4B hn with ⟨hn2,e2⟩ | ⟨hn2,e2⟩
  ·rw [e2] at h1
   obtain⟨p,hp,h3,h4⟩:=h.ear n hn2 k h0 h1
   exact⟨p,by simp;omega,h3,by rw [List.getElem_append_left hp];exact h4⟩
  ·rw [e2] at h1
   dsimp only at h1
   obtain⟨x,hx,h3⟩:=h.cov k.toNat (by omega) (by omega)
   obtain⟨p,hp,rfl⟩:=List.getElem_of_mem hx
   exact⟨p,by simp;omega,by omega,by rw [List.getElem_append_left hp,h3];omega⟩
 ·rcases y4B hn with ⟨hn2,e2⟩ | ⟨hn2,e2⟩
  ·rw [e2]
   refine h.fst n hn2 fun p hp hpn=>?_
   have:=hf p (by simp;omega) hpn
   rwa [List.getElem_append_left hp,e2] at this
  ·rw [e2]
   dsimp only
   right;omega
end
theorem ycc {l:List AutT} {B:Nat} (h:LOkB B l) {m:List AutT×List Int×List (List ((Int×Int)×Int))} (hm:MOk l m) {i:Nat} {kn:Kno} {T:List (List Int)} {E:List (Int×Int×Int)} (z:Kno×List (List Int)×List Int×List (Int×Int×Int)) (hS:SI l m.2.1 i 0 kn T E) (hZ:SZ m i 0 kn T E) (hi:i < T.length):
  ∃kn' T' E',iter (y1y m ((i:Int),z)) (0,kn,T,E)=some (.inl (kn',T',E'))∧SI l m.2.1 (i + 1) 0 kn' T' E'∧SZ m (i + 1) 0 kn' T' E'∧i < T'.length∧∃U,T'=T ++ U:=by
 have hal:=hm.ev.len
 obtain⟨o,h1,h2⟩:=yb (f:=y1y m ((i:Int),z)) (fun j s=>s.1=(j:Int)∧j≤m.2.1.length∧SI l m.2.1 i j s.2.1 s.2.2.1 s.2.2.2∧SZ m i j s.2.1 s.2.2.1 s.2.2.2∧i < s.2.2.1.length∧∃U,s.2.2.1=T ++ U) (fun o=>∃kn' T' E',o= .inl (kn',T',E')∧SI l m.2.1 (i + 1) 0 kn' T' E'∧SZ m (i + 1) 0 kn' T' E'∧i < T'.length∧∃U,T'=T ++ U) m.2.1.length 0 (by omega) (fun j s hj ⟨e1,_,hS,hZ,hi,U,hU⟩=>by
   obtain⟨k,kn,T1,E⟩:=s
   dsimp only at e1 hS hZ hi hU
   subst e1
   have hTl:=y5v h hS.nd hS.inT
   have hj2:∀a b c,y1w ((j:Int),kn,T1,E) a b c=some (.inl (((j + 1:Nat):Int),a,b,c)):=fun a b c=>by
    rw [y1w];dsimp only;rw [nxt (by omega)]
   have hj3:∀x b n c,y1x ((i:Int),z) ((j:Int),kn,T1,E) x b n c=some (.inl (((j + 1:Nat):Int),c,b,E ++ [((i:Int),x,n)])):=fun x b n c=>by
    have he:=hS.el
    have hi':i < 4000:=by omega
    rw [y1x];dsimp only;rw [yE (by simp;omega),yOb,hj2]
   have hin:=hS.inT _ (List.getElem_mem hi)
   obtain⟨r,hr,hrT,hrF⟩:=ycb h hm hin m.2.1[j]
   have hti:T1[i]? =some T1[i]:=yGe hi
   have hej:m.2.1[j]? =some m.2.1[j]:=yGe hj
   left
   rw [y1y]
   dsimp only
   rw [if_pos (ct_lt hj),ya hj,yOb,ya hi,yOb,hr,yOb]
   cases hb:r.2 with
   | false=>
    rw [if_pos (by simp),hj2]
    exact⟨_,rfl,rfl,by omega,hS.skip,hZ.skip hti hej (hrF hb),hi,U,hU⟩
   | true=>
    obtain⟨ht,hms⟩:=hrT hb
    rw [if_neg (by simp),yaJ h ht,yOb]
    cases hg:kget kn (keyK r.1) with
    | none=>
     rw [if_pos (by simp),if_neg (by simp;omega),yOb,yE (by simp;omega),yOb,hj3]
     exact⟨_,rfl,rfl,by omega,hS.new hm.ev.1 hi hj ht (by rw [hg];rfl),hZ.new hi hti hej hms,by simp;omega,U ++ [r.1],by rw [hU,List.append_assoc]⟩
    | some v=>
     obtain⟨x,hx,hxv,hxk⟩:=ybx hg
     obtain⟨q,u,g1,g2,g3⟩:=hZ.kv x hx
     have hk:keyK r.1=keyK u:=(eqS hxk).trans g3
     have hu:u∈T1:=List.mem_of_getElem? g2
     have he:r.1=u:=yca (ht.hund h) ((hS.inT u hu).hund h) hk
     rw [←he] at g2
     have hql:=(List.getElem?_eq_some_iff.1 g2).1
     have hvq:v=(q:Int):=by rw [←hxv];exact g1
     rw [if_neg (by simp),hj3,hvq]
     exact⟨_,rfl,rfl,by omega,hS.edge (q:=(q:Int)) hm.ev.1 hi hj (by omega) (by omega),hZ.edge (q:=q) hti hej hms g2,hi,U,hU⟩) (fun s ⟨e1,_,hS,hZ,hi,U,hU⟩=>by
   obtain⟨k,kn,T1,E⟩:=s
   dsimp only at e1 hS hZ hi hU
   subst e1
   refine⟨.inl (kn,T1,E),?_,kn,T1,E,rfl,hS.next hal,hZ.next (Nat.le_refl _),hi,U,hU⟩
   rw [y1y]
   dsimp only
   rw [if_neg ct_ge]) (Nat.zero_le _) (0,kn,T,E) ⟨rfl,Nat.zero_le _,hS,hZ,hi,[],by simp⟩
 obtain⟨kn',T',E',rfl,h3,h4,h5,h6⟩:=h2
 exact⟨kn',T',E',h1,h3,h4,h5,h6⟩
structure PrdZ (l:List AutT) (m:List AutT×List Int×List (List ((Int×Int)×Int))) (p:AutT) (T:List (List Int)) (n:Nat):Prop where
 right:Right p n
 pos:1≤n
 le:n≤4000
 tl:T.length=n
 nd:T.Nodup
 inT:∀t∈T,InT l t
 t0:∃t,T[0]? =some t∧yo m=some (t,true)
 ev:p.1=m.2.1
 sn:∀x∈p.2.2.2,∃(a q:Nat) (t r:List Int),x.1=(a:Int)∧x.2.2=(q:Int)∧T[a]? =some t∧T[q]? =some r∧mst m t x.2.1=some r
 ed:∀(a:Nat) (t:List Int) (e:Int) (r:List Int),T[a]? =some t→e∈p.1→mst m t e=some r→∃q:Nat,((a:Int),e,(q:Int))∈p.2.2.2∧T[q]? =some r
 num:Num (edsOf p) n
 mkd:∀(a:Nat) (t:List Int),T[a]? =some t→∃b,yv m t=some b∧(b=true↔(a:Int)∈p.2.2.1)
theorem ycd {l:List AutT} {B:Nat} (h:LOkB B l):∃m p T n,y2G l=some m∧MOk l m∧yq l=some (p,T,0)∧PrdZ l m p T n:=by
 obtain⟨m,hm,hM⟩:=yc7 h
 obtain⟨t0,ht0,hT0⟩:=yak h hM
 have hal:=hM.ev.len
 have hS0:SI l m.2.1 0 0 (kput ([]:Kno) (keyK t0) 0) [t0] []:=by
  refine⟨by simp,by simp,fun t ht=>?_,fun t ht=>?_,fun e he=>?_,fun x hx=>(by cases hx),fun x hx=>(by cases hx),List.Pairwise.nil,by simp,fun k h0 h1=>?_⟩
  ·rw [List.mem_singleton.1 ht];exact hT0
  ·rw [List.mem_singleton.1 ht];exact y9B
  ·rcases y6o he with he | he
   ·cases he
   ·rw [he];simp
  ·simp at h1;omega
 have hZ0:SZ m 0 0 (kput ([]:Kno) (keyK t0) 0) [t0] []:=by
  refine⟨fun e he=>?_,fun x hx=>(by cases hx),fun a b t e r hab=>by omega,fun k h0 h1=>by simp at h1;omega,fun n hn=>by simp at hn,fun n hn=>by simp at hn⟩
  rcases y6o he with he | he
  ·cases he
  ·rw [he]
   exact⟨0,t0,rfl,rfl,rfl⟩
 obtain⟨o,h1,h2⟩:=yb (f:=y1A m) (fun i s=>s.1=(i:Int)∧i≤s.2.2.1.length∧SI l m.2.1 i 0 s.2.1 s.2.2.1 s.2.2.2.2∧SZ m i 0 s.2.1 s.2.2.1 s.2.2.2.2∧Inc s.2.2.2.1∧(∀x∈s.2.2.2.1,0≤x∧x < (i:Int))∧s.2.2.1[0]? =some t0∧∀(a:Nat) (t:List Int),a < i→s.2.2.1[a]? =some t→∃b,yv m t=some b∧(b=true↔(a:Int)∈s.2.2.2.1)) (fun o=>∃T M E,o= .inl (T,M,E)∧∃kn,SI l m.2.1 T.length 0 kn T E∧SZ m T.length 0 kn T E∧Inc M∧(∀x∈M,0≤x∧x < (T.length:Int))∧T[0]? =some t0∧∀(a:Nat) (t:List Int),T[a]? =some t→∃b,yv m t=some b∧(b=true↔(a:Int)∈M)) 4000 0 (by omega) (fun i s _ ⟨e1,hle,hS,hZ,hi1,hi2,ht,hmk⟩=>by
   obtain⟨k,kn,T,M,E⟩:=s
   dsimp only at e1 hle hS hZ hi1 hi2 ht hmk
   subst e1
   have hTl:=y5v h hS.nd hS.inT
   by_cases hi:i < T.length
   ·left
    obtain⟨b,hb⟩:=yaX h hM (hS.inT _ (List.getElem_mem hi))
    obtain⟨kn',T',E',g1,g2,g3,g4,U,hU⟩:=ycc h hM (kn,T,M,E) hS hZ hi
    have hj:∀M',y1z m ((i:Int),kn,T,M,E) M'=some (.inl (((i + 1:Nat):Int),kn',T',M',E')):=fun M'=>by
     rw [y1z];dsimp only;rw [g1,yOb];dsimp only;rw [nxt (by omega)]
    have hTT:∀a,a < T.length→T'[a]? =T[a]? :=fun a ha=>by rw [hU,List.getElem?_append_left ha]
    have ht':T'[0]? =some t0:=by rw [hTT 0 (by omega)];exact ht
    have hmk':∀M':List Int,(∀x:Int,x≠(i:Int)→(x∈M'↔x∈M))→(b=true↔(i:Int)∈M')→∀(a:Nat) (t:List Int),a < i + 1→T'[a]? =some t→∃b,yv m t=some b∧(b=true↔(a:Int)∈M'):=fun M' hM1 hM2 a t ha hat=>by
     rw [hTT a (by omega)] at hat
     by_cases e:a=i
     ·subst e
      rw [yGe hi] at hat
      cases hat
      exact⟨b,hb,hM2⟩
     ·obtain ⟨b',q1,q2⟩:=hmk a t (by omega) hat
      exact⟨b',q1,by rw [q2,hM1 _ (by omega)]⟩
    rw [y1A]
    dsimp only
    rw [if_pos (ct_lt hi),ya hi,yOb,hb,yOb]
    cases hbv:b with
    | false=>
     rw [if_neg (by simp),hj]
     exact⟨_,rfl,rfl,by dsimp only;omega,g2,g3,hi1,fun x hx=>by have:=hi2 x hx;omega,ht',hmk' M (fun x _=>Iff.rfl) ⟨fun e=>(by rw [hbv] at e;cases e),fun hx=>by have:=hi2 _ hx;omega⟩⟩
    | true=>
     have hMl:=y3u (n:=i) (lo:=0) hi1 hi2 (Int.le_refl _)
     rw [if_pos rfl,yE (by simp;omega),yOb,hj]
     refine⟨_,rfl,rfl,by dsimp only;omega,g2,g3,?_,fun x hx=>?_,ht',hmk' (M ++ [(i:Int)]) (fun x hx=>?_) ⟨fun _=>List.mem_append_right _ (List.mem_singleton.2 rfl),fun _=>hbv⟩⟩
     ·dsimp only
      unfold Inc at hi1 ⊢
      rw [List.pairwise_append]
      exact⟨hi1,List.pairwise_singleton _ _,fun a ha b hb=>by rw [List.mem_singleton.1 hb];exact(hi2 a ha).2⟩
     ·dsimp only at hx
      rcases List.mem_append.1 hx with hx | hx
      ·have:=hi2 x hx;omega
      ·rw [List.mem_singleton.1 hx];omega
     ·rw [List.mem_append,List.mem_singleton]
      exact⟨fun h=>h.resolve_right hx,.inl⟩
   ·right
    obtain rfl:i=T.length:=by omega
    refine⟨.inl (T,M,E),?_,T,M,E,rfl,kn,hS,hZ,hi1,hi2,ht,fun a t hat=>hmk a t (List.getElem?_eq_some_iff.1 hat).1 hat⟩
    rw [y1A]
    dsimp only
    rw [if_neg ct_ge]) (fun s ⟨e1,hle,hS,hZ,hi1,hi2,ht,hmk⟩=>by
   obtain⟨k,kn,T,M,E⟩:=s
   dsimp only at e1 hle hS hZ hi1 hi2 ht hmk
   subst e1
   have hTl:=y5v h hS.nd hS.inT
   have hT:4000=T.length:=by omega
   refine⟨.inl (T,M,E),?_,T,M,E,rfl,kn,by rw [←hT];exact hS,by rw [←hT];exact hZ,hi1,by rw [←hT];exact hi2,ht,fun a t hat=>hmk a t (by have:=(List.getElem?_eq_some_iff.1 hat).1;omega) hat⟩
   rw [y1A]
   dsimp only
   rw [hT,if_neg ct_ge]) (Nat.zero_le _) (0,kput ([]:Kno) (keyK t0) 0,[t0],[],[]) ⟨rfl,by simp,hS0,hZ0,List.Pairwise.nil,fun x hx=>(by cases hx),rfl,fun a t ha=>by omega⟩
 obtain⟨T,M,E,rfl,kn,hS,hZ,hi1,hi2,ht,hmk⟩:=h2
 have hTl:=y5v h hS.nd hS.inT
 have hR:Right (m.2.1,(T.length:Int),M,E) T.length:=by
  refine⟨rfl,by omega,hM.ev.1,hM.ev.2,hi1,hi2,fun x hx=>?_,hS.so,by dsimp only;omega,?_,?_⟩
  ·have:=hS.er x hx
   have h3:=hS.es x hx
   refine⟨this.1,?_,this.2.2⟩
   rcases Int.lt_or_le x.1 (T.length:Int) with h4 | h4
   ·exact h4
   ·exact absurd (h3 (by omega)) (by simp)
  ·have:=y3u (n:=T.length) (lo:=0) hi1 hi2 (Int.le_refl _)
   dsimp only
   omega
  ·have:=hS.el
   dsimp only
   omega
 have hel:(edsOf (m.2.1,(T.length:Int),M,E)).length=E.length:=List.length_map _
 have hee:∀n (hn:n < (edsOf (m.2.1,(T.length:Int),M,E)).length) (hn':n < E.length),(edsOf (m.2.1,(T.length:Int),M,E))[n]=toEd E[n]:=fun n hn hn'=>by simp [edsOf]
 refine⟨m,(m.2.1,(T.length:Int),M,E),T,T.length,hm,hM,?_,hR,hS.pos,hTl,rfl,hS.nd,hS.inT,⟨t0,ht,ht0⟩,rfl,hZ.sn,fun a t e r ha he hst=>?_,⟨?_,fun x hx=>?_,fun k h0 h1=>?_,fun n hn k h0 h1=>?_,fun n hn hf=>?_⟩,hmk⟩
 ·rw [yq,yaW h,yOb,if_neg (by simp),hm,yOb,ht0,yOb,if_neg (by simp)]
  dsimp only
  rw [yaJ h hT0,yOb,h1]
  rfl
 ·obtain ⟨b,hb,hbe⟩:=List.getElem_of_mem he
  exact hZ.ed a b t e r (.inl (List.getElem?_eq_some_iff.1 ha).1) ha (by rw [yGe hb,hbe]) hst
 ·have:=hR.sorted
  exact this
 ·have h3:=hR.ein x hx
  have h4:=hR.evs x hx
  exact⟨h3.1,h3.2.1,h3.2.2.1,h3.2.2.2,h4.1,h4.2⟩
 ·obtain ⟨x,hx,h3⟩:=hZ.cov k h0 h1
  exact⟨toEd x,List.mem_map_of_mem hx,h3⟩
 ·have hn':n < E.length:=by omega
  rw [hee n hn hn'] at h1
  obtain⟨p,hp,h3,h4⟩:=hZ.ear n hn' k h0 h1
  exact⟨p,by omega,h3,by rw [hee p (by omega) hp];exact h4⟩
 ·have hn':n < E.length:=by omega
  rw [hee n hn hn']
  refine hZ.fst n hn' fun p hp hpn=>?_
  have:=hf p (by omega) hpn
  rw [hee p (by omega) hp,hee n hn hn'] at this
  exact this
def mg (kp:Bool→Bool→Bool):List Int→List Int→List Int
 | [],[]=> []
 | [],b :: vs=>if kp false true=true then b :: mg kp [] vs else mg kp [] vs
 | a :: us,[]=>if kp true false=true then a :: mg kp us [] else mg kp us []
 | a :: us,b :: vs=>if a < b then(if kp true false=true then a :: mg kp us (b :: vs) else mg kp us (b :: vs)) else if b < a then(if kp false true=true then b :: mg kp (a :: us) vs else mg kp (a :: us) vs) else(if kp true true=true then b :: mg kp us vs else mg kp us vs)
termination_by us vs=>us.length + vs.length
theorem y6X {kp:Bool→Bool→Bool} {h:Int} {us vs us' vs' r:List Int} {bu bv:Bool} (hr:Inc r∧∀x,x∈r↔((x∈us'∨x∈vs')∧kp (hasB us' x) (hasB vs' x)=true))
  (hu:∀x,x∈us↔(x=h∧bu=true)∨x∈us') (hv:∀x,x∈vs↔(x=h∧bv=true)∨x∈vs') (gu:∀x∈us',h < x) (gv:∀x∈vs',h < x) (hb:bu=true∨bv=true):
  Inc (if kp bu bv=true then h :: r else r)∧∀x,x∈(if kp bu bv=true then h :: r else r)↔((x∈us∨x∈vs)∧kp (hasB us x) (hasB vs x)=true):=by
 have e1:hasB us h=bu:=by
  rw [Bool.eq_iff_iff,yl,hu]
  exact⟨fun e=>e.elim (fun e=>e.2) (fun e=>by have:=gu _ e;omega),fun e=> .inl ⟨rfl,e⟩⟩
 have e2:hasB vs h=bv:=by
  rw [Bool.eq_iff_iff,yl,hv]
  exact⟨fun e=>e.elim (fun e=>e.2) (fun e=>by have:=gv _ e;omega),fun e=> .inl ⟨rfl,e⟩⟩
 have e3:∀x,x≠h→hasB us x=hasB us' x:=fun x hx=>by
  rw [Bool.eq_iff_iff,yl,yl,hu]
  exact⟨fun e=>e.elim (fun e=>absurd e.1 hx) id,.inr⟩
 have e4:∀x,x≠h→hasB vs x=hasB vs' x:=fun x hx=>by
  rw [Bool.eq_iff_iff,yl,yl,hv]
  exact⟨fun e=>e.elim (fun e=>absurd e.1 hx) id,.inr⟩
 have hgt:∀x∈r,h < x:=fun x hx=>((hr.2 x).1 hx).1.elim (gu x) (gv x)
 have hne:∀x,x≠h→(x∈r↔((x∈us∨x∈vs)∧kp (hasB us x) (hasB vs x)=true)):=fun x hx=>by
  rw [hr.2 x,e3 x hx,e4 x hx,hu,hv]
  constructor
  ·rintro ⟨h1 | h1,h2⟩
   ·exact ⟨.inl (.inr h1),h2⟩
   ·exact ⟨.inr (.inr h1),h2⟩
  ·rintro ⟨(h1 | h1) | (h1 | h1),h2⟩
   ·exact absurd h1.1 hx
   ·exact ⟨.inl h1,h2⟩
   ·exact absurd h1.1 hx
   ·exact ⟨.inr h1,h2⟩
 have hh:(h∈us∨h∈vs):=hb.elim (fun e=> .inl ((hu h).2 (.inl ⟨rfl,e⟩))) (fun e=> .inr ((hv h).2 (.inl ⟨rfl,e⟩)))
 cases hk:kp bu bv with
 | true=>
  rw [if_pos rfl]
  refine⟨List.pairwise_cons.2 ⟨hgt,hr.1⟩,fun x=>?_⟩
  rw [List.mem_cons]
  by_cases hx:x=h
  ·subst hx
   exact⟨fun _=>⟨hh,by rw [e1,e2,hk]⟩,fun _=> .inl rfl⟩
  ·rw [←hne x hx]
   exact⟨fun e=>e.resolve_left hx,.inr⟩
 | false=>
  rw [if_neg (by simp)]
  refine⟨hr.1,fun x=>?_⟩
  by_cases hx:x=h
  ·subst hx
   refine⟨fun e=>absurd (hgt x e) (by omega),fun e=>?_⟩
   rw [e1,e2,hk] at e
   cases e.2
  ·exact hne x hx
theorem y3D (kp:Bool→Bool→Bool):∀(us vs:List Int),Inc us→Inc vs→Inc (mg kp us vs)∧∀x,x∈mg kp us vs↔((x∈us∨x∈vs)∧kp (hasB us x) (hasB vs x)=true)
 | [],[],_,_=>by
  rw [mg]
  exact⟨List.Pairwise.nil,fun x=>⟨fun h=>(by cases h),fun h=>(by rcases h.1 with h | h <;> cases h)⟩⟩
 | [],b :: vs,_,hv=>by
  obtain⟨v1,v2⟩:=List.pairwise_cons.1 hv
  rw [mg]
  exact y6X (bu:=false) (bv:=true) (y3D kp [] vs List.Pairwise.nil v2) (fun x=>by simp) (fun x=>by simp) (fun x hx=>by cases hx) v1 (.inr rfl)
 | a :: us,[],hu,_=>by
  obtain⟨u1,u2⟩:=List.pairwise_cons.1 hu
  rw [mg]
  exact y6X (bu:=true) (bv:=false) (y3D kp us [] u2 List.Pairwise.nil) (fun x=>by simp) (fun x=>by simp) u1 (fun x hx=>by cases hx) (.inl rfl)
 | a :: us,b :: vs,hu,hv=>by
  obtain⟨u1,u2⟩:=List.pairwise_cons.1 hu
  obtain⟨v1,v2⟩:=List.pairwise_cons.1 hv
  rw [mg]
  by_cases h1:a < b
  ·rw [if_pos h1]
   refine y6X (bu:=true) (bv:=false) (y3D kp us (b :: vs) u2 hv) (fun x=>by simp) (fun x=>by simp) u1 (fun x hx=>?_) (.inl rfl)
   rcases List.mem_cons.1 hx with rfl | hx
   ·exact h1
   ·have:=v1 x hx;omega
  ·rw [if_neg h1]
   by_cases h2:b < a
   ·rw [if_pos h2]
    refine y6X (bu:=false) (bv:=true) (y3D kp (a :: us) vs hu v2) (fun x=>by simp) (fun x=>by simp) (fun x hx=>?_) v1 (.inr rfl)
    rcases List.mem_cons.1 hx with rfl | hx
    ·exact h2
    ·have:=u1 x hx;omega
   ·obtain rfl:a=b:=by omega
    rw [if_neg h2]
    exact y6X (bu:=true) (bv:=true) (y3D kp us vs u2 v2) (fun x=>by simp) (fun x=>by simp) u1 v1 (.inl rfl)
termination_by us vs=>us.length + vs.length
theorem yaY {kp:Bool→Bool→Bool} {f:Bool→Bool→Option Bool} (hf:∀a b,f a b=some (kp a b)) {out us vs:List Int} (hl:out.length≤4000000) (hne:0 < us.length + vs.length):
  ∃o u v,yn f (out,us,vs)=some (.inl (o,u,v))∧o ++ mg kp u v=out ++ mg kp us vs∧o.length≤out.length + 1∧u.length + v.length + 1≤us.length + vs.length:=by
 have ho:∀a:Int,app out ([a]:List Int)=some (out ++ [a]):=fun a=>yE (by simp;omega)
 have fin:∀(bu bv:Bool) (h:Int) (u v:List Int),∃o,yF f (out,us,vs) bu bv u v h=some (.inl (o,u,v))∧o ++ mg kp u v=out ++ (if kp bu bv=true then h :: mg kp u v else mg kp u v)∧o.length≤out.length + 1:=fun bu bv h u v=>by
  rw [yF,hf,yOb]
  dsimp only
  cases kp bu bv with
  | true=>rw [if_pos rfl,ho,yOb];exact⟨_,rfl,by simp,by simp⟩
  | false=>rw [if_neg (by simp)];exact⟨_,rfl,by simp,by omega⟩
 cases us with
 | nil=>
  cases vs with
  | nil=>simp at hne
  | cons b vs=>
   obtain⟨o,h1,h2,h3⟩:=fin false true b [] vs
   refine⟨o,[],vs,?_,by rw [h2,mg],h3,by simp⟩
   rw [yn]
   dsimp only
   rw [if_pos (by simp),if_neg (by simp),yG]
   dsimp only
   rw [if_pos (by simp),if_pos (by simp),yr,if_neg (by simp),ym,if_pos rfl]
   dsimp only
   rw [y2O,yOb,y4j,yOb]
   exact h1
 | cons a us=>
  cases vs with
  | nil=>
   obtain⟨o,h1,h2,h3⟩:=fin true false a us []
   refine⟨o,us,[],?_,by rw [h2,mg],h3,by simp⟩
   rw [yn]
   dsimp only
   rw [if_pos (by simp),if_pos (by simp),if_pos (by simp),yG]
   dsimp only
   rw [if_neg (by simp),yr,if_pos rfl]
   dsimp only
   rw [y2O,yOb,y4j,yOb,ym,if_neg (by simp)]
   exact h1
  | cons b vs=>
   have e0:yn f (out,a :: us,b :: vs)=yr f (out,a :: us,b :: vs) (decide (a≤b)) (decide (b≤a)):=by
    rw [yn]
    dsimp only
    rw [if_pos (by simp),if_pos (by simp),if_neg (by simp;omega),y2O,yOb,y2O,yOb,yG]
    dsimp only
    rw [if_pos (by simp),if_neg (by simp;omega),y2O,yOb,y2O,yOb]
   rw [e0,yr]
   dsimp only
   by_cases h1:a < b
   ·obtain ⟨o,g1,g2,g3⟩:=fin true false a us (b :: vs)
    refine⟨o,us,b :: vs,?_,by rw [g2,mg,if_pos h1],g3,by simp;omega⟩
    rw [show decide (a≤b)=true by simp;omega,show decide (b≤a)=false by simp;omega,if_pos rfl,y2O,yOb,y4j,yOb,ym,if_neg (by simp)]
    exact g1
   ·by_cases h2:b < a
    ·obtain ⟨o,g1,g2,g3⟩:=fin false true b (a :: us) vs
     refine⟨o,a :: us,vs,?_,by rw [g2,mg,if_neg h1,if_pos h2],g3,by simp;omega⟩
     rw [show decide (a≤b)=false by simp;omega,show decide (b≤a)=true by simp;omega,if_neg (by simp),ym,if_pos rfl]
     dsimp only
     rw [y2O,yOb,y4j,yOb]
     exact g1
    ·obtain ⟨o,g1,g2,g3⟩:=fin true true b us vs
     refine⟨o,us,vs,?_,by rw [g2,mg,if_neg h1,if_neg h2],g3,by simp;omega⟩
     rw [show decide (a≤b)=true by simp;omega,show decide (b≤a)=true by simp;omega,if_pos rfl,y2O,yOb,y4j,yOb,ym,if_pos rfl]
     dsimp only
     rw [y2O,yOb,y4j,yOb]
     exact g1
theorem y8p {kp:Bool→Bool→Bool} {f:Bool→Bool→Option Bool} (hf:∀a b,f a b=some (kp a b)) {us vs:List Int} (hu:us.length≤1000000) (hv:vs.length≤1000000):y2d us vs f=some (mg kp us vs):=by
 obtain⟨o,h1,h2⟩:=yb (f:=yn f) (fun i s=>s.1 ++ mg kp s.2.1 s.2.2=mg kp us vs∧s.1.length≤i∧s.2.1.length + s.2.2.length + i≤us.length + vs.length) (fun o=>o=mg kp us vs) (us.length + vs.length) 0 (by omega) (fun i s hi ⟨g1,g0,g2⟩=>by
   obtain⟨out,u,v⟩:=s
   dsimp only at g1 g0 g2
   by_cases hne:0 < u.length + v.length
   ·obtain ⟨o,u',v',e,g3,g5,g4⟩:=yaY hf (out:=out) (by omega) hne
    exact .inl ⟨_,e,by rw [←g1];exact g3,by dsimp only;omega,by dsimp only;omega⟩
   ·have e1:u= []:=List.eq_nil_of_length_eq_zero (by omega)
    have e2:v= []:=List.eq_nil_of_length_eq_zero (by omega)
    subst e1;subst e2
    rw [mg,List.append_nil] at g1
    exact .inr ⟨out,rfl,g1⟩) (fun s ⟨g1,g0,g2⟩=>by
   obtain⟨out,u,v⟩:=s
   dsimp only at g1 g2
   have e1:u= []:=List.eq_nil_of_length_eq_zero (by omega)
   have e2:v= []:=List.eq_nil_of_length_eq_zero (by omega)
   subst e1;subst e2
   rw [mg,List.append_nil] at g1
   exact⟨out,rfl,g1⟩) (Nat.zero_le _) ([],us,vs) ⟨rfl,by simp,by dsimp only;omega⟩
 rw [y2d,h1,h2]
 rfl
theorem y9D {us vs:List Int} (hu:us.length≤1000000) (hv:vs.length≤1000000):y2D us vs=some (mg (fun a b=>a || b) us vs):=by
 rw [y2D,y8p (f:=yt) (kp:=fun a b=>a || b) (fun a b=>rfl) hu hv]
 rfl
def st1 (a:AutT) (s e:Int):Option Int:=(a.2.2.2.find? fun x=>x.1 == s && x.2.1 == e).map fun x=>x.2.2
theorem y4Y {a:AutT} {n:Nat} (hr:Right a n) {s e t:Int}:st1 a s e=some t↔(s,e,t)∈a.2.2.2:=by
 unfold st1
 rw [Option.map_eq_some_iff]
 constructor
 ·rintro ⟨x,h1,rfl⟩
  have h2:=List.find?_some h1
  have h3:=List.mem_of_find?_eq_some h1
  simp only [Bool.and_eq_true,beq_iff_eq] at h2
  obtain⟨rfl,rfl⟩:=h2
  exact h3
 ·intro h
  cases hf:a.2.2.2.find? fun x=>x.1 == s && x.2.1 == e with
  | none=>exact absurd (List.find?_eq_none.1 hf _ h) (by simp)
  | some x=>
   refine⟨x,rfl,?_⟩
   have h2:=List.find?_some hf
   have h3:=List.mem_of_find?_eq_some hf
   simp only [Bool.and_eq_true,beq_iff_eq] at h2
   obtain⟨i,hi,e1⟩:=List.getElem_of_mem h
   obtain⟨j,hj,e2⟩:=List.getElem_of_mem h3
   rcases Nat.lt_trichotomy i j with hij | hij | hij
   ·have:=List.pairwise_iff_getElem.1 hr.so i j hi hj hij
    rw [e1,e2] at this
    dsimp only at this
    omega
   ·subst hij
    rw [e1] at e2
    rw [←e2]
   ·have:=List.pairwise_iff_getElem.1 hr.so j i hj hi hij
    rw [e1,e2] at this
    dsimp only at this
    omega
theorem y7Q {a:AutT} {n:Nat} (hr:Right a n) {s e t:Int} (h:st1 a s e=some t):0≤s∧s < (n:Int)∧0≤t∧t < (n:Int)∧e∈a.1:=hr.es _ ((y4Y hr).1 h)
theorem yaL {es:List (Int×Int×Int)} (so:es.Pairwise fun x y=>x.1 < y.1∨(x.1=y.1∧x.2.1 < y.2.1)) {i:Nat} (hi:i < es.length) (q:Int×Int):
  ((es.take (i + 1)).find? fun x=>x.1 == q.1 && x.2.1 == q.2).map (fun x=>x.2.2)=if q=(es[i].1,es[i].2.1) then some es[i].2.2 else((es.take i).find? fun x=>x.1 == q.1 && x.2.1 == q.2).map fun x=>x.2.2:=by
 rw [List.take_succ_eq_append_getElem hi,List.find?_append]
 by_cases h:q=(es[i].1,es[i].2.1)
 ·rw [if_pos h]
  have hn:(es.take i).find? (fun x=>x.1 == q.1 && x.2.1 == q.2)=none:=by
   rw [List.find?_eq_none]
   intro x hx hx2
   simp only [Bool.and_eq_true,beq_iff_eq] at hx2
   obtain⟨k,hk,rfl⟩:=List.getElem_of_mem hx
   rw [List.length_take] at hk
   rw [List.getElem_take,h] at hx2
   have:=List.pairwise_iff_getElem.1 so k i (by omega) hi (by omega)
   omega
  rw [hn,Option.none_or,List.find?_cons_of_pos (by rw [h];simp)]
  rfl
 ·rw [if_neg h,List.find?_cons_of_neg (by
   intro hx
   simp only [Bool.and_eq_true,beq_iff_eq] at hx
   exact h (by rw [hx.1,hx.2])),List.find?_nil,Option.or_none]
theorem y9E {a:AutT} {n:Nat} (hr:Right a n):∃o,iter (y1e a) (0,([]:List ((Int×Int)×Int)))=some o∧∀q:Int×Int,kget o q=st1 a q.1 q.2:=by
 have hl:=hr.l3
 refine yb (f:=y1e a) (fun i s=>s.1=(i:Int)∧∀q:Int×Int,kget s.2 q=((a.2.2.2.take i).find? fun x=>x.1 == q.1 && x.2.1 == q.2).map fun x=>x.2.2) (fun o=>∀q:Int×Int,kget o q=st1 a q.1 q.2) a.2.2.2.length 0 (by omega) (fun i s hi ⟨e1,g1⟩=>?_) (fun s ⟨e1,g1⟩=>?_) (Nat.zero_le _) _ ⟨rfl,fun q=>rfl⟩
 ·obtain ⟨k,out⟩:=s
  dsimp only at e1 g1
  subst e1
  refine .inl ⟨(((i + 1:Nat):Int),kput out (a.2.2.2[i].1,a.2.2.2[i].2.1) a.2.2.2[i].2.2),?_,rfl,fun q=>?_⟩
  ·rw [y1e]
   dsimp only
   rw [if_pos (ct_lt hi),ya hi,yOb,nxt (by omega)]
  ·dsimp only
   rw [y3A,yaL hr.so hi,g1]
 ·obtain ⟨k,out⟩:=s
  dsimp only at e1 g1
  subst e1
  rw [List.take_length] at g1
  refine⟨out,?_,g1⟩
  rw [y1e]
  dsimp only
  rw [if_neg ct_ge]
theorem yaZ {P S:AutT} (hP:Alp P.1) (hS:Alp S.1):y2E [P,S]=some (mg (fun a b=>a || b) P.1 S.1):=by
 have l1:=hP.len
 have l2:=hS.len
 have h0:mg (fun a b=>a || b) [] P.1=P.1:=by
  have h:=y3D (fun a b=>a || b) [] P.1 List.Pairwise.nil hP.1
  refine y7m (lt:=fun a b:Int=>a < b) (fun a b h1 h2=>by omega) h.1 hP.1 fun x=>?_
  rw [h.2]
  constructor
  ·rintro ⟨h1 | h1,_⟩
   ·cases h1
   ·exact h1
  ·intro h1
   refine⟨.inr h1,?_⟩
   rw [yl.2 h1]
   simp
 have h:iter (y1c [P,S]) (0,[])=some (mg (fun a b=>a || b) P.1 S.1):=by
  refine y3M (n:=3) (by omega) ?_
  rw [ye,y1c]
  dsimp only
  rw [if_pos (by simp),show idx [P,S] 0=some P from rfl,yOb,y9D (by simp) (by omega),yOb,h0]
  dsimp only
  rw [ye,y1c]
  dsimp only
  rw [show W (0 + 1)=1 from rfl,if_pos (by simp),show idx [P,S] 1=some S from rfl,yOb,y9D (by omega) (by omega),yOb]
  dsimp only
  rw [ye,y1c]
  dsimp only
  rw [show W (1 + 1)=2 from rfl,if_neg (by simp)]
 rw [y2E,h]
 rfl
theorem yaa {P S:AutT} {n1 n2:Nat} (hP:Right P n1) (hS:Right S n2):∃o1 o2,y2G [P,S]=some ([P,S],mg (fun a b=>a || b) P.1 S.1,[o1,o2])∧(∀q:Int×Int,kget o1 q=st1 P q.1 q.2)∧∀q:Int×Int,kget o2 q=st1 S q.1 q.2:=by
 obtain⟨o1,h1,g1⟩:=y9E hP
 obtain⟨o2,h2,g2⟩:=y9E hS
 refine⟨o1,o2,?_,g1,g2⟩
 have h:iter (y1u [P,S]) (0,[])=some [o1,o2]:=by
  refine y3M (n:=3) (by omega) ?_
  rw [ye,y1u]
  dsimp only
  rw [if_pos (by simp),show idx [P,S] 0=some P from rfl,yOb,h1,yOb,yE (by simp),yOb]
  dsimp only
  rw [ye,y1u]
  dsimp only
  rw [show W (0 + 1)=1 from rfl,if_pos (by simp),show idx [P,S] 1=some S from rfl,yOb,h2,yOb,yE (by simp),yOb]
  dsimp only
  rw [ye,y1u]
  dsimp only
  rw [show W (1 + 1)=2 from rfl,if_neg (by simp)]
  rfl
 rw [y2G,yaZ ⟨hP.ali,hP.alr⟩ ⟨hS.ali,hS.alr⟩,yOb,h]
 rfl
def pst (P S:AutT) (x y e:Int):Option (Int×Int):=(if hasB P.1 e=true then st1 P x e else some x).bind fun x'=>(if hasB S.1 e=true then st1 S y e else some y).map fun y'=>(x',y')
theorem ycR {P S:AutT} {n1 n2:Nat} (hP:Right P n1) (hS:Right S n2) {ev:List Int} {o1 o2:List ((Int×Int)×Int)} (g1:∀q:Int×Int,kget o1 q=st1 P q.1 q.2) (g2:∀q:Int×Int,kget o2 q=st1 S q.1 q.2) (x y e:Int):
  yP ([P,S],ev,[o1,o2]) [x,y] e=some (match pst P S x y e with
   | some u=>([u.1,u.2],true)
   | none=>([],false)):=by
 have l1:=hP.l1
 have l2:=hS.l1
 have f0:yj ([P,S],ev,[o1,o2]) [x,y] e (0,[x,y])=some (match (if hasB P.1 e=true then st1 P x e else some x) with
   | some x'=> .inl (1,[x',y])
   | none=> .inr (.inr ())):=by
  rw [yj]
  dsimp only
  rw [if_pos (by simp),show idx [P,S] 0=some P from rfl,yOb,y4z (by omega) hP.ali,yOb]
  cases hb:hasB P.1 e with
  | false=>
   rw [if_pos (by simp),yp,if_neg (by simp)]
   rfl
  | true=>
   rw [if_neg (by simp),show idx [o1,o2] 0=some o1 from rfl,yOb,show idx [x,y] 0=some x from rfl,yOb,g1,if_pos rfl]
   dsimp only
   cases st1 P x e with
   | none=>rw [if_pos (by simp)]
   | some v=>
    rw [if_neg (by simp),yOb,show upd [x,y] 0 ((some v).getD 0)=some [v,y] from rfl,yOb,yp]
    rfl
 have f1:∀x',yj ([P,S],ev,[o1,o2]) [x,y] e (1,[x',y])=some (match (if hasB S.1 e=true then st1 S y e else some y) with
   | some y'=> .inl (2,[x',y'])
   | none=> .inr (.inr ())):=fun x'=>by
  rw [yj]
  dsimp only
  rw [if_pos (by simp),show idx [P,S] 1=some S from rfl,yOb,y4z (by omega) hS.ali,yOb]
  cases hb:hasB S.1 e with
  | false=>
   rw [if_pos (by simp),yp,if_neg (by simp)]
   rfl
  | true=>
   rw [if_neg (by simp),show idx [o1,o2] 1=some o2 from rfl,yOb,show idx [x,y] 1=some y from rfl,yOb,g2,if_pos rfl]
   dsimp only
   cases st1 S y e with
   | none=>rw [if_pos (by simp)]
   | some v=>
    rw [if_neg (by simp),show idx [x',y] 1=some y from rfl,yOb,show upd [x',y] 1 ((some v).getD 0)=some [x',v] from rfl,yOb,yp]
    rfl
 have f2:∀u,yj ([P,S],ev,[o1,o2]) [x,y] e (2,u)=some (.inr (.inl u)):=fun u=>by
  rw [yj]
  dsimp only
  rw [if_neg (by simp)]
 have h:iter (yj ([P,S],ev,[o1,o2]) [x,y] e) (0,[x,y])=some (match pst P S x y e with
   | some u=> .inl [u.1,u.2]
   | none=> .inr ()):=by
  refine y3M (n:=3) (by omega) ?_
  rw [ye,f0]
  unfold pst
  cases (if hasB P.1 e=true then st1 P x e else some x) with
  | none=>rfl
  | some x'=>
   dsimp only
   rw [ye,f1,yOb]
   cases (if hasB S.1 e=true then st1 S y e else some y) with
   | none=>rfl
   | some y'=>
    dsimp only
    rw [ye,f2]
    rfl
 rw [yP,y6n (by simp),yOb,h,yOb]
 cases pst P S x y e <;> rfl
structure Loop (P S p:AutT) (T:List (List Int)) (n:Nat):Prop where
 right:Right p n
 pos:1≤n
 le:n≤4000
 tl:T.length=n
 nd:T.Nodup
 tt:∀t∈T,∃x y,t= [x,y]∧0≤x∧x < P.2.1∧0≤y∧y < S.2.1
 t0:T[0]? =some [0,0]
 ev:∀e,e∈p.1↔e∈P.1∨e∈S.1
 no:∀(a:Nat) (x y e:Int),T[a]? =some [x,y]→e∈p.1→pst P S x y e=none→st1 p (a:Int) e=none
 yes:∀(a:Nat) (x y e x' y':Int),T[a]? =some [x,y]→e∈p.1→pst P S x y e=some (x',y')→∃q:Nat,st1 p (a:Int) e=some (q:Int)∧T[q]? =some [x',y']
 num:Num (edsOf p) n
theorem ycS {P S:AutT} {n1 n2:Nat} (hP:Right P n1) (hS:Right S n2) {ev:List Int} {o1 o2:List ((Int×Int)×Int)} (g1:∀q:Int×Int,kget o1 q=st1 P q.1 q.2) (g2:∀q:Int×Int,kget o2 q=st1 S q.1 q.2) (x y e:Int):
  mst ([P,S],ev,[o1,o2]) [x,y] e=(pst P S x y e).map fun u=> [u.1,u.2]:=by
 unfold mst
 rw [ycR hP hS g1 g2]
 cases pst P S x y e <;> rfl
theorem ycT {P S:AutT} {n1 n2 B:Nat} (hP:Right P n1) (hS:Right S n2) (p1:1≤n1) (p2:1≤n2) (b1:n1≤B) (b2:n2≤B) (hB:B≤99) (hBB:B * B≤4000):∃p T n,yq [P,S]=some (p,T,0)∧Loop P S p T n:=by
 have hL:LOkB B [P,S]:=⟨by simp,fun a ha=>by
  rcases List.mem_cons.1 ha with rfl | ha
  ·exact ⟨n1,p1,b1,hP⟩
  ·rw [List.mem_singleton.1 ha];exact⟨n2,p2,b2,hS⟩,hB,by
  show B ^ 2≤4000
  rw [Nat.pow_two];exact hBB⟩
 obtain⟨m,p,T,n,h1,h2,h3,h⟩:=ycd hL
 obtain⟨o1,o2,e1,g1,g2⟩:=yaa hP hS
 rw [h1] at e1
 obtain rfl:=Option.some.inj e1
 have htt:∀t∈T,∃x y,t= [x,y]∧0≤x∧x < P.2.1∧0≤y∧y < S.2.1:=fun t ht=>by
  obtain⟨hl,hr⟩:=h.inT t ht
  match t,hl,hr with
  | [x,y],_,hr=>
   have q1:=hr 0 (by simp) (by simp)
   have q2:=hr 1 (by simp) (by simp)
   exact⟨x,y,rfl,q1.1,q1.2,q2.1,q2.2⟩
 have hms:=ycS hP hS (ev:=mg (fun a b=>a || b) P.1 S.1) g1 g2
 have hev:p.1=mg (fun a b=>a || b) P.1 S.1:=h.ev
 refine⟨p,T,n,h3,h.right,h.pos,h.le,h.tl,h.nd,htt,?_,fun e=>?_,fun a x y e ha he hp=>?_,fun a x y e x' y' ha he hp=>?_,h.num⟩
 ·obtain ⟨t,q1,q2⟩:=h.t0
  rw [q1]
  have hin:yo ([P,S],mg (fun a b=>a || b) P.1 S.1,[o1,o2])=some ([0,0],true):=by
   have hi:iter (yc ([P,S],mg (fun a b=>a || b) P.1 S.1,[o1,o2])) 0=some (.inl ()):=by
    refine y3M (n:=3) (by omega) ?_
    rw [ye,yc]
    dsimp only
    rw [if_pos (by simp),show idx [P,S] 0=some P from rfl,yOb,hP.nn,if_neg (by simp;omega)]
    dsimp only
    rw [ye,yc]
    dsimp only
    rw [show W (0 + 1)=1 from rfl,if_pos (by simp),show idx [P,S] 1=some S from rfl,yOb,hS.nn,if_neg (by simp;omega)]
    dsimp only
    rw [ye,yc]
    dsimp only
    rw [show W (1 + 1)=2 from rfl,if_neg (by simp)]
   rw [yo,hi,yOb]
   dsimp only
   rw [y7v (by simp) (by simp),yOb]
   rfl
  rw [hin] at q2
  cases q2
  rfl
 ·have hsp:=y3D (fun a b=>a || b) P.1 S.1 hP.ali hS.ali
  rw [hev,hsp.2]
  constructor
  ·exact fun q=>q.1
  ·intro q
   refine⟨q,?_⟩
   rcases q with q | q
   ·rw [yl.2 q];rfl
   ·rw [yl.2 q];simp
 ·cases hs:st1 p (a:Int) e with
  | none=>rfl
  | some t=>
   obtain⟨a',q,u,r,k1,k2,k3,k4,k5⟩:=h.sn _ ((y4Y h.right).1 hs)
   dsimp only at k1 k2 k5
   have:a'=a:=by omega
   subst this
   rw [ha] at k3
   cases k3
   rw [hms,hp] at k5
   cases k5
 ·have hm:mst ([P,S],mg (fun a b=>a || b) P.1 S.1,[o1,o2]) [x,y] e=some [x',y']:=by rw [hms,hp];rfl
  obtain⟨q,k1,k2⟩:=h.ed a [x,y] e [x',y'] ha he hm
  exact⟨q,(y4Y h.right).2 k1,k2⟩
theorem y6E {n:Int} {xs:List Int} (h:yO n none xs=0):Inc xs∧∀x∈xs,0≤x∧x < n:=by
 have key:∀(xs:List Int) (p:Option Int),yO n p xs=0→Inc xs∧(∀x∈xs,0≤x∧x < n)∧∀q,p=some q→∀x∈xs,q < x:=by
  intro xs
  induction xs with
  | nil=>intro p _;exact⟨List.Pairwise.nil,fun x hx=>(by cases hx),fun q _ x hx=>(by cases hx)⟩
  | cons y xs ih=>
   intro p h
   rw [yO] at h
   split at h
   ·cases h
   ·rename_i h1
    split at h
    ·cases h
    ·rename_i h2
     obtain⟨g1,g2,g3⟩:=ih _ h
     refine⟨List.pairwise_cons.2 ⟨fun z hz=>g3 y rfl z hz,g1⟩,fun x hx=>?_,fun q hq x hx=>?_⟩
     ·rcases List.mem_cons.1 hx with rfl | hx
      ·omega
      ·exact g2 x hx
     ·have hqy:q < y:=by
       have:¬y≤q:=fun hc=>h2 ⟨q,hq,hc⟩
       omega
      rcases List.mem_cons.1 hx with rfl | hx
      ·exact hqy
      ·have:=g3 y rfl x hx
       omega
 exact⟨(key xs none h).1,(key xs none h).2.1⟩
theorem yb0 {a:Aut} (h:a.err=0):yO 32 none a.al=0∧0≤a.n∧a.n≤4096∧yO a.n none a.ms=0∧edErr a.al a.n none a.es=0:=by
 unfold Aut.err at h
 split at h
 ·rename_i h1;rw [h] at h1;exact absurd h1 (by decide)
 ·rename_i h1
  split at h
  ·cases h
  ·split at h
   ·cases h
   ·split at h
    ·rename_i h4;rw [h] at h4;exact absurd h4 (by decide)
    ·rename_i h2 h3 h4
     exact⟨by simpa using h1,by omega,by omega,by simpa using h4,h⟩
theorem yaM {al:List Int} {n:Int}:∀(es:List Ed) (p:Option Ed),edErr al n p es=0→y8G es∧(∀q,p=some q→∀x∈es,edLt q x)∧∀x∈es,x.e∈al
 | [],_,_=>⟨List.Pairwise.nil,fun _ _ x hx=>(by cases hx),fun x hx=>(by cases hx)⟩
 | y :: es,p,h=>by
  rw [edErr] at h
  split at h
  ·cases h
  ·split at h
   ·cases h
   ·rename_i h2
    split at h
    ·cases h
    ·rename_i h3
     obtain⟨g1,g2,g4⟩:=yaM es _ h
     have g3:=g2 y rfl
     refine⟨List.pairwise_cons.2 ⟨g3,g1⟩,fun q hq x hx=>?_,fun x hx=>?_⟩
     ·have hqy:edLt q y:=by
       have h4:¬(y.f < q.f∨(y.f=q.f∧y.e≤q.e)):=fun hc=>h3 ⟨q,hq,hc⟩
       unfold edLt;omega
      rcases List.mem_cons.1 hx with rfl | hx
      ·exact hqy
      ·have h5:=g3 x hx
       unfold edLt at hqy h5 ⊢;omega
     ·rcases List.mem_cons.1 hx with rfl | hx
      ·exact yl.1 (by simpa using h2)
      ·exact g4 x hx
theorem y9F {a:AutT} (h:(toAut a).err=0) (h1:a.1.length≤1000000) (h2:a.2.2.1.length≤1000000) (h3:a.2.2.2.length≤1000000):Right a a.2.1.toNat:=by
 obtain⟨g1,g2,g3,g4,g5⟩:=yb0 h
 have hok:=Aut.ok_of h
 obtain⟨e1,_,e3⟩:=yaM _ _ g5
 obtain⟨al1,al2⟩:=y6E g1
 obtain⟨ms1,ms2⟩:=y6E g4
 have hn:(toAut a).n=a.2.1:=rfl
 rw [hn] at g2 g3
 have hnn:((a.2.1.toNat:Nat):Int)=a.2.1:=Int.toNat_of_nonneg g2
 refine⟨hnn.symm,by omega,al1,al2,ms1,fun x hx=>by rw [hnn];exact ms2 x hx,fun x hx=>?_,?_,h1,h2,h3⟩
 ·have:=hok.es (toEd x) (List.mem_map_of_mem hx)
  have h4:=e3 (toEd x) (List.mem_map_of_mem hx)
  rw [hnn]
  exact⟨this.1,this.2.1,this.2.2.1,this.2.2.2,h4⟩
 ·have e1:(a.2.2.2.map toEd).Pairwise edLt:=e1
  rw [List.pairwise_map] at e1
  exact e1
theorem yal {a:AutT} (h1:a.1.length≤1000000) (h2:a.2.2.1.length≤1000000) (h3:a.2.2.2.length≤1000000):y1t a=some (toAut a).err:=by
 have:=ya6 (a:=toAut a) (by simp [toAut];omega) (by simp [toAut];omega) (by simp [toAut];omega)
 rwa [y8H] at this
abbrev GrT :=AutT×List ((Int×Int)×Int)
abbrev TaskT :=GrT×GrT×GrT×List (List Int)×List Int×List Int
abbrev ProbT :=AutT×AutT×List Int
theorem y8q {a:AutT} {n:Nat} (hr:Right a n):∃o,y3m a=some (a,o)∧∀q:Int×Int,kget o q=st1 a q.1 q.2:=by
 have hl:=hr.l3
 obtain⟨o,h1,h2⟩:=yb (f:=y3Q a) (fun i s=>s.1=(i:Int)∧∀q:Int×Int,kget s.2 q=((a.2.2.2.take i).find? fun x=>x.1 == q.1 && x.2.1 == q.2).map fun x=>x.2.2) (fun o=>∀q:Int×Int,kget o q=st1 a q.1 q.2) a.2.2.2.length 0 (by omega) (fun i s hi ⟨e1,g1⟩=>by
   obtain⟨k,out⟩:=s
   dsimp only at e1 g1
   subst e1
   refine .inl ⟨(((i + 1:Nat):Int),kput out (a.2.2.2[i].1,a.2.2.2[i].2.1) a.2.2.2[i].2.2),?_,rfl,fun q=>?_⟩
   ·rw [y3Q]
    dsimp only
    rw [if_pos (ct_lt hi),ya hi,yOb,nxt (by omega)]
   ·dsimp only
    rw [y3A,yaL hr.so hi,g1]) (fun s ⟨e1,g1⟩=>by
   obtain⟨k,out⟩:=s
   dsimp only at e1 g1
   subst e1
   rw [List.take_length] at g1
   refine⟨out,?_,g1⟩
   rw [y3Q]
   dsimp only
   rw [if_neg ct_ge]) (Nat.zero_le _) (0,[]) ⟨rfl,fun q=>rfl⟩
 exact⟨o,by rw [y3m,h1];rfl,h2⟩
def GrOk (g:GrT) (a:AutT):Prop:=g.1=a∧∀q:Int×Int,kget g.2 q=st1 a q.1 q.2
theorem to_eq {g:GrT} {a:AutT} (h:GrOk g a) (s e:Int):y2v g s e=some ((st1 a s e).getD (-1)):=by
 rw [y2v,h.2 (s,e)]
 cases st1 a s e <;> rfl
structure LoopZ (P S p:AutT) (T:List (List Int)) (n:Nat):Prop where
 right:Right p n
 le:n≤4000
 tl:T.length=n
 nd:T.Nodup
 tt:∀t∈T,∃x y,t= [x,y]∧0≤x∧x < P.2.1∧0≤y∧y < S.2.1
 t0:0 < n→T[0]? =some [0,0]
 zero:n=0↔P.2.1=0∨S.2.1=0
 ev:∀e,e∈p.1↔e∈P.1∨e∈S.1
 no:∀(a:Nat) (x y e:Int),T[a]? =some [x,y]→e∈p.1→pst P S x y e=none→st1 p (a:Int) e=none
 yes:∀(a:Nat) (x y e x' y':Int),T[a]? =some [x,y]→e∈p.1→pst P S x y e=some (x',y')→∃q:Nat,st1 p (a:Int) e=some (q:Int)∧T[q]? =some [x',y']
 num:Num (edsOf p) n
theorem ybz {P S:AutT} {n1 n2:Nat} (hP:Right P n1) (hS:Right S n2):y2W [P,S]=some 0:=by
 have h1:iter (y1j [P,S]) 0=some (.inl ()):=by
  refine y3M (n:=3) (by omega) ?_
  rw [ye,y1j,if_pos (by simp),show idx [P,S] 0=some P from rfl,yOb,hP.check,yOb,if_neg (by simp)]
  dsimp only
  rw [ye,y1j,show W (0 + 1)=1 from rfl,if_pos (by simp),show idx [P,S] 1=some S from rfl,yOb,hS.check,yOb,if_neg (by simp)]
  dsimp only
  rw [ye,y1j,show W (1 + 1)=2 from rfl,if_neg (by simp)]
 rw [y2W,if_neg (by simp),h1]
 rfl
theorem yce {P S:AutT} {n1 n2:Nat} (hP:Right P n1) (hS:Right S n2) (b1:n1≤40) (b2:n2≤40):∃p T n,yq [P,S]=some (p,T,0)∧LoopZ P S p T n:=by
 by_cases h0:n1=0∨n2=0
 ·obtain ⟨o1,o2,h1,g1,g2⟩:=yaa hP hS
  have hi:∀ev,yo ([P,S],ev,[o1,o2])=some ([],false):=fun ev=>by
   have h2:iter (yc ([P,S],ev,[o1,o2])) 0=some (.inr ()):=by
    refine y3M (n:=2) (by omega) ?_
    rw [ye,yc]
    dsimp only
    rw [if_pos (by simp),show idx [P,S] 0=some P from rfl,yOb,hP.nn]
    by_cases h1:n1=0
    ·rw [if_pos (by simp [h1])]
    ·rw [if_neg (by simp;omega)]
     dsimp only
     rw [ye,yc]
     dsimp only
     rw [show W (0 + 1)=1 from rfl,if_pos (by simp),show idx [P,S] 1=some S from rfl,yOb,hS.nn,if_pos (by simp;omega)]
   rw [yo,h2]
   rfl
  have hsp:=y3D (fun a b=>a || b) P.1 S.1 hP.ali hS.ali
  have hev:∀e,e∈mg (fun a b=>a || b) P.1 S.1↔e∈P.1∨e∈S.1:=fun e=>by
   rw [hsp.2]
   constructor
   ·exact fun q=>q.1
   ·intro q
    refine⟨q,?_⟩
    rcases q with q | q
    ·rw [yl.2 q];rfl
    ·rw [yl.2 q];simp
  have halr:∀e∈mg (fun a b=>a || b) P.1 S.1,0≤e∧e < 32:=fun e he=>by
   rcases(hev e).1 he with h | h
   ·exact hP.alr e h
   ·exact hS.alr e h
  have hlen:=Alp.len ⟨hsp.1,halr⟩
  refine⟨(mg (fun a b=>a || b) P.1 S.1,0,[],[]),[],0,?_,⟨⟨rfl,by omega,hsp.1,halr,List.Pairwise.nil,fun x hx=>(by cases hx),fun x hx=>(by cases hx),List.Pairwise.nil,by dsimp only;omega,by simp,by simp⟩,by omega,rfl,List.nodup_nil,fun t ht=>(by cases ht),fun h=>absurd h (by omega),?_,hev,fun a x y e ha=>(by simp at ha),fun a x y e x' y' ha=>(by simp at ha),?_⟩⟩
  ·rw [yq,ybz hP hS,yOb,if_neg (by simp),h1,yOb,hi,yOb,if_pos (by simp)]
  ·have e1:=hP.nn
   have e2:=hS.nn
   exact⟨fun _=>by omega,fun _=>rfl⟩
  ·exact ⟨List.Pairwise.nil,fun x hx=>(by cases hx),fun k h1 h2=>by omega,fun n hn=>(by simp [edsOf] at hn),fun n hn=>(by simp [edsOf] at hn)⟩
 ·obtain ⟨p,T,n,h1,h⟩:=ycT (B:=40) hP hS (by omega) (by omega) b1 b2 (by omega) (by omega)
  have e1:=hP.nn
  have e2:=hS.nn
  have:=h.pos
  exact⟨p,T,n,h1,h.right,h.le,h.tl,h.nd,h.tt,fun _=>h.t0,⟨fun _=>by omega,fun _=>by omega⟩,h.ev,h.no,h.yes,h.num⟩
theorem y5S {xs:List Int} {n:Int} (hl:xs.length < 4611686018427387904):yT xs n=some (yO n none xs):=y6C hl
def errP (q:ProbT):Int:=
 if(toAut q.1).err≠0 then(toAut q.1).err
 else if(toAut q.2.1).err≠0 then(toAut q.2.1).err
 else if(mg (fun a b=>a && !b) q.2.1.1 q.1.1).length≠0 then 9
 else yO 32 none q.2.2
structure ShortP (q:ProbT):Prop where
 p1:q.1.1.length≤1000000
 p2:q.1.2.2.1.length≤1000000
 p3:q.1.2.2.2.length≤1000000
 s1:q.2.1.1.length≤1000000
 s2:q.2.1.2.2.1.length≤1000000
 s3:q.2.1.2.2.2.length≤1000000
 u1:q.2.2.length≤1000000
theorem y9G {us vs:List Int} (hu:us.length≤1000000) (hv:vs.length≤1000000):y3h us vs=some (mg (fun a b=>a && !b) us vs):=by
 rw [y3h,y8p (f:=y3P) (kp:=fun a b=>a && !b) (fun a b=>rfl) hu hv]
 rfl
theorem y9H {us vs:List Int} (hu:us.length≤1000000) (hv:vs.length≤1000000):y2l us vs=some (mg (fun a b=>a && b) us vs):=by
 rw [y2l,y8p (f:=y3j) (kp:=fun a b=>a && b) (fun a b=>rfl) hu hv]
 rfl
theorem y8J {us vs:List Int} (hu:us.length≤1000000) (hv:vs.length≤1000000):y2u us vs=some (decide ((mg (fun a b=>a && !b) us vs).length=0)):=by
 rw [y2u,y9G hu hv,yOb]
 congr 1
 rw [Bool.eq_iff_iff]
 simp
structure TaskOk (q:ProbT) (t:TaskT) (p:AutT) (T:List (List Int)) (n1 n2 n:Nat):Prop where
 rP:Right q.1 n1
 rS:Right q.2.1 n2
 iu:Inc q.2.2
 ur:∀x∈q.2.2,0≤x∧x < 32
 sub:∀x∈q.2.1.1,x∈q.1.1
 g1:GrOk t.1 q.1
 g2:GrOk t.2.1 q.2.1
 g3:GrOk t.2.2.1 p
 tt:t.2.2.2.1=T
 un:t.2.2.2.2.1=mg (fun a b=>a && b) q.1.1 q.2.2
 co:t.2.2.2.2.2=mg (fun a b=>a && !b) q.1.1 (mg (fun a b=>a && b) q.1.1 q.2.2)
 loop:LoopZ q.1 q.2.1 p T n
theorem ybA {q:ProbT} (h:ShortP q) (he:errP q=0) (b1:q.1.2.1≤40) (b2:q.2.1.2.1≤40):∃t p T n1 n2 n,y1P q=some (some t,0)∧TaskOk q t p T n1 n2 n∧yq [q.1,q.2.1]=some (p,T,0):=by
 unfold errP at he
 by_cases h1:(toAut q.1).err=0
 ·rw [if_neg (by simpa using h1)] at he
  by_cases h2:(toAut q.2.1).err=0
  ·rw [if_neg (by simpa using h2)] at he
   by_cases h3:(mg (fun a b=>a && !b) q.2.1.1 q.1.1).length=0
   ·rw [if_neg (by simpa using h3)] at he
    have rP:=y9F h1 h.p1 h.p2 h.p3
    have rS:=y9F h2 h.s1 h.s2 h.s3
    obtain⟨iu,ur⟩:=y6E he
    obtain⟨p,T,n,e1,hL⟩:=yce rP rS (by omega) (by omega)
    obtain⟨o1,i1,k1⟩:=y8q rP
    obtain⟨o2,i2,k2⟩:=y8q rS
    obtain⟨o3,i3,k3⟩:=y8q hL.right
    have hit3:iter (y3C q) 0=some (.inl ()):=by
     refine y3M (n:=3) (by omega) ?_
     rw [ye,y3C,if_pos (by simp),show idx [q.1,q.2.1] 0=some q.1 from rfl,yOb,rP.check,yOb,if_neg (by simp)]
     dsimp only
     rw [ye,y3C,show W (0 + 1)=1 from rfl,if_pos (by simp),show idx [q.1,q.2.1] 1=some q.2.1 from rfl,yOb,rS.check,yOb,if_neg (by simp)]
     dsimp only
     rw [ye,y3C,show W (1 + 1)=2 from rfl,if_neg (by simp)]
    have hin:∀x,x∈mg (fun a b=>a && b) q.1.1 q.2.2→x∈q.1.1:=fun x hx=>by
     have:=((y3D (fun a b=>a && b) q.1.1 q.2.2 rP.ali iu).2 x).1 hx
     simp only [Bool.and_eq_true] at this
     exact yl.1 this.2.1
    have hil:(mg (fun a b=>a && b) q.1.1 q.2.2).length≤32:=Alp.len ⟨(y3D (fun a b=>a && b) q.1.1 q.2.2 rP.ali iu).1,fun x hx=>rP.alr x (hin x hx)⟩
    refine⟨((q.1,o1),(q.2.1,o2),(p,o3),T,mg (fun a b=>a && b) q.1.1 q.2.2,mg (fun a b=>a && !b) q.1.1 (mg (fun a b=>a && b) q.1.1 q.2.2)),p,T,_,_,n,?_,⟨rP,rS,iu,ur,fun x hx=>?_,⟨rfl,k1⟩,⟨rfl,k2⟩,⟨rfl,k3⟩,rfl,rfl,rfl,hL⟩,e1⟩
    ·rw [y1P,hit3,yOb]
     dsimp only
     rw [y8J h.s1 h.p1,yOb,if_neg (by simpa using h3),y5S (by have:=h.u1;omega),yOb,he,if_neg (by simp),e1,yOb]
     dsimp only
     rw [if_neg (by simp),y9H h.p1 h.u1,yOb,i1,yOb,i2,yOb,i3,yOb,y9G h.p1 (by omega),yOb]
    ·by_cases hh:x∈q.1.1
     ·exact hh
     ·have hm:x∈mg (fun a b=>a && !b) q.2.1.1 q.1.1:=by
       rw [(y3D (fun a b=>a && !b) q.2.1.1 q.1.1 rS.ali rP.ali).2]
       refine⟨.inl hx,?_⟩
       rw [yl.2 hx]
       cases hb:hasB q.1.1 x
       ·rfl
       ·exact absurd (yl.1 hb) hh
      rw [List.eq_nil_of_length_eq_zero h3] at hm
      cases hm
   ·rw [if_pos (by simpa using h3)] at he
    cases he
  ·rw [if_pos (by simpa using h2)] at he
   exact absurd he h2
 ·rw [if_pos (by simpa using h1)] at he
  exact absurd he h1
def hdl (S:AutT):Int→List Int→Int×Nat
 | s,[]=>(s,0)
 | s,e :: l=>if hasB S.1 e=true then(match st1 S s e with
   | none=>(s,0)
   | some u=>((hdl S u l).1,(hdl S u l).2 + 1)) else((hdl S s l).1,(hdl S s l).2 + 1)
theorem y7H {q:ProbT} {t:TaskT} {p:AutT} {T:List (List Int)} {n1 n2 n:Nat} (h:TaskOk q t p T n1 n2 n) (s:Int) {l:List Int} (hl:l.length≤1000000):y1k t s l=some ((hdl q.2.1 s l).1,((hdl q.2.1 s l).2:Int)):=by
 obtain⟨o,h1,h2⟩:=yb (f:=y2I t l) (fun i st=>st.1=(i:Int)∧hdl q.2.1 s l=((hdl q.2.1 st.2 (l.drop i)).1,i + (hdl q.2.1 st.2 (l.drop i)).2)) (fun o=>(match o with
   | .inl u=>(u,(l.length:Int))
   | .inr u=>(u.2,u.1))=((hdl q.2.1 s l).1,((hdl q.2.1 s l).2:Int))) l.length 0 (by omega) (fun i st hi ⟨e1,g1⟩=>by
   obtain⟨k,c⟩:=st
   dsimp only at e1 g1
   subst e1
   rw [List.drop_eq_getElem_cons hi,hdl] at g1
   rw [y2I]
   dsimp only
   rw [if_pos (ct_lt hi),ya hi,yOb,h.g2.1,y4z (by have:=h.rS.l1;omega) h.rS.ali,yOb]
   cases hb:hasB q.2.1.1 l[i]
   ·left
    rw [hb,if_neg (by simp)] at g1
    rw [if_pos (by rfl),y1Y]
    dsimp only
    rw [nxt (by omega)]
    refine⟨_,rfl,rfl,?_⟩
    dsimp only
    rw [g1]
    congr 1
    omega
   ·rw [hb,if_pos rfl] at g1
    rw [if_neg (by simp),to_eq h.g2,yOb]
    cases hs:st1 q.2.1 c l[i] with
    | none=>
     right
     rw [hs] at g1
     rw [if_pos (by rfl)]
     refine⟨_,rfl,?_⟩
     dsimp only at g1 ⊢
     rw [g1]
     rfl
    | some u=>
     left
     rw [hs] at g1
     have:=y7Q h.rS hs
     rw [if_neg (by simp;omega),y1Y]
     dsimp only [Option.getD]
     rw [nxt (by omega)]
     refine⟨_,rfl,rfl,?_⟩
     dsimp only at g1 ⊢
     rw [g1]
     congr 1
     omega) (fun st ⟨e1,g1⟩=>by
   obtain⟨k,c⟩:=st
   dsimp only at e1 g1
   subst e1
   rw [y2I]
   dsimp only
   rw [if_neg ct_ge]
   refine⟨_,rfl,?_⟩
   rw [List.drop_length,hdl] at g1
   dsimp only at g1 ⊢
   rw [g1]
   rfl) (Nat.zero_le _) (0,s) ⟨rfl,by simp⟩
 rw [y1k,h1,yOb,←h2]
 cases o <;> rfl
theorem ycf {xs:List Int} {x:Int} (hl:xs.length≤1000000):y3e xs x=some (hasB xs x):=by
 obtain⟨o,h1,h2⟩:=yb (f:=y2B xs x) (fun i s=>s=(i:Int)∧hasB xs x=hasB (xs.drop i) x) (fun o=>(match o with
   | .inl _=>false
   | .inr _=>true)=hasB xs x) xs.length 0 (by omega) (fun i s hi ⟨e1,g1⟩=>by
   subst e1
   rw [y2B,if_pos (ct_lt hi),ya hi,yOb]
   by_cases h:xs[i]=x
   ·right
    rw [if_pos (by simpa using h)]
    refine⟨_,rfl,?_⟩
    exact(yl.2 (h ▸ List.getElem_mem hi)).symm
   ·left
    rw [if_neg (by simpa using h),nxt (by omega)]
    refine⟨_,rfl,rfl,?_⟩
    rw [g1,Bool.eq_iff_iff,yl,yl,List.drop_eq_getElem_cons hi,List.mem_cons]
    exact⟨fun h2=>h2.resolve_left fun e=>h e.symm,.inr⟩) (fun s ⟨e1,g1⟩=>by
   subst e1
   rw [y2B,if_neg ct_ge]
   refine⟨_,rfl,?_⟩
   rw [g1,List.drop_length]
   rfl) (Nat.zero_le _) 0 ⟨rfl,rfl⟩
 rw [y3e,h1,yOb]
 cases o with
 | inl u=>exact congrArg some h2
 | inr u=>exact congrArg some h2
theorem ycg {α:Type} {xs:List α} {i:Nat} (h:i≤xs.length):slc xs 0 (i:Int)=some (xs.take i):=by
 rw [slc,if_pos ⟨by omega,by omega,by omega⟩]
 simp
structure SR (st:Int→Int→Option Int) (al:List Int) (n i j:Nat) (T:List Int) (kn:List (Int×Int)) (E:List (Int×Int×Int)):Prop where
 f:Fnd st al i j T E
 k1:∀s v,kget kn s=some v→∃q:Nat,v=(q:Int)∧T[q]? =some s
 k2:∀s∈T,(kget kn s).isSome=true
 nd:T.Nodup
 tr:∀s∈T,0≤s∧s < (n:Int)
 so:E.Pairwise fun x y=>x.1 < y.1∨(x.1=y.1∧x.2.1 < y.2.1)
 ei:∀x∈E,x.1 < (i:Int)∨(x.1=(i:Int)∧∃b,∃hb:b < al.length,b < j∧al[b]=x.2.1)
 ea:∀x∈E,x.2.1∈al
 el:E.length≤32 * i + j
namespace SR
variable {st:Int→Int→Option Int} {al:List Int} {n i j:Nat} {T:List Int} {kn:List (Int×Int)} {E:List (Int×Int×Int)}
theorem len (h:SR st al n i j T kn E):T.length≤n:=by
 have:=y5e n (T.map Int.toNat) (by
  unfold List.Nodup
  rw [List.pairwise_map]
  refine h.nd.imp_of_mem fun {a b} ha hb hab=>?_
  have h1:=h.tr a ha
  have h2:=h.tr b hb
  omega) (fun x hx=>by
  obtain⟨y,hy,rfl⟩:=List.mem_map.1 hx
  have:=h.tr y hy
  omega)
 simpa using this
theorem skip (h:SR st al n i j T kn E) {s e:Int} (ht:T[i]? =some s) (he:al[j]? =some e) (hs:st s e=none):SR st al n i (j + 1) T kn E:=
 ⟨h.f.skip ht he hs,h.k1,h.k2,h.nd,h.tr,h.so,fun x hx=>by
  rcases h.ei x hx with h1 | ⟨h1,b,hb,h2,h3⟩
  ·exact .inl h1
  ·exact .inr ⟨h1,b,hb,by omega,h3⟩,h.ea,by have:=h.el;omega⟩
theorem next (h:SR st al n i j T kn E) (hj:al.length≤j) (hj2:j≤32):SR st al n (i + 1) 0 T kn E:=
 ⟨h.f.next hj,h.k1,h.k2,h.nd,h.tr,h.so,fun x hx=>by
  rcases h.ei x hx with h1 | ⟨h1,_⟩
  ·exact .inl (by omega)
  ·exact .inl (by omega),h.ea,by have:=h.el;omega⟩
theorem pw (h:SR st al n i j T kn E) (ia:Inc al) (hj:j < al.length) (v:Int):(E ++ [((i:Int),al[j],v)]).Pairwise fun x y=>x.1 < y.1∨(x.1=y.1∧x.2.1 < y.2.1):=by
 rw [List.pairwise_append]
 refine⟨h.so,List.pairwise_singleton _ _,fun x hx y hy=>?_⟩
 rw [List.mem_singleton.1 hy]
 rcases h.ei x hx with h1 | ⟨h1,b,hb,h2,h3⟩
 ·exact .inl h1
 ·refine .inr ⟨h1,?_⟩
  rw [←h3]
  exact List.pairwise_iff_getElem.1 ia b j hb hj h2
theorem ei' (h:SR st al n i j T kn E) (hj:j < al.length) (v:Int):∀x∈E ++ [((i:Int),al[j],v)],x.1 < (i:Int)∨(x.1=(i:Int)∧∃b,∃hb:b < al.length,b < j + 1∧al[b]=x.2.1):=fun x hx=>by
 rcases List.mem_append.1 hx with hx | hx
 ·rcases h.ei x hx with h1 | ⟨h1,b,hb,h2,h3⟩
  ·exact .inl h1
  ·exact .inr ⟨h1,b,hb,by omega,h3⟩
 ·rw [List.mem_singleton.1 hx]
  exact .inr ⟨rfl,j,hj,by omega,rfl⟩
theorem ea' (h:SR st al n i j T kn E) (hj:j < al.length) (v:Int):∀x∈E ++ [((i:Int),al[j],v)],x.2.1∈al:=fun x hx=>by
 rcases List.mem_append.1 hx with hx | hx
 ·exact h.ea x hx
 ·rw [List.mem_singleton.1 hx]
  exact List.getElem_mem hj
theorem edge (h:SR st al n i j T kn E) (ia:Inc al) (hj:j < al.length) {s v:Int} {q:Nat} (ht:T[i]? =some s) (hs:st s al[j]=some v) (hq:T[q]? =some v):SR st al n i (j + 1) T kn (E ++ [((i:Int),al[j],(q:Int))]):=
 ⟨h.f.edge ht (yGe hj) hs hq,h.k1,h.k2,h.nd,h.tr,h.pw ia hj _,h.ei' hj _,h.ea' hj _,by have:=h.el;simp;omega⟩
theorem new (h:SR st al n i j T kn E) (ia:Inc al) (hj:j < al.length) {s v:Int} (ht:T[i]? =some s) (hs:st s al[j]=some v) (hk:kget kn v=none) (v0:0≤v) (v1:v < (n:Int)):SR st al n i (j + 1) (T ++ [v]) (kput kn v (T.length:Int)) (E ++ [((i:Int),al[j],(T.length:Int))]):=by
 have hi:=(List.getElem?_eq_some_iff.1 ht).1
 refine⟨h.f.new hi ht (yGe hj) hs,fun s' w hw=>?_,fun s' hs'=>?_,?_,fun s' hs'=>?_,h.pw ia hj _,h.ei' hj _,h.ea' hj _,by have:=h.el;simp;omega⟩
 ·rw [y3A] at hw
  split at hw
  ·rename_i e
   subst e
   cases hw
   exact⟨T.length,rfl,by rw [List.getElem?_append_right (Nat.le_refl _)];simp⟩
  ·obtain ⟨q,h1,h2⟩:=h.k1 s' w hw
   exact⟨q,h1,by rw [List.getElem?_append_left (List.getElem?_eq_some_iff.1 h2).1,h2]⟩
 ·rw [y3A]
  split
  ·rfl
  ·rename_i e
   rcases List.mem_append.1 hs' with hs' | hs'
   ·exact h.k2 s' hs'
   ·exact absurd (List.mem_singleton.1 hs') e
 ·unfold List.Nodup
  rw [List.pairwise_append]
  refine⟨h.nd,List.pairwise_singleton _ _,fun a ha b hb e=>?_⟩
  rw [List.mem_singleton.1 hb] at e
  subst e
  have:=h.k2 a ha
  rw [hk] at this
  cases this
 ·rcases List.mem_append.1 hs' with hs' | hs'
  ·exact h.tr s' hs'
  ·rw [List.mem_singleton.1 hs']
   exact⟨v0,v1⟩
end SR
theorem ycU :y2J=some true:=by kernel_rfl
structure CanOf (st:Int→Int→Option Int) (al ms:List Int) (r:AutT) (X:List Int):Prop where
 right:Right r X.length
 ale:r.1=al
 x0:0 < X.length→X[0]? =some 0
 disc:Disc st al X r.2.2.2
 mkd:∀(i:Nat) (s:Int),X[i]? =some s→((i:Int)∈r.2.2.1↔s∈ms)
theorem SR.skips {st:Int→Int→Option Int} {al:List Int} {n i j:Nat} {T:List Int} {kn:List (Int×Int)} {E:List (Int×Int×Int)} (h:SR st al n i j T kn E) {s:Int} (ht:T[i]? =some s):∀(b:Nat),j≤b→b≤al.length→(∀c (hc:c < al.length),j≤c→c < b→st s al[c]=none)→SR st al n i b T kn E
 | 0,hj,_,_=>by
  obtain rfl:j=0:=by omega
  exact h
 | b + 1,hj,hb,hn=>by
  by_cases e:j=b + 1
  ·subst e;exact h
  ·have hb2:b < al.length:=by omega
   exact(h.skips ht b (by omega) (by omega) fun c hc h1 h2=>hn c hc h1 (by omega)).skip ht (yGe hb2) (hn b hb2 (by omega) (by omega))
theorem y7n {S R:Type} {f:S→Option (S ⊕ (Unit ⊕ R))} (mk:Int→S) (n:Nat) (hn:n≤4000000) (b:Nat→Bool) (r:Nat→R) (step:∀i,i < n→f (mk (i:Int))=if b i=true then some (.inr (.inr (r i))) else some (.inl (mk ((i + 1:Nat):Int)))) (last:f (mk (n:Int))=some (.inr (.inl ()))):
  ∃o,iter f (mk 0)=some o∧((o= .inl ()∧∀i,i < n→b i=false)∨∃i,i < n∧o= .inr (r i)∧b i=true∧∀j,j < i→b j=false):=by
 refine yb (f:=f) (fun i s=>s=mk (i:Int)∧∀j,j < i→b j=false) _ n 0 (by omega) (fun i s hi ⟨e1,g1⟩=>?_) (fun s ⟨e1,g1⟩=>?_) (Nat.zero_le _) (mk 0) ⟨rfl,fun j hj=>absurd hj (by omega)⟩
 ·subst e1
  rw [step i hi]
  cases hb:b i with
  | true=>exact .inr ⟨_,rfl,.inr ⟨i,hi,rfl,hb,g1⟩⟩
  | false=>
   refine .inl ⟨_,by rw [if_neg (by simp)],rfl,fun j hj=>?_⟩
   by_cases e:j=i
   ·rw [e];exact hb
   ·exact g1 j (by omega)
 ·subst e1
  exact⟨_,last,.inl ⟨rfl,g1⟩⟩
theorem y8r (p:Int):∃ev,yU p=some ev∧Inc ev∧(∀x∈ev,0≤x∧x < 5)∧ev.length≤5:=by
 obtain⟨o,h1,h2⟩:=yb (f:=y1s p) (fun i s=>s.1=(i:Int)∧Inc s.2∧(∀x∈s.2,0≤x∧x < (i:Int))∧s.2.length≤i) (fun o=>Inc o∧(∀x∈o,0≤x∧x < 5)∧o.length≤5) 5 0 (by omega) (fun i s hi ⟨e1,e2,e3,e4⟩=>by
   obtain⟨s1,s2⟩:=s
   dsimp only at e1 e2 e3 e4
   subst e1
   have hj:∀l:List Int,yV ((i:Int),s2) l=some (.inl (((i + 1:Nat):Int),l)):=fun l=>by
    rw [yV];dsimp only;rw [nxt (by omega)]
   left
   rw [y1s]
   dsimp only
   rw [if_pos (by simp;omega),show ng (i:Int)=some () from if_neg (by omega),yOb]
   split
   ·rw [yE (by simp;omega),yOb,hj]
    refine⟨_,rfl,rfl,?_,fun x hx=>?_,by simp;omega⟩
    ·unfold Inc at e2 ⊢
     rw [List.pairwise_append]
     exact⟨e2,List.pairwise_singleton ..,fun a ha b hb=>by rw [List.mem_singleton.1 hb];exact(e3 a ha).2⟩
    ·dsimp only at hx
     rcases List.mem_append.1 hx with h | h
     ·have:=e3 x h;omega
     ·rw [List.mem_singleton.1 h];omega
   ·rw [hj]
    exact⟨_,rfl,rfl,e2,fun x hx=>by have:=e3 x hx;omega,by dsimp only;omega⟩) (fun s ⟨e1,e2,e3,e4⟩=>by
   obtain⟨s1,s2⟩:=s
   dsimp only at e1 e2 e3 e4
   subst e1
   refine⟨s2,?_,e2,e3,e4⟩
   rw [y1s]
   dsimp only
   rw [if_neg (by simp)]) (by omega) (0,[]) ⟨rfl,List.Pairwise.nil,fun x hx=>(by cases hx),by simp⟩
 exact⟨o,by rw [yU,h1];rfl,h2⟩
theorem y9I {xs:List Int} (h:xs.length≤1000000):y1B xs=some (xs,0,[],[]):=by
 rw [y1B,yE (by simp;omega)];rfl
theorem yaN {xs:List Int} {x:Int} (hl:xs.length≤1000000):y2x xs x=some (hasB xs x):=by
 obtain⟨o,h1,h2⟩:=y7n (f:=y2A xs x) (fun i=>i) xs.length (by omega) (fun i=>xs[i]? == some x) (fun _=>()) (fun i hi=>by
  rw [y2A]
  rw [if_pos (ct_lt hi),ya hi,yOb,nxt (by omega),yGe hi]
  by_cases e:xs[i]=x
  ·rw [if_pos (by simpa using e),if_pos (by simpa using e)]
  ·rw [if_neg (by simpa using e),if_neg (by simpa using e)]) (by
  rw [y2A]
  rw [if_neg ct_ge])
 rw [y2x,h1,yOb]
 rcases h2 with ⟨rfl,h3⟩ | ⟨i,hi,rfl,h3,h4⟩
 ·have:hasB xs x=false:=by
   rw [←Bool.not_eq_true,yl]
   intro hm
   obtain⟨k,hk,e⟩:=List.getElem_of_mem hm
   have:=h3 k hk
   rw [yGe hk,e] at this
   simp at this
  rw [this]
 ·have:hasB xs x=true:=by
   rw [yl]
   rw [yGe hi] at h3
   have h3:xs[i]=x:=by simpa using h3
   exact h3 ▸ List.getElem_mem hi
  rw [this]
theorem ybB {xs:List Int} {x:Int} (hl:xs.length≤1000000) (hm:x∈xs):∃k:Nat,y2L xs x=some (k:Int)∧xs[k]? =some x:=by
 obtain⟨o,h1,h2⟩:=y7n (f:=y2f xs x) (fun i=>i) xs.length (by omega) (fun i=>xs[i]? == some x) (fun i=>(i:Int)) (fun i hi=>by
  rw [y2f]
  rw [if_pos (ct_lt hi),ya hi,yOb,nxt (by omega),yGe hi]
  by_cases e:xs[i]=x
  ·rw [if_pos (by simpa using e),if_pos (by simpa using e)]
  ·rw [if_neg (by simpa using e),if_neg (by simpa using e)]) (by
  rw [y2f]
  rw [if_neg ct_ge])
 rw [y2L,h1,yOb]
 rcases h2 with ⟨rfl,h3⟩ | ⟨i,hi,rfl,h3,h4⟩
 ·exfalso
  obtain⟨k,hk,e⟩:=List.getElem_of_mem hm
  have:=h3 k hk
  rw [yGe hk,e] at this
  simp at this
 ·exact ⟨i,rfl,by simpa using h3⟩
theorem ych {a:AutT} {s e:Int} (h:∀x∈a.2.2.2,¬(x.1=s∧x.2.1=e)):st1 a s e=none:=by
 unfold st1
 rw [Option.map_eq_none_iff,List.find?_eq_none]
 intro x hx
 have:=h x hx
 simpa using this
theorem yab {a:AutT} {n:Nat} (hr:Right a n) (s e:Int):y2m a s e=some ((st1 a s e).getD (-1)):=by
 have hl:=hr.l3
 obtain⟨o,h1,h2⟩:=y7n (f:=y2q a s e) (fun i=>i) a.2.2.2.length (by omega) (fun i=>match a.2.2.2[i]? with | some x=>x.1 == s && x.2.1 == e | none=>false) (fun i=>(a.2.2.2.getD i (0,0,0)).2.2) (fun i hi=>by
  rw [y2q]
  rw [if_pos (ct_lt hi),ya hi,yOb,nxt (by omega),yGe hi,List.getD_eq_getElem?_getD,yGe hi]
  dsimp only [Option.getD_some]
  by_cases e1:a.2.2.2[i].1=s
  ·rw [if_pos (by simpa using e1),yOb,yOb,yOb]
   by_cases e2:a.2.2.2[i].2.1=e
   ·rw [if_pos (by simpa using e2),if_pos (by simp [e1,e2])]
   ·rw [if_neg (by simpa using e2),if_neg (by simp [e2])]
  ·rw [if_neg (by simpa using e1),yOb,if_neg (by simp),if_neg (by simp [e1])]) (by
  rw [y2q]
  rw [if_neg ct_ge])
 rw [y2m,h1,yOb]
 rcases h2 with ⟨rfl,h3⟩ | ⟨i,hi,rfl,h3,h4⟩
 ·rw [ych fun x hx hxx=>?_]
  ·rfl
  ·obtain ⟨k,hk,e'⟩:=List.getElem_of_mem hx
   have:=h3 k hk
   rw [yGe hk,e'] at this
   simp [hxx.1,hxx.2] at this
 ·rw [yGe hi] at h3
  have h3:a.2.2.2[i].1=s∧a.2.2.2[i].2.1=e:=by simpa using h3
  have:st1 a s e=some a.2.2.2[i].2.2:=by
   rw [y4Y hr,←h3.1,←h3.2]
   exact List.getElem_mem hi
  rw [this,List.getD_eq_getElem?_getD,yGe hi]
  rfl
section
variable {a:AutT} {n:Nat}
theorem yci (hr:Right a n) (hal:a.1.length≤32) {i:Nat} {y:List Int} {X:List Int} {kn:List (Int×Int)} {E:List (Int×Int×Int)} (hS:SR (st1 a) a.1 n i 0 X kn E) (hi:i < X.length):
  ∃kn' X' E',iter (y1D a ((i:Int),y)) (0,X)=some X'∧SR (st1 a) a.1 n (i + 1) 0 X' kn' E'∧∃U,X'=X ++ U:=by
 have hnl:=hr.nl
 obtain⟨o,h1,kn',E',hS',hU⟩:=yb (f:=y1D a ((i:Int),y)) (fun j s=>s.1=(j:Int)∧∃kn E,SR (st1 a) a.1 n i j s.2 kn E∧∃U,s.2=X ++ U) (fun o=>∃kn E,SR (st1 a) a.1 n (i + 1) 0 o kn E∧∃U,o=X ++ U) a.1.length 0 (by omega) (fun j s hj ⟨e1,kn1,E1,hS1,U,hU⟩=>by
   obtain⟨c,X1⟩:=s
   dsimp only at e1 hS1 hU
   subst e1
   have hX1:=hS1.len
   have hi1:i < X1.length:=by rw [hU,List.length_append];omega
   have hj2:∀l:List Int,y1C ((j:Int),X1) l=some (.inl (((j + 1:Nat):Int),l)):=fun l=>by
    rw [y1C];dsimp only;rw [nxt (by omega)]
   left
   rw [y1D]
   dsimp only
   rw [if_pos (ct_lt hj),ya hi1,yOb,ya hj,yOb,yab hr,yOb]
   cases hst:st1 a X1[i] a.1[j] with
   | none=>
    rw [Option.getD_none,if_neg (by simp),yOb,if_neg (by simp),hj2]
    exact⟨_,rfl,rfl,kn1,E1,hS1.skip (yGe hi1) (yGe hj) hst,U,hU⟩
   | some t=>
    have ht:=y7Q hr hst
    rw [Option.getD_some,if_pos (by simp;omega),yaN (by omega),yOb,yOb]
    by_cases hm:t∈X1
    ·obtain ⟨q,hq⟩:=List.getElem?_of_mem hm
     rw [yl.2 hm,if_neg (by simp),hj2]
     exact⟨_,rfl,rfl,kn1,_,hS1.edge hr.ali hj (yGe hi1) hst hq,U,hU⟩
    ·have hb:hasB X1 t=false:=by rw [←Bool.not_eq_true,yl];exact hm
     rw [hb,if_pos (by simp),yE (by simp;omega),yOb,hj2]
     have hk:kget kn1 t=none:=by
      cases hk:kget kn1 t with
      | none=>rfl
      | some v=>
       obtain⟨q,_,hq⟩:=hS1.k1 _ _ hk
       exact absurd (List.mem_of_getElem? hq) hm
     exact⟨_,rfl,rfl,_,_,hS1.new hr.ali hj (yGe hi1) hst hk ht.2.2.1 ht.2.2.2.1,U ++ [t],by dsimp only;rw [hU,List.append_assoc]⟩) (fun s ⟨e1,kn1,E1,hS1,hU⟩=>by
   obtain⟨c,X1⟩:=s
   dsimp only at e1 hS1 hU
   subst e1
   rw [y1D]
   dsimp only
   rw [if_neg ct_ge]
   exact⟨_,rfl,kn1,E1,hS1.next (Nat.le_refl _) hal,hU⟩) (Nat.zero_le _) (0,X) ⟨rfl,kn,E,hS,[],(List.append_nil _).symm⟩
 exact⟨kn',o,E',h1,hS',hU⟩
theorem ycj (hr:Right a n) (h0:0 < n):∃X kn E,y2K a=some X∧SR (st1 a) a.1 n X.length 0 X kn E∧X[0]? =some 0:=by
 have hnl:=hr.nl
 have hal:a.1.length≤32:=Alp.len ⟨hr.ali,hr.alr⟩
 have hS0:SR (st1 a) a.1 n 0 0 [0] (kput [] 0 0) []:=by
  refine⟨Fnd.start (by simp),fun s v hv=>?_,fun s hs=>?_,by simp,fun s hs=>?_,List.Pairwise.nil,fun x hx=>(by cases hx),fun x hx=>(by cases hx),by simp⟩
  ·rw [y3A] at hv
   split at hv
   ·rename_i e
    subst e
    cases hv
    exact⟨0,rfl,rfl⟩
   ·cases hv
  ·rw [List.mem_singleton.1 hs,y3A,if_pos rfl]
   rfl
  ·rw [List.mem_singleton.1 hs]
   omega
 obtain⟨o,h1,kn,E,h2,h3⟩:=yb (f:=y1E a) (fun i s=>s.1=(i:Int)∧i≤s.2.length∧∃kn E,SR (st1 a) a.1 n i 0 s.2 kn E∧s.2[0]? =some 0) (fun o=>∃kn E,SR (st1 a) a.1 n o.length 0 o kn E∧o[0]? =some 0) n 0 (by omega) (fun i s hi ⟨e1,hle,kn,E,hS,x0⟩=>by
   obtain⟨c,X⟩:=s
   dsimp only at e1 hle hS x0
   subst e1
   have hXl:=hS.len
   rw [y1E]
   dsimp only
   by_cases hix:i < X.length
   ·left
    obtain⟨kn',X',E',w1,w2,U,hU⟩:=yci hr hal (y:=X) hS hix
    rw [if_pos (ct_lt hix),w1,yOb,nxt (by omega)]
    exact⟨_,rfl,rfl,by dsimp only;rw [hU,List.length_append];omega,kn',E',w2,by dsimp only;rw [hU,List.getElem?_append_left (by omega)];exact x0⟩
   ·right
    obtain rfl:i=X.length:=by omega
    rw [if_neg ct_ge]
    exact⟨_,rfl,kn,E,hS,x0⟩) (fun s ⟨e1,hle,kn,E,hS,x0⟩=>by
   obtain⟨c,X⟩:=s
   dsimp only at e1 hle hS x0
   subst e1
   have hXl:=hS.len
   have hX:n=X.length:=by omega
   rw [y1E]
   dsimp only
   rw [if_neg (by simp;omega)]
   exact⟨_,rfl,kn,E,by rw [←hX];exact hX ▸ hS,x0⟩) (Nat.zero_le _) (0,[0]) ⟨rfl,by simp,kput [] 0 0,[],hS0,rfl⟩
 refine⟨o,kn,E,?_,h2,h3⟩
 rw [y2K,if_pos (by rw [hr.nn];simp;omega),yE (by simp),yOb,y2e,show iter (y1E a) (0,([]:List Int) ++ [0])=some o from h1]
 rfl
structure EL (st:Int→Int→Option Int) (al X:List Int) (i j:Nat) (E:List (Int×Int×Int)):Prop where
 so:E.Pairwise fun x y=>x.1 < y.1∨(x.1=y.1∧x.2.1 < y.2.1)
 ei:∀x∈E,x.1 < (i:Int)∨(x.1=(i:Int)∧∃b,∃hb:b < al.length,b < j∧al[b]=x.2.1)
 sn:∀x∈E,∃(a q:Nat) (t r:Int),x.1=(a:Int)∧x.2.2=(q:Int)∧X[a]? =some t∧X[q]? =some r∧x.2.1∈al∧st t x.2.1=some r
 ed:∀(a b:Nat) (t e r:Int),(a < i∨(a=i∧b < j))→X[a]? =some t→al[b]? =some e→st t e=some r→∃q:Nat,((a:Int),e,(q:Int))∈E∧X[q]? =some r
 el:E.length≤32 * i + j
theorem EL.skip {st:Int→Int→Option Int} {al X:List Int} {i j:Nat} {E:List (Int×Int×Int)} (h:EL st al X i j E) {s e:Int} (ht:X[i]? =some s) (he:al[j]? =some e) (hs:st s e=none):EL st al X i (j + 1) E:=by
 refine⟨h.so,fun x hx=>?_,h.sn,fun a b t' e' r hab ha hb hst=>?_,by have:=h.el;omega⟩
 ·rcases h.ei x hx with h1 | ⟨h1,b,hb,h2,h3⟩
  ·exact .inl h1
  ·exact .inr ⟨h1,b,hb,by omega,h3⟩
 ·by_cases hx:a=i∧b=j
  ·obtain ⟨rfl,rfl⟩:=hx
   rw [ht] at ha
   rw [he] at hb
   cases ha
   cases hb
   rw [hs] at hst
   cases hst
  ·exact h.ed a b t' e' r (by omega) ha hb hst
theorem EL.edge {st:Int→Int→Option Int} {al X:List Int} {i j:Nat} {E:List (Int×Int×Int)} (h:EL st al X i j E) (ia:Inc al) (hj:j < al.length) {s v:Int} {q:Nat} (ht:X[i]? =some s) (hs:st s al[j]=some v) (hq:X[q]? =some v):EL st al X i (j + 1) (E ++ [((i:Int),al[j],(q:Int))]):=by
 refine⟨?_,fun x hx=>?_,fun x hx=>?_,fun a b t' e' r hab ha hb hst=>?_,by have:=h.el;rw [List.length_append,List.length_singleton];omega⟩
 ·rw [List.pairwise_append]
  refine⟨h.so,List.pairwise_singleton _ _,fun x hx y hy=>?_⟩
  rw [List.mem_singleton.1 hy]
  rcases h.ei x hx with h1 | ⟨h1,b,hb,h2,h3⟩
  ·exact .inl h1
  ·refine .inr ⟨h1,?_⟩
   rw [←h3]
   exact List.pairwise_iff_getElem.1 ia b j hb hj h2
 ·rcases List.mem_append.1 hx with hx | hx
  ·rcases h.ei x hx with h1 | ⟨h1,b,hb,h2,h3⟩
   ·exact .inl h1
   ·exact .inr ⟨h1,b,hb,by omega,h3⟩
  ·rw [List.mem_singleton.1 hx]
   exact .inr ⟨rfl,j,hj,by omega,rfl⟩
 ·rcases List.mem_append.1 hx with hx | hx
  ·exact h.sn x hx
  ·rw [List.mem_singleton.1 hx]
   exact⟨i,q,s,v,rfl,rfl,ht,hq,List.getElem_mem hj,hs⟩
 ·by_cases hx:a=i∧b=j
  ·obtain ⟨rfl,rfl⟩:=hx
   rw [ht] at ha
   rw [yGe hj] at hb
   cases ha
   cases hb
   rw [hs] at hst
   cases hst
   exact⟨q,List.mem_append_right _ (List.mem_singleton.2 rfl),hq⟩
  ·obtain ⟨q',g1,g2⟩:=h.ed a b t' e' r (by omega) ha hb hst
   exact⟨q',List.mem_append_left _ g1,g2⟩
theorem EL.next {st:Int→Int→Option Int} {al X:List Int} {i j:Nat} {E:List (Int×Int×Int)} (h:EL st al X i j E) (hj:al.length≤j) (hj2:j≤32):EL st al X (i + 1) 0 E:=
 ⟨h.so,fun x hx=>by
  rcases h.ei x hx with h1 | ⟨h1,_⟩
  ·exact .inl (by omega)
  ·exact .inl (by omega),h.sn,fun a b t e r hab ha hb hst=>h.ed a b t e r (by have:=(List.getElem?_eq_some_iff.1 hb).1;omega) ha hb hst,by have:=h.el;omega⟩
theorem ybC (hr:Right a n) (hal:a.1.length≤32) {X:List Int} {kn:List (Int×Int)} {E0:List (Int×Int×Int)} (hS:SR (st1 a) a.1 n X.length 0 X kn E0) {i:Nat} (hi:i < X.length) {ms:List Int} {y E:List (Int×Int×Int)} (hE:EL (st1 a) a.1 X i 0 E):
  ∃E',iter (yZ a X ((i:Int),ms,y)) (0,E)=some E'∧EL (st1 a) a.1 X (i + 1) 0 E':=by
 have hnl:=hr.nl
 have hXl:=hS.len
 refine yb (f:=yZ a X ((i:Int),ms,y)) (fun j s=>s.1=(j:Int)∧EL (st1 a) a.1 X i j s.2) (fun o=>EL (st1 a) a.1 X (i + 1) 0 o) a.1.length 0 (by omega) (fun j s hj ⟨e1,hE1⟩=>?_) (fun s ⟨e1,hE1⟩=>?_) (Nat.zero_le _) (0,E) ⟨rfl,hE⟩
 ·obtain ⟨c,E1⟩:=s
  dsimp only at e1 hE1
  subst e1
  have hel:=hE1.el
  have hj2:∀l:List (Int×Int×Int),yY ((j:Int),E1) l=some (.inl (((j + 1:Nat):Int),l)):=fun l=>by
   rw [yY];dsimp only;rw [nxt (by omega)]
  left
  rw [yZ]
  dsimp only
  rw [if_pos (ct_lt hj),ya hi,yOb,ya hj,yOb,yab hr,yOb]
  cases hst:st1 a X[i] a.1[j] with
  | none=>
   rw [Option.getD_none,if_neg (by simp),hj2]
   exact⟨_,rfl,rfl,hE1.skip (yGe hi) (yGe hj) hst⟩
  | some t=>
   have ht:=y7Q hr hst
   obtain⟨q,_,hq⟩:=hS.f.ed i j X[i] a.1[j] t (.inl hi) (yGe hi) (yGe hj) hst
   obtain⟨k,hk,hk2⟩:=ybB (xs:=X) (x:=t) (by omega) (List.mem_of_getElem? hq)
   rw [Option.getD_some,if_pos (by simp;omega),yOb,hk,yOb,yE (by simp;omega),yOb,hj2]
   exact⟨_,rfl,rfl,hE1.edge hr.ali hj (yGe hi) hst hk2⟩
 ·obtain ⟨c,E1⟩:=s
  dsimp only at e1 hE1
  subst e1
  rw [yZ]
  dsimp only
  rw [if_neg ct_ge]
  exact⟨_,rfl,hE1.next (Nat.le_refl _) hal⟩
theorem ybD (hr:Right a n) (h0:0 < n):∃r X,y1U a=some r∧CanOf (st1 a) a.1 a.2.2.1 r X∧0 < X.length∧X.length≤n:=by
 have hnl:=hr.nl
 have hl1:=hr.l1
 have hl2:=hr.l2
 have hal:a.1.length≤32:=Alp.len ⟨hr.ali,hr.alr⟩
 obtain⟨X,kn,E0,hf,hS,x0⟩:=ycj hr h0
 have hXl:=hS.len
 have hX0:0 < X.length:=(List.getElem?_eq_some_iff.1 x0).1
 obtain⟨o,h1,hE,m1,m2,mk⟩:=yb (f:=y1F a X) (fun i s=>s.1=(i:Int)∧i≤X.length∧EL (st1 a) a.1 X i 0 s.2.2∧Inc s.2.1∧(∀x∈s.2.1,0≤x∧x < (i:Int))∧∀(c:Nat) (x:Int),c < i→X[c]? =some x→((c:Int)∈s.2.1↔x∈a.2.2.1))
   (fun o=>EL (st1 a) a.1 X X.length 0 o.2∧Inc o.1∧(∀x∈o.1,0≤x∧x < (X.length:Int))∧∀(c:Nat) (x:Int),X[c]? =some x→((c:Int)∈o.1↔x∈a.2.2.1)) X.length 0 (by omega) (fun i s hi ⟨e1,_,hE,m1,m2,mk⟩=>by
   obtain⟨c,M,E⟩:=s
   dsimp only at e1 hE m1 m2 mk
   subst e1
   have hMl:=y3u (n:=i) (lo:=0) m1 m2 (Int.le_refl _)
   have hj1:∀M':List Int,Inc M'→(∀x∈M',0≤x∧x < ((i + 1:Nat):Int))→(∀x:Int,x≠(i:Int)→(x∈M'↔x∈M))→((i:Int)∈M'↔X[i]∈a.2.2.1)→
     ∃s',y1a a X ((i:Int),M,E) M'=some (.inl s')∧s'.1=((i + 1:Nat):Int)∧i + 1≤X.length∧EL (st1 a) a.1 X (i + 1) 0 s'.2.2∧Inc s'.2.1∧(∀x∈s'.2.1,0≤x∧x < ((i + 1:Nat):Int))∧∀(c:Nat) (x:Int),c < i + 1→X[c]? =some x→((c:Int)∈s'.2.1↔x∈a.2.2.1):=fun M' q1 q2 q3 q4=>by
    obtain⟨E',w1,w2⟩:=ybC hr hal hS hi (ms:=M) (y:=E) hE
    rw [y1a]
    dsimp only
    rw [w1,yOb,nxt (by omega)]
    refine⟨_,rfl,rfl,hi,w2,q1,q2,fun c x hc hx=>?_⟩
    dsimp only
    by_cases e:c=i
    ·subst e
     rw [yGe hi] at hx
     cases hx
     exact q4
    ·rw [q3 _ (by omega)]
     exact mk c x (by omega) hx
   left
   rw [y1F]
   dsimp only
   rw [if_pos (ct_lt hi),ya hi,yOb,yaN (by omega),yOb]
   cases hm:hasB a.2.2.1 X[i] with
   | true=>
    rw [if_pos rfl,yE (by simp;omega),yOb]
    refine hj1 _ ?_ (fun x hx=>?_) (fun x hx=>?_) ⟨fun _=>yl.1 hm,fun _=>List.mem_append_right _ (List.mem_singleton.2 rfl)⟩
    ·unfold Inc at m1 ⊢
     rw [List.pairwise_append]
     exact⟨m1,List.pairwise_singleton _ _,fun c hc b hb=>by rw [List.mem_singleton.1 hb];exact(m2 c hc).2⟩
    ·rcases List.mem_append.1 hx with hx | hx
     ·have:=m2 x hx;omega
     ·rw [List.mem_singleton.1 hx];omega
    ·rw [List.mem_append,List.mem_singleton]
     exact⟨fun h=>h.resolve_right hx,.inl⟩
   | false=>
    rw [if_neg (by simp)]
    refine hj1 M m1 (fun x hx=>by have:=m2 x hx;omega) (fun x _=>Iff.rfl) ⟨fun hx=>by have:=m2 _ hx;omega,fun hx=>?_⟩
    rw [yl.2 hx] at hm
    cases hm) (fun s ⟨e1,_,hE,m1,m2,mk⟩=>by
   obtain⟨c,M,E⟩:=s
   dsimp only at e1 hE m1 m2 mk
   subst e1
   rw [y1F]
   dsimp only
   rw [if_neg ct_ge]
   exact⟨_,rfl,hE,m1,m2,fun c x hx=>mk c x (List.getElem?_eq_some_iff.1 hx).1 hx⟩) (Nat.zero_le _) (0,[],[]) ⟨rfl,Nat.zero_le _,⟨List.Pairwise.nil,fun x hx=>(by cases hx),fun x hx=>(by cases hx),fun a b t e r hab=>by omega,by simp⟩,List.Pairwise.nil,fun x hx=>(by cases hx),fun c x hc=>absurd hc (Nat.not_lt_zero _)⟩
 obtain⟨M,E⟩:=o
 dsimp only at hE m1 m2 mk
 have hMl:=y3u (n:=X.length) (lo:=0) m1 m2 (Int.le_refl _)
 have hD:=hS.f.disc hS.nd hS.so hS.ea hr.alr
 have hEE:E=E0:=y7m (lt:=fun x y=>x.1 < y.1∨(x.1=y.1∧x.2.1 < y.2.1)) (fun a b h1 h2=>by omega) hE.so hD.so fun x=>by
  have same:∀{a q q':Nat} {t r r':Int},X[a]? =some t→X[q]? =some r→X[q']? =some r→q=q':=fun {a q q' t r r'} _ h1 h2=>by
   have e1:=(List.getElem?_eq_some_iff.1 h1).2
   have e2:=(List.getElem?_eq_some_iff.1 h2).2
   exact(List.getElem_inj hS.nd).1 (e1.trans e2.symm)
  constructor
  ·intro hx
   obtain⟨c,q,t,r,g1,g2,g3,g4,g5,g6⟩:=hE.sn x hx
   obtain⟨q',k1,k2⟩:=hD.ed c t x.2.1 r g3 g5 g6
   have:=same (r':=r) g3 g4 k2
   subst this
   rw [←g1,←g2] at k1
   exact k1
  ·intro hx
   obtain⟨c,q,t,r,g1,g2,g3,g4,g5,g6⟩:=hD.sn x hx
   obtain⟨b,hb,hbe⟩:=List.getElem_of_mem g5
   obtain⟨q',k1,k2⟩:=hE.ed c b t x.2.1 r (.inl (List.getElem?_eq_some_iff.1 g3).1) g3 (by rw [yGe hb,hbe]) g6
   have:=same (r':=r) g3 g4 k2
   subst this
   rw [←g1,←g2] at k1
   exact k1
 subst hEE
 have hEl:=hE.el
 refine⟨(a.1,(X.length:Int),M,E),X,?_,⟨⟨rfl,by omega,hr.ali,hr.alr,m1,m2,fun x hx=>?_,hE.so,hl1,by dsimp only;omega,by dsimp only;omega⟩,rfl,fun _=>x0,hD,mk⟩,hX0,hXl⟩
 ·rw [y1U,hf,yOb,y9I (by omega),yOb,h1]
  rfl
 ·obtain ⟨c,q,t,r,g1,g2,g3,g4,g5,_⟩:=hE.sn x hx
  have e3:=(List.getElem?_eq_some_iff.1 g3).1
  have e4:=(List.getElem?_eq_some_iff.1 g4).1
  exact⟨by omega,by omega,by omega,by omega,g5⟩
end
abbrev Row5 :=Int×Int×Int×Int×Int
def y7R (g:Row5×Row5×Row5×Row5×Row5):List Int:=
 [g.1.1,g.1.2.1,g.1.2.2.1,g.1.2.2.2.1,g.1.2.2.2.2,g.2.1.1,g.2.1.2.1,g.2.1.2.2.1,g.2.1.2.2.2.1,g.2.1.2.2.2.2,g.2.2.1.1,g.2.2.1.2.1,g.2.2.1.2.2.1,g.2.2.1.2.2.2.1,g.2.2.1.2.2.2.2,g.2.2.2.1.1,g.2.2.2.1.2.1,g.2.2.2.1.2.2.1,g.2.2.2.1.2.2.2.1,g.2.2.2.1.2.2.2.2,g.2.2.2.2.1,g.2.2.2.2.2.1,g.2.2.2.2.2.2.1,g.2.2.2.2.2.2.2.1,g.2.2.2.2.2.2.2.2]
structure GrIn (g:y1O):Prop where
 s:0≤g.1∧g.1 < 256
 c:∀y∈y7R g.2.2,0≤y∧y < 256
structure MG (ev:List Int) (n i j:Nat) (E:List (Int×Int×Int)):Prop where
 er:∀x∈E,0≤x.1∧x.1≤(i:Int)∧x.2.1∈ev∧0≤x.2.2∧x.2.2 < (n:Int)
 es:∀x∈E,x.1=(i:Int)→∃b,∃hb:b < ev.length,b < j∧ev[b]=x.2.1
 so:E.Pairwise fun x y=>x.1 < y.1∨(x.1=y.1∧x.2.1 < y.2.1)
 el:E.length≤5 * i + j
theorem MG.push {ev:List Int} {n i j:Nat} {E:List (Int×Int×Int)} {q:Int} (h:MG ev n i j E) (ie:Inc ev) (hj:j < ev.length) (h0:0≤q) (h1:q < (n:Int)):MG ev n i (j + 1) (E ++ [((i:Int),ev[j],q)]):=by
 refine⟨fun x hx=>?_,fun x hx e=>?_,?_,by have:=h.el;rw [List.length_append,List.length_singleton];omega⟩
 ·rcases List.mem_append.1 hx with hx | hx
  ·exact h.er x hx
  ·rw [List.mem_singleton.1 hx];exact⟨by dsimp only;omega,by dsimp only;omega,List.getElem_mem hj,h0,h1⟩
 ·rcases List.mem_append.1 hx with hx | hx
  ·obtain ⟨b,hb,h2,h3⟩:=h.es x hx e
   exact⟨b,hb,by omega,h3⟩
  ·rw [List.mem_singleton.1 hx];exact⟨j,hj,by omega,rfl⟩
 ·rw [List.pairwise_append]
  refine⟨h.so,List.pairwise_singleton _ _,fun a ha b hb=>?_⟩
  rw [List.mem_singleton.1 hb]
  have h2:=h.er a ha
  by_cases e:a.1=(i:Int)
  ·obtain ⟨b,hb,h3,h4⟩:=h.es a ha e
   refine .inr ⟨e,?_⟩
   rw [←h4]
   exact List.pairwise_iff_getElem.1 ie b j hb hj h3
  ·exact .inl (by dsimp only;omega)
theorem MG.skip {ev:List Int} {n i j:Nat} {E:List (Int×Int×Int)} (h:MG ev n i j E):MG ev n i (j + 1) E:=⟨h.er,fun x hx e=>by
 obtain⟨b,hb,h2,h3⟩:=h.es x hx e
 exact⟨b,hb,by omega,h3⟩,h.so,by have:=h.el;omega⟩
theorem MG.next {ev:List Int} {n i j:Nat} {E:List (Int×Int×Int)} (h:MG ev n i j E) (hj:j≤5):MG ev n (i + 1) 0 E:=⟨fun x hx=>by
 have:=h.er x hx
 exact⟨this.1,by omega,this.2.2⟩,fun x hx e=>by have:=h.er x hx;omega,h.so,by have:=h.el;omega⟩
theorem yac {ev:List Int} (ie:Inc ev) (he:∀x∈ev,0≤x∧x < 32) (hel:ev.length≤5) {g:y1O} (hg:GrIn g):∃r n,y2n ev g=some r∧Right r n∧n≤5∧r.1=ev:=by
 obtain⟨s,m,c⟩:=g
 obtain⟨hs,hc⟩:=hg
 dsimp only at hs hc
 rw [y2n,y9I (by omega)]
 dsimp only
 by_cases h250:s≥250
 ·rw [if_pos (by simpa using h250),yOb]
  exact⟨_,0,rfl,⟨rfl,by omega,ie,he,List.Pairwise.nil,fun x hx=>(by cases hx),fun x hx=>(by cases hx),List.Pairwise.nil,by dsimp only;omega,by simp,by simp⟩,by omega,rfl⟩
 rw [if_neg (by simpa using h250),yOb]
 obtain⟨n,hn0,hn5,hn⟩:∃n:Nat,0 < n∧n≤5∧W (1 + W (s.tmod 5))=(n:Int):=by
  refine⟨(1 + s % 5).toNat,by omega,by omega,?_⟩
  rw [Int.tmod_eq_emod_of_nonneg hs.1,W_of (x:=s % 5) (by omega) (by omega),W_of (by omega) (by omega)]
  omega
 have hn2:W ((n:Int) + 2)=((n + 2:Nat):Int):=by rw [show (n:Int) + 2=((n + 2:Nat):Int) by omega,W_nat (by omega)]
 rw [hn]
 obtain⟨o,h1,m1,m2,hM⟩:=yb (f:=y2s ev (s,m,c)) (fun i t=>t.1=(i:Int)∧Inc t.2.1∧(∀x∈t.2.1,0≤x∧x < (i:Int))∧MG ev n i 0 t.2.2) (fun o=>Inc o.1∧(∀x∈o.1,0≤x∧x < (n:Int))∧MG ev n n 0 o.2) n 0 (by omega) (fun i t hi ⟨e1,m1,m2,hM⟩=>by
   obtain⟨t1,t2,t3⟩:=t
   dsimp only at e1 m1 m2 hM
   subst e1
   have hMl:=y3u (n:=i) (lo:=0) m1 m2 (Int.le_refl _)
   have hj:∀l:List Int,Inc l→(∀x∈l,0≤x∧x < ((i + 1:Nat):Int))→∃s',y1L ev (s,m,c) ((i:Int),t2,t3) l=some (.inl s')∧s'.1=((i + 1:Nat):Int)∧Inc s'.2.1∧(∀x∈s'.2.1,0≤x∧x < ((i + 1:Nat):Int))∧MG ev n (i + 1) 0 s'.2.2:=by
    intro l hl1 hl2
    obtain⟨o,h1,h2⟩:=yb (f:=y2r ev (s,m,c) ((i:Int),t2,t3)) (fun k t=>t.1=(k:Int)∧MG ev n i k t.2) (fun o=>MG ev n i ev.length o) ev.length 0 (by omega) (fun k t hk ⟨g1,g2⟩=>by
      obtain⟨u1,u2⟩:=t
      dsimp only at g1 g2
      subst g1
      have hel2:=g2.el
      have hj2:∀l:List (Int×Int×Int),y1K ((k:Int),u2) l=some (.inl (((k + 1:Nat):Int),l)):=fun l=>by
       rw [y1K];dsimp only;rw [nxt (by omega)]
      left
      have hlt:i * 5 + k * 1 < (y7R c).length:=by show _ < 25;omega
      obtain⟨v,hcell,hv⟩:∃v,(y7R c)[i * 5 + k * 1]? =some v∧0≤v∧v < 256:=⟨_,yGe hlt,hc _ (List.getElem_mem hlt)⟩
      rw [y7R] at hcell
      rw [y2r]
      dsimp only
      rw [if_pos (by simp;omega),show rng (i:Int) 5=some () from if_pos (by simp;omega),yOb,show rng (k:Int) 5=some () from if_pos (by simp;omega),yOb,Int.toNat_natCast,Int.toNat_natCast,hcell,yOb,hn,hn2,show nz ((n + 2:Nat):Int)=some () from if_neg (by omega),yOb,W_of (x:=v) (by omega) (by omega),Int.tmod_eq_emod_of_nonneg hv.1]
      have hm0:=Int.emod_nonneg v (show ((n + 2:Nat):Int)≠0 by omega)
      by_cases hlt2:v % ((n + 2:Nat):Int) < (n:Int)
      ·rw [if_pos (decide_eq_true hlt2),ya hk,yOb,yE (by rw [List.length_cons,List.length_nil];omega),yOb,hj2]
       exact⟨_,rfl,rfl,g2.push ie hk hm0 hlt2⟩
      ·rw [if_neg (by simpa using hlt2),hj2]
       exact⟨_,rfl,rfl,g2.skip⟩) (fun t ⟨g1,g2⟩=>by
      obtain⟨u1,u2⟩:=t
      dsimp only at g1 g2
      subst g1
      rw [y2r]
      dsimp only
      rw [if_neg (by simp)]
      exact⟨_,rfl,g2⟩) (Nat.zero_le _) (0,t3) ⟨rfl,hM⟩
    rw [y1L]
    dsimp only
    rw [h1,yOb,nxt (by omega)]
    exact⟨_,rfl,rfl,hl1,hl2,h2.next hel⟩
   left
   rw [y2s]
   dsimp only
   rw [hn,if_pos (by simp;omega),show ng (i:Int)=some () from if_neg (by omega),yOb]
   split
   ·rw [yE (by simp;omega),yOb]
    refine hj _ ?_ (fun x hx=>?_)
    ·unfold Inc at m1 ⊢
     rw [List.pairwise_append]
     exact⟨m1,List.pairwise_singleton _ _,fun c hc b hb=>by rw [List.mem_singleton.1 hb];exact(m2 c hc).2⟩
    ·rcases List.mem_append.1 hx with hx | hx
     ·have:=m2 x hx;omega
     ·rw [List.mem_singleton.1 hx];omega
   ·exact hj _ m1 (fun x hx=>by have:=m2 x hx;omega)) (fun t ⟨e1,m1,m2,hM⟩=>by
   obtain⟨t1,t2,t3⟩:=t
   dsimp only at e1 m1 m2 hM
   subst e1
   rw [y2s]
   dsimp only
   rw [hn,if_neg (by simp)]
   exact⟨_,rfl,m1,m2,hM⟩) (Nat.zero_le _) (0,[],[]) ⟨rfl,List.Pairwise.nil,fun x hx=>(by cases hx),⟨fun x hx=>(by cases hx),fun x hx=>(by cases hx),List.Pairwise.nil,by simp⟩⟩
 obtain⟨M,E⟩:=o
 dsimp only at m1 m2 hM
 have hMl:=y3u (n:=n) (lo:=0) m1 m2 (Int.le_refl _)
 have hel2:=hM.el
 have hR:Right (ev,(n:Int),M,E) n:=⟨rfl,by omega,ie,he,m1,m2,fun x hx=>by
  have h:=hM.er x hx
  refine⟨h.1,?_,h.2.2.2.1,h.2.2.2.2,h.2.2.1⟩
  by_cases e:x.1=(n:Int)
  ·obtain ⟨b,_,hb,_⟩:=hM.es x hx e
   omega
  ·omega,hM.so,by dsimp only;omega,by dsimp only;omega,by dsimp only;omega⟩
 obtain⟨r,X,hc1,hc2,hc3,hc4⟩:=ybD hR hn0
 rw [h1,yOb,hc1,yOb]
 exact⟨r,X.length,rfl,hc2.right,by omega,hc2.ale⟩
structure PbOk (q:ProbT) (n1 n2:Nat):Prop where
 rP:Right q.1 n1
 rS:Right q.2.1 n2
 l1:n1≤40
 l2:n2≤40
 sub:∀x∈q.2.1.1,x∈q.1.1
 iu:Inc q.2.2
 ur:∀x∈q.2.2,0≤x∧x < 32
theorem PbOk.open {q:ProbT} {n1 n2:Nat} (h:PbOk q n1 n2):∃t p T n1 n2 n,y1P q=some (some t,0)∧TaskOk q t p T n1 n2 n∧yq [q.1,q.2.1]=some (p,T,0):=by
 have hu:=Alp.len ⟨h.iu,h.ur⟩
 refine ybA ⟨h.rP.l1,h.rP.l2,h.rP.l3,h.rS.l1,h.rS.l2,h.rS.l3,by omega⟩ ?_ (by rw [h.rP.nn];have:=h.l1;omega) (by rw [h.rS.nn];have:=h.l2;omega)
 have hm:mg (fun a b=>a && !b) q.2.1.1 q.1.1= []:=List.eq_nil_iff_forall_not_mem.2 fun x hx=>by
  rw [(y3D (fun a b=>a && !b) q.2.1.1 q.1.1 h.rS.ali h.rP.ali).2] at hx
  obtain⟨_,h2⟩:=hx
  rw [Bool.and_eq_true,yl] at h2
  have:=yl.2 (h.sub x h2.1)
  rw [this] at h2
  simp at h2
 unfold errP
 rw [h.rP.err,h.rS.err,hm,if_neg (by simp),if_neg (by simp),if_neg (by simp)]
 exact y5d h.iu h.ur (fun q hq=>by cases hq)
abbrev PartT :=Int×y1O
abbrev Des26 :=PartT×PartT×Int
structure Des26In (d:Des26):Prop where
 g1:GrIn d.1.2
 g2:GrIn d.2.1.2
theorem ybE {d:Des26} (hd:Des26In d):∃q n1 n2,y2Y d=some q∧PbOk q n1 n2∧n1≤5∧n2≤5∧∀x∈q.1.1,0≤x∧x < 5:=by
 obtain⟨e1,a1,i1,r1,z1⟩:=y8r d.1.1
 obtain⟨P,n1,b1,R1,s1,t1⟩:=yac i1 (fun x hx=>by have:=r1 x hx;omega) z1 hd.g1
 obtain⟨e2,a2,i2,r2,z2⟩:=y8r d.2.1.1
 have hsp:=y3D (fun a b=>a && b) e2 P.1 i2 R1.ali
 have hmem:∀x,x∈mg (fun a b=>a && b) e2 P.1→x∈e2∧x∈P.1:=fun x hx=>by
  have:=(hsp.2 x).1 hx
  simp only [Bool.and_eq_true] at this
  exact⟨yl.1 this.2.1,yl.1 this.2.2⟩
 have hl:=y3u (n:=5) (lo:=0) hsp.1 (fun x hx=>r2 x (hmem x hx).1) (Int.le_refl _)
 obtain⟨S,n2,b2,R2,s2,t2⟩:=yac hsp.1 (fun x hx=>by have:=r2 x (hmem x hx).1;omega) (by omega) hd.g2
 obtain⟨e3,a3,i3,r3,z3⟩:=y8r d.2.2
 refine⟨(P,S,e3),n1,n2,?_,⟨R1,R2,by omega,by omega,fun x hx=>?_,i3,fun x hx=>by have:=r3 x hx;omega⟩,s1,s2,fun x hx=>?_⟩
 ·rw [y2Y,a1,yOb,b1,yOb,a2,yOb,y9H (by omega) R1.l1,yOb,b2,yOb,a3]
  rfl
 ·dsimp only at hx
  rw [t2] at hx
  exact(hmem x hx).2
 ·dsimp only at hx
  rw [t1] at hx
  exact r1 x hx
end Go.Proofs.YtecmobjeeonmaaaGreatDoor
