/- Parts of the proof, without what nothing here names. -/
import Derived.Test.YtecmobjeeonmaaaGreatDoorProg
import Derived.Lib.AppendZeros
import Derived.Test.YtecmobjeeonmaaaGreatDoorQu4
set_option maxRecDepth 100000
namespace Go.Proofs.YtecmobjeeonmaaaGreatDoor
open Go Go.RowKit
def y5x(p0:List Bool)(p1:Int):Option (List Bool):=if p0= []∧0≤p1∧p1≤100000 then some [] else none
theorem Row.as_at{w:World}{B k':Nat}{tag tag':Nat→Nat}{k:Nat}{t:TypeId}{sz:Nat}{v:Value}{n:Nat}{cs:List Value}(h:Row w B tag k t sz v n cs)(ht:∀b,B≤b→b<w.heap.size→tag' b=k'):Row w 0 tag' k' t sz v n cs:=
 ⟨h.1,h.2.imp id fun⟨b,off,cap,cur,h1,h2,h3⟩=>⟨b,off,cap,cur,h1,⟨h2.heap,ht b h2.base h2.lt,Nat.zero_le _⟩,h3⟩⟩
theorem Tryz.ginfo_bool :(Tryz.prog.info? 4).map (fun i=>(i.zero,i.size,i.bytes))=some (some (.bool false),1,1):=by kernel_rfl
theorem ygx(n:Nat)(w:World)(hn:n≤100000):
  Calls Tryz.prog 321 #[.slice none 0 0,.int .i64 n] w (Ret w fun u w'=>Row w' w.heap.size (fun _=>1) 1 4 1 u 0 []):=by
 obtain⟨i0,hi,hz0,hz1,hz2⟩:=info_parts Tryz.ginfo_bool
 go_enter Tryz.func321,Tryz.ntmps321
 by_cases h0:n=0
 ·subst h0
  go_wp2
  go_ret
  exact⟨_,rfl,Row.nil _ _ _ _ _ _,Below.refl _ _⟩
 ·have h1:(0:Int)<(n:Int):=by omega
  have hge:=grownCap_ge w n 0 4;have hcm:=grownCap_le_maxLen w n 0 4 (by unfold maxLen;omega);have hr:=fun ty=>Lib.run_append_nil_zeros (P:=Tryz.prog) w 144 3 ty 4 i0 (.bool false) .i64 .i64 Tryz.underlying144 Tryz.underlying3 hi hz0 n (by omega) (by rw [hz1];decide) (by omega) (by rw [hz2];omega);have hsz:(Builtin.zeroCells (Value.bool false).cells n++Builtin.zeroCells (Value.bool false).cells (grownCap w n 0 4-n)).size=grownCap w n 0 4:=by
   rw [Array.size_append,size_zeroCells,size_zeroCells];simp [Value.cells];omega
  generalize Builtin.zeroCells (Value.bool false).cells n++Builtin.zeroCells (Value.bool false).cells (grownCap w n 0 4-n)=cs at *;generalize grownCap w n 0 4=cap at *
  go_wp2_with (at_builtin;refine Lib.wpList_append_run _ rfl _ _ 144 3 rfl _ _ rfl rfl _ _ (hr _) ?_)
  go_ret
  refine⟨_,rfl,⟨by simp,.inr ⟨w.heap.size,0,cap,cs,rfl,⟨heap_alloc_new _ _,rfl,Nat.le_refl _⟩,Nat.zero_le _,hcm,by omega,by simp⟩⟩,(by (repeat (first | with_reducible exact Below.refl _ _|with_reducible exact Below.refl _ _|(with_reducible refine yed ?_ Below.refl _ _ (by first | omega|(simp;done)|(simp;omega)|(simp at *;omega)))|(with_reducible refine Below.alloc ?_ (by first | omega|(simp;done)|(simp;omega)|(simp at *;omega)) _)|(with_reducible refine Below.drew ?_)|(with_reducible refine Below.setCell ?_ (by first | omega|(simp;done)|(simp;omega)|(simp at *;omega)) _))))⟩
theorem yas{s:Sig}{p0:List Bool}{p1:Int}{u0:Nat}{r:List Bool}(hm:y5x p0 p1=some r):
  Calls Tryz.prog 321 #[.slice none 0 0,.int .i64 p1] s.w (RetS No s fun v s'=>∃(a1:Option Addr) (c1:Nat),v= .slice a1 r.length c1∧RowT rB s' u0 4 a1 c1 r):=by
 unfold y5x at hm;split at hm
 ·rename_i hc;cases hm;obtain⟨_,h1,h2⟩:=hc;obtain⟨n,rfl⟩:∃n:Nat,p1=n:=⟨p1.toNat,by omega⟩;have hn:n≤100000:=by omega
  have hg:Calls Tryz.prog 321 #[.slice none 0 0,.int .i64 n] s.w (Ret s.w fun u w'=>Row w' s.w.heap.size (fun _=>1) 1 4 1 u 0 []):=ygx n s.w hn;refine hg.mono fun en w' hh=>?_;obtain⟨u,rfl,hrow,hbel⟩:=hh;obtain⟨a1,c1,rfl⟩:=hrow.val;refine⟨_,⟨w',fun b=>if b<s.w.heap.size then s.tag b else u0⟩,rfl,rfl,Below.mv hbel (fun b hb=>if_pos hb),a1,c1,rfl,[],hrow.as_at fun b h3 h4=>if_neg (by omega),rfl⟩
 ·cases hm
def y6m(p0:List Int)(p1:Int):Option (List Int):=if p0= []∧0≤p1∧p1≤100000 then some [] else none
theorem Tryz.ginfo_int :(Tryz.prog.info? 3).map (fun i=>(i.zero,i.size,i.bytes))=some (some (.int .i64 0),1,8):=by kernel_rfl
theorem yfF(n:Nat)(w:World)(hn:n≤100000):
  Calls Tryz.prog 218 #[.slice none 0 0,.int .i64 n] w (Ret w fun u w'=>Row w' w.heap.size (fun _=>1) 1 3 1 u 0 []):=by
 obtain⟨i0,hi,hz0,hz1,hz2⟩:=info_parts Tryz.ginfo_int
 go_enter Tryz.func218,Tryz.ntmps218
 by_cases h0:n=0
 ·subst h0
  go_wp2
  go_ret
  exact⟨_,rfl,Row.nil _ _ _ _ _ _,Below.refl _ _⟩
 ·have h1:(0:Int)<(n:Int):=by omega
  have hge:=grownCap_ge w n 0 3;have hcm:=grownCap_le_maxLen w n 0 3 (by unfold maxLen;omega);have hr:=fun ty=>Lib.run_append_nil_zeros (P:=Tryz.prog) w 32 3 ty 3 i0 (.int .i64 0) .i64 .i64 Tryz.underlying32 Tryz.underlying3 hi hz0 n (by omega) (by rw [hz1];decide) (by omega) (by rw [hz2];omega);have hsz:(Builtin.zeroCells (Value.int .i64 0).cells n++Builtin.zeroCells (Value.int .i64 0).cells (grownCap w n 0 3-n)).size=grownCap w n 0 3:=by
   rw [Array.size_append,size_zeroCells,size_zeroCells];simp [Value.cells];omega
  generalize Builtin.zeroCells (Value.int .i64 0).cells n++Builtin.zeroCells (Value.int .i64 0).cells (grownCap w n 0 3-n)=cs at *;generalize grownCap w n 0 3=cap at *
  go_wp2_with (at_builtin;refine Lib.wpList_append_run _ rfl _ _ 32 3 rfl _ _ rfl rfl _ _ (hr _) ?_)
  go_ret
  refine⟨_,rfl,⟨by simp,.inr ⟨w.heap.size,0,cap,cs,rfl,⟨heap_alloc_new _ _,rfl,Nat.le_refl _⟩,Nat.zero_le _,hcm,by omega,by simp⟩⟩,(by (repeat (first | with_reducible exact Below.refl _ _|with_reducible exact Below.refl _ _|(with_reducible refine yed ?_ Below.refl _ _ (by first | omega|(simp;done)|(simp;omega)|(simp at *;omega)))|(with_reducible refine Below.alloc ?_ (by first | omega|(simp;done)|(simp;omega)|(simp at *;omega)) _)|(with_reducible refine Below.drew ?_)|(with_reducible refine Below.setCell ?_ (by first | omega|(simp;done)|(simp;omega)|(simp at *;omega)) _))))⟩
theorem yaQ{s:Sig}{p0:List Int}{p1:Int}{u0:Nat}{r:List Int}(hm:y6m p0 p1=some r):
  Calls Tryz.prog 218 #[.slice none 0 0,.int .i64 p1] s.w (RetS No s fun v s'=>∃(a1:Option Addr) (c1:Nat),v= .slice a1 r.length c1∧RowT (rK .i64) s' u0 3 a1 c1 r):=by
 unfold y6m at hm;split at hm
 ·rename_i hc;cases hm;obtain⟨_,h1,h2⟩:=hc;obtain⟨n,rfl⟩:∃n:Nat,p1=n:=⟨p1.toNat,by omega⟩;have hn:n≤100000:=by omega
  have hg:Calls Tryz.prog 218 #[.slice none 0 0,.int .i64 n] s.w (Ret s.w fun u w'=>Row w' s.w.heap.size (fun _=>1) 1 3 1 u 0 []):=yfF n s.w hn;refine hg.mono fun en w' hh=>?_;obtain⟨u,rfl,hrow,hbel⟩:=hh;obtain⟨a1,c1,rfl⟩:=hrow.val;refine⟨_,⟨w',fun b=>if b<s.w.heap.size then s.tag b else u0⟩,rfl,rfl,Below.mv hbel (fun b hb=>if_pos hb),a1,c1,rfl,[],hrow.as_at fun b h3 h4=>if_neg (by omega),rfl⟩
 ·cases hm
theorem yat{p0:List Bool}{p1:Int}{r:List Bool}(hm:y5x p0 p1=some r):Fw Tryz.prog 321 ⟨0,[]⟩ [.o (lV (.slice none 0 0)),.i p1] [] (.h 0) [ROW rB 4 r]:=
 ⟨fun ts β s vs ht _ _ _ ⟨v,us,h,⟨v2,us2,h2,hu,e3⟩,e2⟩ _=>by
  have hu:us2= []:=hu;have h:v= .slice none 0 0:=h.1;have h2:v2= .int .i64 p1:=h2.1;subst hu e3 e2 h h2;obtain⟨t,rfl⟩:∃t,ts= [t]:=by
   match ts,ht with
   | [t],_=>exact⟨t,rfl⟩
  exact Calls.mono (yas (u0:=t) hm) fun en w' ⟨v,s',e1,e2,m,a,c,hv,hr⟩=>⟨v,s',e1,e2,m.no,fun _=>v,fun i hi=>(by cases hi),⟨rfl,by rw [hv];rfl⟩,fun i o ho=>by
   match i,ho with
   | 0,ho=>cases ho;exact⟨a,c,hv,hr⟩⟩⟩
theorem yaR{p0:List Int}{p1:Int}{r:List Int}(hm:y6m p0 p1=some r):Fw Tryz.prog 218 ⟨0,[]⟩ [.o (lV (.slice none 0 0)),.i p1] [] (.h 0) [ROW qI 3 r]:=
 ⟨fun ts β s vs ht _ _ _ ⟨v,us,h,⟨v2,us2,h2,hu,e3⟩,e2⟩ _=>by
  have hu:us2= []:=hu;have h:v= .slice none 0 0:=h.1;have h2:v2= .int .i64 p1:=h2.1;subst hu e3 e2 h h2;obtain⟨t,rfl⟩:∃t,ts= [t]:=by
   match ts,ht with
   | [t],_=>exact⟨t,rfl⟩
  exact Calls.mono (yaQ (u0:=t) hm) fun en w' ⟨v,s',e1,e2,m,a,c,hv,hr⟩=>⟨v,s',e1,e2,m.no,fun _=>v,fun i hi=>(by cases hi),⟨rfl,by rw [hv];rfl⟩,fun i o ho=>by
   match i,ho with
   | 0,ho=>cases ho;exact⟨a,c,hv,hr⟩⟩⟩
theorem yaS{p0:List Int}{r:List Int}(hm:y5c p0=some r):Fw Tryz.prog 206 ⟨1,[0]⟩ [.h 0] [ROW qI 3 p0] (.tp []) [ROW qI 3 r]:=
 ⟨fun ts β s vs ht _ _ hp ⟨v,us,h,hu,e2⟩ ho=>by
  have hu:us= []:=hu;subst hu;subst e2;obtain⟨t,rfl⟩:∃t,ts= [t]:=by
   match ts,ht with
   | [t],_=>exact⟨t,rfl⟩
  obtain⟨a,c,e,h2⟩:=ho 0 _ rfl;have hv:v= .slice a p0.length c:=h.1.trans e;subst hv;have hl:r.length=p0.length:=by
   unfold y5c at hm;split at hm
   ·rw [←Option.some.inj hm];exact(y9r _).length_eq
   ·cases hm
  exact Calls.mono (yaM (hp t (.head _)) h2 hm) fun en w' ⟨v,s',e1,e2,m,hv,hr⟩=>⟨v,s',e1,e2,m.weak fun t' ht'=>⟨0,.head _,by rw [show t'=t from ht'];rfl⟩,β,fun _ _=>rfl,⟨[],rfl,hv⟩,fun i o ho=>by
   match i,ho with
   | 0,ho=>cases ho;exact⟨a,c,by rw [e,hl],hr⟩⟩⟩
end Go.Proofs.YtecmobjeeonmaaaGreatDoor
set_option maxRecDepth 100000
set_option maxHeartbeats 8000000
namespace Go.Proofs.YtecmobjeeonmaaaGreatDoor
open Go Go.RowKit
noncomputable section
def y1U(p0:List (List Bool))(a:Int×List Bool):Option ((Int×List Bool)⊕(List Bool)):=
 if decide (a.1<(p0.length:Int)) then
  (idx p0 a.1).bind fun b=>
  (app a.2 b).bind fun c=>
  some (.inl (W (a.1+1),c))
 else
  some (.inr a.2)
def y5f(b:Int×Int)(a:Int):Option ((Int×Int)⊕Int):=
 some (.inl (W (b.1+1),a))
def y1V(p0:List (List Bool))(a:Int×Int):Option ((Int×Int)⊕Int):=
 if decide (a.1<(p0.length:Int)) then
  (idx p0 a.1).bind fun b=>
  if decide ((W (a.2+(b.length:Int)))<0) then
   none
  else
   y5f a (W (a.2+(b.length:Int)))
 else
  some (.inr a.2)
def y4W(p0:List (List Bool)):Option (List Bool):=
 (iter (y1V p0) (0,0)).bind fun c=>
 (y5x ([]:List Bool) c).bind fun b=>
 (iter (y1U p0) (0,b)).bind fun a=>
 some a
theorem y9L{p0:List (List Bool)}{r:List Bool}(hm:y4W p0=some r):
  F0 319 [.f (rL rB) p0] [] (.h 0) [ROW rB 4 r]:=by
 unfold y4W at hm;refine Fw.mk2 Tryz.func319 Tryz.ntmps319 R (fun C=>?_) R;refine .sr (.an R (.sr (.an R (.seq (.sr (.mv R (.ln sl387 R (.mv R (.ns (.block (bS hm fun p u hm=>?_)))))))))));refine .cut1 (z:= .exit 0) p (fun (p:Int)=>⟨[(3,.i p),(0,.f (rL rB) p0)],[],0⟩) ?_ fun s=>?_
 ·skip
  refine .blkE (.seqN (.sr (.mv R (bS hm fun x j hm=> .op (O.ca (r':= .h 0) [0] [(0,ROW rB 4 x)] (some 1) (yat j) cf321 R R Z R R R R ⟨⟨_,R,I4⟩,trivial⟩ I3 R) R (.an R (.seq (.sr (.mv R (.ln sl387 R (.mv R (.ns (.block (bS hm fun d g hm=>?_)))))))))))));refine .cut1 (z:= .exit 2) d (fun (d:List Bool)=>⟨[(6,.h 0)],[(0,ROW rB 4 d)],1⟩) ?_ fun t=>?_
  ·skip
   refine .blkE (.seqN (.sr (.mv R (.an R (.ret ?_)))));cases hm;exact .rr [0] Tryz.results319 (.tmp R .nil) R I3 ⟨⟨_,R,I4⟩,trivial⟩
  refine .iter (fun (b:Int×List Bool)=>⟨[(27,.i b.1),(26,.i (p0.length:Int)),(25,.f (rL rB) p0),(6,.h 0)],[(0,ROW rB 4 b.2)],1⟩) g [] R ?_;intro b y hm o n;unfold y1U at hm;refine .sr (.bi R (.ns (.seq ?_)));exact .cc hm R (fun hm=> .skip (.seqN (.seq (.block (.sr (bS hm fun B k hm=> .ix sl387 k R (.le y2R lv144 R (.an R (.reg (.mv R (.mv R (bS hm fun D l hm=> .op (O.ap 1 Tryz.underlying144 el4 R R Z R R (.fr R) l R) R (.sa R (.nil (.blkN (.seqN (.reg (.bi R (.mv R (.nil ((o _ (oi hm).symm).sub [(0,1)] R))))))))))))))))))))) fun hm=> .exit (.seqX (.seqX ((t _ (n _ (oi hm).symm)).sub [] R)))
 refine .iter (fun (a:Int×Int)=>⟨[(11,.i a.1),(10,.i (p0.length:Int)),(9,.f (rL rB) p0),(3,.i a.2),(0,.f (rL rB) p0)],[],0⟩) u [] R ?_;intro a q hm w v;unfold y1V at hm;refine .sr (.bi R (.ns (.seq ?_)));refine .cc hm R (fun hm=>?_) fun hm=> .exit (.seqX (.seqX ((s _ (v _ (oi hm).symm)).sub [] R)));refine .skip (.seqN ?_);refine .join1 (fun (c:Int)=>y5f a c=some q) (fun c=>⟨[(3,.i c),(11,.i a.1),(10,.i (p0.length:Int)),(9,.f (rL rB) p0),(0,.f (rL rB) p0)],[],0⟩) ?_ ?_
 ·intro c hm;unfold y5f at hm;exact .reg (.bi R (.mv R (.nil ((w _ (oi hm).symm).sub [] R))))
 ·intro e;refine .block (.sr (bS hm fun E m hm=> .ix sl387 m R (.le y2R lv144 R (.an R (.sr (.mv R (.mv R (.ln sl144 R (.bi R (.an R (.sr (.mv R (.bi R (.ns ?_))))))))))))));refine .cc hm R (fun hm=>?_) fun hm=> .skip (.blkN ((e _ hm).sub [] R));refine .reg ?_;cases hm
def y5i(p0:Int×Int×Int×List Bool×(List (Int×Int)))(p1:List Bool×List Bool)(p2:List Bool):Option (List Bool×Int):=
 (y4d p0).bind fun a=>
 if(a != 0) then
  some (([]:List Bool),a)
 else
  if((((p2.length:Int) != p0.1)||((p1.1.length:Int) != p0.2.1))||((p1.2.length:Int) != p0.2.2.1)) then
   some (([]:List Bool),4)
  else
   (y4W ([p2,p1.1,p1.2]:List (List Bool))).bind fun b=>
   some (b,0)
theorem yac{p0:Int×Int×Int×List Bool×(List (Int×Int))}{p1:List Bool×List Bool}{p2:List Bool}{r:List Bool×Int}(hm:y5i p0 p1 p2=some r):
    F0 296 [.a (lx191 p0),.a [lF rB p1.1,lF rB p1.2],.f rB p2] [] (.tp [.h 0,.i r.2]) [ROW rB 4 r.1]:=by
  unfold y5i at hm;refine Fw.mk2 Tryz.func296 Tryz.ntmps296 R (fun C=>?_) R;refine .sr (.bo 0 R (.bo 1 R (.sa R (.an R (.seq (.sr (.op (O.lg (l':=(lx191 p0)) ag191 Z R (.B R) R R R) R (bS hm fun s m hm=> .c0 (y7F m) cf243 R (.an R (.sr (.mv R (.bi R (.ns ?_)))))))))))));refine .cc hm R (fun hm=>?_) fun hm=>?_
  ·refine .sr (.mv R (.sa R (.an R (.ret (.seqR (.nlg rB 4 6 0 R R ?_))))));cases hm;exact .rr [2] Tryz.results296 (.tmp R (.tmp R .nil)) R I3 ⟨⟨_,R,I4⟩,trivial⟩
  ·refine .skip (.seqN (.seq (.sr (.mv R (.ln sl144 R (.fa y9j R (.lb nag3 R (.bi R (.mv R ?_)))))))));refine .cut 7 (fun (e:Bool)=>(((p2.length:Int) != p0.1)||((p1.1.length:Int) != p0.2.1))=e) (fun e=>⟨[(26,.b e),(4,.q 1 0),(3,.q 0 0),(2,.f rB p2)],[(1,.bx 197 [lF rB p1.1,lF rB p1.2]),(0,.bx 191 (lx191 p0))],2⟩) ?_ ?_
   · rintro _ rfl;refine .mv R ?_;refine .cut 7 (fun (g:Bool)=>((((p2.length:Int) != p0.1)||((p1.1.length:Int) != p0.2.1))||((p1.2.length:Int) != p0.2.2.1))=g) (fun g=>⟨[(34,.b g),(4,.q 1 0),(2,.f rB p2)],[(1,.bx 197 [lF rB p1.1,lF rB p1.2])],2⟩) ?_ ?_
     · rintro _ rfl;refine .ns ?_;refine .cc hm R (fun hm=>?_) fun hm=>?_
       ·refine .sr (.sa R (.an R (.ret (.seqR (.nlg rB 4 6 0 R R ?_)))));cases hm;exact .rr [2] Tryz.results296 (.tmp R (.tmp R .nil)) R I3 ⟨⟨_,R,I4⟩,trivial⟩
       ·refine .skip (.seqN (.sr (.mv R (.fa ya5 R (.lb y2R R (.fa ybh R (.lb y2R R (.op (O.bsF (r:=(rL rB)) (zs:=([p2,p1.1,p1.2]:List (List Bool))) bs387 R R Z R R R (.c .l (.c .l (.c .l .n))) R R R) R (bS hm fun p o hm=> .op (O.ca (r':= .h 2) [2] [(0,ROW rB 4 p)] (some 3) (y9L o) cf319 R R Z R R R R ⟨⟨_,R,I4⟩,trivial⟩ I3 R) R (.sa R (.an R (.ret ?_))))))))))));cases hm;exact .rr [2] Tryz.results296 (.tmp R (.tmp R .nil)) R I3 ⟨⟨_,R,I4⟩,trivial⟩
     · intro k;rcases Bool.eq_false_or_eq_true (((p2.length:Int) != p0.1)||((p1.1.length:Int) != p0.2.1)) with hc|hc
       · refine .know (d:=27) R hc ?_;exact .sk R (.sk R (.sk R (.sk R (.sk R (.sk R (.op (O.pkT Z R R R R) R ((k true (orT hc).symm).sub [] R)))))))
       · refine .know (d:=27) R hc ?_;exact .op (O.faP ybh (Gu.mk R R) R R) R (.op (O.ld y2R (Gu.mk R R) R (.B R) R R) R (.op (O.len sl144 (Gu.mk R R) R R) R (.op (O.faP ya4 (Gu.mk R R) R R) R (.op (O.ld nag3 (Gu.mk R R) R (.B R) R R) R (.op (O.bi (Gu.mk R R) R R R R) R (.op (O.pkF Z R R R R) R ((k ((p1.2.length:Int) != p0.2.2.1) (orF hc).symm).sub [] R)))))))
   · intro j;rcases Bool.eq_false_or_eq_true ((p2.length:Int) != p0.1) with hc|hc
     · refine .know (d:=19) R hc ?_;exact .sk R (.sk R (.sk R (.sk R (.sk R (.sk R (.op (O.pkT Z R R R R) R ((j true (orT hc).symm).sub [] R)))))))
     · refine .know (d:=19) R hc ?_;exact .op (O.faP ya5 (Gu.mk R R) R R) R (.op (O.ld y2R (Gu.mk R R) R (.B R) R R) R (.op (O.len sl144 (Gu.mk R R) R R) R (.op (O.faP y9k (Gu.mk R R) R R) R (.op (O.ld nag3 (Gu.mk R R) R (.B R) R R) R (.op (O.bi (Gu.mk R R) R R R R) R (.op (O.pkF Z R R R R) R ((j ((p1.1.length:Int) != p0.2.1) (orF hc).symm).sub [] R)))))))
def y1I(p0:Int×Int×Int×List Bool×(List (Int×Int)))(n:(List (Int×ByteArray×(Option (Bool→Bool→Option Bool))×(Option (Bool→Bool→Option Bool))×(Option (Bool→Option Bool)))))(a:List Bool×Int×Bool×List Int):Option ((List Bool×Int×Bool×List Int)⊕(List Bool×List Int)):=
 if decide (a.2.1<(p0.2.2.2.2.length:Int)) then
  (app a.2.2.2 ([a.2.1]:List Int)).bind fun d=>
  (idx p0.2.2.2.2 a.2.1).bind fun b=>
  (idx n (W (b.1-1))).bind fun c=>
  if c.2.2.1.isSome then
   (idx a.1 b.2).bind fun k=>
   c.2.2.1.bind fun e=>
   (e a.2.2.1 k).bind fun h=>
   some (.inl (a.1,W (a.2.1+1),h,d))
  else
   if c.2.2.2.1.isSome then
    (idx a.1 b.2).bind fun l=>
    c.2.2.2.1.bind fun f=>
    (f a.2.2.1 l).bind fun i=>
    (idx a.1 b.2).bind fun o=>
    (upd a.1 b.2 i).bind fun m=>
    some (.inl (m,W (a.2.1+1),a.2.2.1,d))
   else
    c.2.2.2.2.bind fun g=>
    (g a.2.2.1).bind fun j=>
    if j then
     some (.inl (a.1,b.2,a.2.2.1,d))
    else
     some (.inl (a.1,W (a.2.1+1),a.2.2.1,d))
 else
  some (.inr (a.1,a.2.2.2))
def y5y(p0:Int×Int×Int×List Bool×(List (Int×Int)))(p1:List Bool):Option (List Int×List Bool):=
 (y1d).bind fun b=>
 (iter (y1I p0 b) (p1,0,false,([]:List Int))).bind fun a=>
 some (a.2,a.1)
theorem yau{p0:Int×Int×Int×List Bool×(List (Int×Int))}{p1:List Bool}{r:List Int×List Bool}(hm:y5y p0 p1=some r):
    Fw Tryz.prog 297 ⟨1,[0]⟩ [.a (lx191 p0),.h 0] [ROW rB 4 p1] (.h 1) [ROW rB 4 r.2,ROW qI 3 r.1]:=by
  unfold y5y at hm;refine Fw.mk2 Tryz.func297 Tryz.ntmps297 R (fun C=>?_) R;refine .sr (.bo 1 R (.an R (.sr (bS hm fun w N hm=> .c0 (y6F N) cf293 R (.an R (.sr (.an R (.sr (.an R (.seq (.sr (.an R (.block (bS hm fun p x hm=>?_))))))))))))));refine .cut1 (z:= .exit 0) p (fun (p:List Bool×List Int)=>⟨[(6,.h 1)],[(0,ROW rB 4 p.1),(1,ROW qI 3 p.2)],2⟩) ?_ fun M=>?_
  · skip
    refine .blkE (.seqN (.sr (.mv R (.an R (.ret ?_)))));cases hm;exact .rr [0,1] Tryz.results297 (.tmp R .nil) R I3 ⟨⟨_,R,I4⟩,⟨_,R,I4⟩,trivial⟩
  refine .nlg qI 3 6 0 R R (.iter (fun (d:List Bool×Int×Bool×List Int)=>⟨[(8,.i d.2.1),(7,.b d.2.2.1),(6,.h 1),(5,.f rE372 w),(2,.q 2 0),(1,.h 0)],[(0,ROW rB 4 d.1),(1,ROW qI 3 d.2.2.2),(2,.bx 191 (lx191 p0))],3⟩) x [(1,2),(2,1)] R ?_);intro d V hm o L;unfold y1I at hm;refine .seq (.sr (.mv R (.fa y9l R (.lb y6C R (.ln sl189 R (.bi R (.ns ?_)))))));refine .cc hm R (fun hm=>?_) fun hm=> .exit (.seqX (.seqX ((M _ (L _ (oi hm).symm)).sub [] R)));refine .skip (.seqN (.block (.sr (.mv R (.mv R (.op (O.bsF (r:=qI) (zs:=([d.2.1]:List Int)) bs32 R R Z R R R (.c .k .n) R R R) R (bS hm fun s H hm=> .op (O.ap 3 Tryz.underlying32 el3 R R Z R R (.fr R) H R) R (.an R (.sr (.fa y9l R (.lb y6C R (.mv R (bS hm fun m I hm=> .ix sl189 I R (.op (O.lg (l':=[lI m.1,lI m.2]) ag302 Z R (.E lv302) R R R) R (.al 4 zz302 R (.st ag302.sz R (.nr (.mv R (.fa ybe R (.lb nag3 R (.bi R (bS hm fun e J hm=> .ix sl368 J R (.op (O.lg (l':=[lI e.1,lV (.string e.2.1),lF2 Tryz.prog (fun (g:Bool) (j:Bool)=> [.bool g,.bool j]) (fun (r:Bool)=> .bool r) e.2.2.1,lF2 Tryz.prog (fun (g:Bool) (j:Bool)=> [.bool g,.bool j]) (fun (r:Bool)=> .bool r) e.2.2.2.1,lF1 Tryz.prog (fun (g:Bool)=> [.bool g]) (fun (r:Bool)=> .bool r) e.2.2.2.2]) ag372 Z R (.E lv372) R R R) R (.al 5 zz372 R (.st ag372.sz R (.nr ?_))))))))))))))))))))))))));refine .mv R (.bi R (.an R (.block (.sr (.fa yeA R (.lb yb1 R (.op (O.fne2 Tryz.underlying135 Z R R R) R (.an R ?_))))))));refine .cc hm R (fun hm=>?_) fun hm=>?_
  ·refine .sub (τ:=⟨[(8,.i (W (d.2.1+1))),(10,.q 5 0),(9,.q 4 0),(6,.h 3),(7,.b d.2.2.1),(5,.f rE372 w),(2,.q 2 0),(1,.h 0)],[(0,ROW rB 4 d.1),(5,.bx 372 [lI e.1,lV (.string e.2.1),lF2 Tryz.prog (fun (g:Bool) (j:Bool)=> [.bool g,.bool j]) (fun (r:Bool)=> .bool r) e.2.2.1,lF2 Tryz.prog (fun (g:Bool) (j:Bool)=> [.bool g,.bool j]) (fun (r:Bool)=> .bool r) e.2.2.2.1,lF1 Tryz.prog (fun (g:Bool)=> [.bool g]) (fun (r:Bool)=> .bool r) e.2.2.2.2]),(4,.bx 302 [lI m.1,lI m.2]),(3,ROW qI 3 s),(2,.bx 191 (lx191 p0))],6⟩) ?_ [] R;refine bS hm fun S t hm=>bS hm fun X ef31 hm=>bS hm fun P D hm=>?_;refine .drg 6 [(6,[]),(6,[oT]),(6,[]),(6,[]),(6,[]),(6,[oF,oF,oF,oF,oT]),(6,fA 3 (tT 3)),(6,fA 3 (tT 4)),(6,tT 8),(6,tT 9)] [_,_,_,_,_,_,_,_,_,_] ⟨[(7,.b P),(8,.i (W (d.2.1+1))),(6,.h 3),(5,.f rE372 w),(2,.q 2 0),(1,.h 0)],[(0,ROW rB 4 d.1),(3,ROW qI 3 s),(2,.bx 191 (lx191 p0))],6⟩ ⟨O.faP yeA Z R R,O.ld yb1 Z R (.B R) R R,O.mv Z R R,O.mv Z R R,O.faP y6K Z R R,O.ld nag3 Z R (.B R) R R,O.ir sl144 Z R R R t R,O.ld nag4 Z R (.R R t lv4) R R,O.fh2 (y:=d.2.2.1) (z:=S) R R R Z R ef31 D R R,O.as Z R R,trivial⟩ (by kernel_rfl) R ?_;exact .blkN (.blkN ((o _ (oi hm).symm).sub [(1,3)] R))
  ·refine .sr (.fa ycB R (.lb yb1 R (.op (O.fne2 Tryz.underlying135 Z R R R) R (.an R ?_))));refine .cc hm R (fun hm=>?_) fun hm=>?_
   ·refine .sub (τ:=⟨[(8,.i (W (d.2.1+1))),(10,.q 5 0),(9,.q 4 0),(6,.h 3),(7,.b d.2.2.1),(5,.f rE372 w),(2,.q 2 0),(1,.h 0)],[(0,ROW rB 4 d.1),(5,.bx 372 [lI e.1,lV (.string e.2.1),lF2 Tryz.prog (fun (g:Bool) (j:Bool)=> [.bool g,.bool j]) (fun (r:Bool)=> .bool r) e.2.2.1,lF2 Tryz.prog (fun (g:Bool) (j:Bool)=> [.bool g,.bool j]) (fun (r:Bool)=> .bool r) e.2.2.2.1,lF1 Tryz.prog (fun (g:Bool)=> [.bool g]) (fun (r:Bool)=> .bool r) e.2.2.2.2]),(4,.bx 302 [lI m.1,lI m.2]),(3,ROW qI 3 s),(2,.bx 191 (lx191 p0))],6⟩) ?_ [] R;refine bS hm fun T u hm=>bS hm fun Y ef34 hm=>bS hm fun Q F hm=>bS hm fun a2 v hm=>bS hm fun U K hm=>?_;refine .drg 6 [(6,[]),(6,[]),(6,[oF,oT]),(6,[]),(6,[oF,oF,oF,oT]),(6,[]),(6,[]),(6,[]),(6,[oF,oF,oF,oF,oF,oF,oF,oT]),(6,fA 6 (tT 3)),(6,fA 6 (tT 4)),(6,fA 3 (tT 8)),(6,tT 12),(6,tT 13)] [_,_,_,_,_,_,_,_,_,_,_,_,_,_] ⟨[(8,.i (W (d.2.1+1))),(6,.h 3),(7,.b d.2.2.1),(5,.f rE372 w),(2,.q 2 0),(1,.h 0)],[(0,ROW rB 4 U),(3,ROW qI 3 s),(2,.bx 191 (lx191 p0))],6⟩ ⟨O.mv Z R R,O.faP y6K Z R R,O.ld nag3 Z R (.B R) R R,O.faP ycB Z R R,O.ld yb1 Z R (.B R) R R,O.mv Z R R,O.mv Z R R,O.faP y6K Z R R,O.ld nag3 Z R (.B R) R R,O.ir sl144 Z R R R u R,O.ld nag4 Z R (.R R u lv4) R R,O.fh2 (y:=d.2.2.1) (z:=T) R R R Z R ef34 F R R,O.ir sl144 Z R R R v R,O.su (z:=Q) nag4.sz Z R R v K R R R lv4 R .b,trivial⟩ (by kernel_rfl) R ?_;exact .blkN (.blkN ((o _ (oi hm).symm).sub [(1,3)] R))
   ·refine .sr (.fa yez R (.lb yfE R (.mv R (bS hm fun a0 ef38 hm=>bS hm fun a1 G hm=> .op (O.fh1 (y:=d.2.2.1) R R R Z R ef38 G R R) R (.an R ?_)))));exact .cc hm R (fun hm=> .reg (.fa y6K R (.lb nag3 R (.sa R (.nil (.blkN (.blkN ((o _ (oi hm).symm).sub [(1,3)] R)))))))) fun hm=> .skip (.blkN (.blkN ((o _ (oi hm).symm).sub [(1,3)] R)))
def y5j(p0:Int×Int×Int×List Bool×(List (Int×Int)))(p1:List Bool):Option (List Bool×List Bool):=
 (slc3 p1 p0.1 (W (p0.1+p0.2.1)) (W (p0.1+p0.2.1))).bind fun a=>
 (slc3 p1 (W (p0.1+p0.2.1)) (p1.length:Int) (p1.length:Int)).bind fun b=>
 some (a,b)
theorem yad{p0:Int×Int×Int×List Bool×(List (Int×Int))}{p1:List Bool}{r:(List Bool×List Bool)}(hm:y5j p0 p1=some r):
  F0 298 [.a (lx191 p0),.f rB p1] [] (.g [lF rB r.1,lF rB r.2]) []:=by
 unfold y5j at hm;refine Fw.mk2 Tryz.func298 Tryz.ntmps298 R (fun C=>?_) R;refine .sr (.bo 0 R (.al 1 zz197 R (.nr (.fa y9j R (.lb nag3 R (.fa y9k R (.lb nag3 R (.bi R (.an R (.seq ?_))))))))));refine .sub (τ:=⟨[(5,.i (W (p0.1+p0.2.1))),(4,.q 1 0),(2,.q 0 0),(1,.f rB p1)],[(1,.bx 197 [lN,lN]),(0,.bx 191 (lx191 p0))],2⟩) ?_ [] R;refine bS hm fun d b hm=>bS hm fun e c hm=>?_;refine .drg 2 [(2,[]),(2,[]),(2,[oF,oT]),(2,[]),(2,[]),(2,tT 5),(2,[]),(2,[]),(2,[]),(2,[oF,oF,oF,oF,oF,oF,oF,oF,oT]),(2,[]),(2,[oF,oF,oF,oF,oF,oF,oF,oF,oF,oF,oT]),(2,fA 6 (tT 6)),(2,tT 13),(2,tT 14)] [_,_,_,_,_,_,_,_,_,_,_,_,_,_,_] ⟨[(4,.q 1 0)],[(1,.bx 197 [lF rB d,lF rB e])],2⟩ ⟨O.mv Z R R,O.faP y9j Z R R,O.ld nag3 Z R (.B R) R R,O.mv Z R R,O.mv Z R R,O.s3 sl144 Z R R R R b R,O.mv Z R R,O.mv Z R R,O.mv Z R R,O.len sl144 Z R R,O.mv Z R R,O.len sl144 Z R R,O.s3 sl144 Z R R R R c R,O.bu (l:=[lF rB d,lF rB e]) pl197 R Z R R R,O.st ag197.sz Z R R R R R,trivial⟩ (by kernel_rfl) R ?_;refine .seqN (.ret ?_);cases hm;exact .rr [] Tryz.results298 (.cell R R ag197 R .nil) R I3 trivial
def y4K(p0:Int×Int×Int×List Bool×(List (Int×Int)))(p1:List Bool×List Bool)(p2:List Bool):Option ((List Bool×List Bool)×Int):=
 (y5i p0 p1 p2).bind fun a=>
 if(a.2 != 0) then
  some ((([]:List Bool),([]:List Bool)),a.2)
 else
  (y5y p0 a.1).bind fun b=>
  (y5j p0 b.2).bind fun c=>
  some (c,0)
theorem yav{p0:Int×Int×Int×List Bool×(List (Int×Int))}{p1:List Bool×List Bool}{p2:List Bool}{r:(List Bool×List Bool)×Int}(hm:y4K p0 p1 p2=some r):
    F0 272 [.a (lx191 p0),.a [lF rB p1.1,lF rB p1.2],.f rB p2] [] (.tp [.a [lF rB r.1.1,lF rB r.1.2],.i r.2]) []:=by
  unfold y4K at hm;refine Fw.mk2 Tryz.func272 Tryz.ntmps272 R (fun C=>?_) R;refine .sr (.bo 0 R (.bo 1 R (.al 2 zz197 R (.an R (.sr (.op (O.lg (l':=(lx191 p0)) ag191 Z R (.B R) R R R) R (.op (O.lg (l':=[lF rB p1.1,lF rB p1.2]) ag197 Z R (.B R) R R R) R (.mv R (bS hm fun g b hm=> .op (O.ca (r':= .tp [.h 3,.i g.2]) [3] [(0,ROW rB 4 g.1)] (some 4) (yac b) cf296 R R Z R R R R ⟨⟨_,R,I4⟩,trivial⟩ I3 R) R (.mv R (.ex R (.ex R (.sa R (.an R (.seq (.sr (.mv R (.bi R (.ns ?_)))))))))))))))))));refine .cc hm R (fun hm=>?_) fun hm=>?_
  ·refine .sr (.op (O.bu (l:=[lN,lN]) pl197 R Z R R R) R (.mv R (.st ag197.sz R (.an R (.ret (.seqR (.cno 2 R (.c (.nf (r:=rB)) (.c (.nf (r:=rB)) .n)) R ?_)))))));cases hm;exact .rr [] Tryz.results272 (.cell R R ag197 R (.tmp R .nil)) R I3 trivial
  ·refine .skip (.seqN (.sr (.op (O.lg (l':=(lx191 p0)) ag191 Z R (.B R) R R R) R (.mv R (bS hm fun j d hm=> .op (O.ca (r':= .h 4) [3,4] [(0,ROW rB 4 j.2),(1,ROW qI 3 j.1)] (some 5) (yau d) cf297 R R Z R R R R ⟨⟨_,R,I4⟩,⟨_,R,I4⟩,trivial⟩ I3 R) R (.nr (.op (O.lg (l':=(lx191 p0)) ag191 Z R (.B R) R R R) R (.mv R (.fz 3 [25] [] R R fR R R (bS hm fun k e hm=> .c0 (yad e) cf298 R (.st ag197.sz R (.an R (.ret ?_)))))))))))));cases hm;exact .rr [] Tryz.results272 (.cell R R ag197 R (.tmp R .nil)) R I3 trivial
def y5E(p0:CodT)(p1:List Bool×List Bool)(p2:List Int):Option ((List Bool×List Bool)×Int):=
 (y5O p0 p2).bind fun a=>
 if(a.2 != 0) then
  some ((([]:List Bool),([]:List Bool)),a.2)
 else
  (y4K p0.1 p1 a.1).bind fun b=>
  some b
theorem ybr{p0:CodT}{p1:List Bool×List Bool}{p2:List Int}{r:(List Bool×List Bool)×Int}(hm:y5E p0 p1 p2=some r):
    F0 244 [.a (lx193 p0),.a [lF rB p1.1,lF rB p1.2],.f qI p2] [] (.tp [.a [lF rB r.1.1,lF rB r.1.2],.i r.2]) []:=by
  unfold y5E at hm;refine Fw.mk2 Tryz.func244 Tryz.ntmps244 R (fun C=>?_) R;refine .sr (.bo 0 R (.bo 1 R (.al 2 zz197 R (.an R (.sr (.op (O.lg (l':=(lx193 p0)) ag193 Z R (.B R) R R R) R (.mv R (bS hm fun e b hm=> .op (O.ca (r':= .tp [.h 3,.i e.2]) [3] [(0,ROW rB 4 e.1)] (some 4) (yaP b) cf271 R R Z R R R R ⟨⟨_,R,I4⟩,trivial⟩ I3 R) R (.mv R (.ex R (.ex R (.sa R (.an R (.seq (.sr (.mv R (.bi R (.ns ?_))))))))))))))))));refine .cc hm R (fun hm=>?_) fun hm=>?_
  ·refine .sr (.op (O.bu (l:=[lN,lN]) pl197 R Z R R R) R (.mv R (.st ag197.sz R (.an R (.ret (.seqR (.cno 2 R (.c (.nf (r:=rB)) (.c (.nf (r:=rB)) .n)) R ?_)))))));cases hm;exact .rr [] Tryz.results244 (.cell R R ag197 R (.tmp R .nil)) R I3 trivial
  ·refine .skip (.seqN (.sr (.fa ybf R (.op (O.lg (l':=(lx191 p0.1)) ag191 Z R (.B R) R R R) R (.op (O.lg (l':=[lF rB p1.1,lF rB p1.2]) ag197 Z R (.B R) R R R) R (.mv R (.fz 3 [23] [] R R fR R R (bS hm fun g d hm=> .c0 (yav d) cf272 R (.ex R (.ex R (.st ag197.sz R (.an R (.ret ?_)))))))))))));cases hm;exact .rr [] Tryz.results244 (.cell R R ag197 R (.tmp R .nil)) R I3 trivial
def y2B(p0:BenT)(c:(List Bool×List Bool)×Int)(a:List Bool)(b:List Bool):Option (Int×BenT):=
 some (c.2,p0.1,p0.2.1,p0.2.2.1,a,b)
def y1u(a:Int×List Int)(b:List Int):Option ((Int×List Int)⊕(List Int)):=
 some (.inl (W (a.1+1),b))
def y1v(p0:BenT)(p1:List Int)(a:Int×List Int):Option ((Int×List Int)⊕(List Int)):=
 if decide (a.1<(p1.length:Int)) then
  (idx p1 a.1).bind fun b=>
  (yd p0.1.2.1.1 b).bind fun c=>
  if c then
   (app a.2 ([b]:List Int)).bind fun d=>
   y1u a d
  else
   y1u a a.2
 else
  some (.inr a.2)
def yQ(p0:BenT)(p1:List Int):Option (Int×BenT):=
 (iter (y1v p0 p1) (0,([]:List Int))).bind fun b=>
 (y5c b).bind fun c=>
 (y5E p0.2.1 p0.2.2.2 c).bind fun a=>
 if(a.2==0) then
  y2B p0 a a.1.1 a.1.2
 else
  y2B p0 a p0.2.2.2.1 p0.2.2.2.2
theorem y5z{p0:BenT}{p1:List Int}{r:Int×BenT}(hm:yQ p0 p1=some r):
  Fw Tryz.prog 221 ⟨1,[0]⟩ [.o (lP 0 0),.f qI p1] [.bx 199 (lx199 p0)] (.i r.1) [.bx 199 (lx199 r.2)]:=by
 unfold yQ at hm;refine Fw.mk2 Tryz.func221 Tryz.ntmps221 R (fun C=>?_) R;refine .sr (.an R (.sr (.an R (.seq (.sr (.mv R (.ln sl32 R (.mv R (.ns (.block (bS hm fun p u hm=>?_)))))))))));refine .cut1 (z:= .exit 0) p (fun (p:List Int)=>⟨[(5,.h 1),(0,.q 0 0)],[(0,.bx 199 (lx199 p0)),(1,ROW qI 3 p)],2⟩) ?_ fun G=>?_
 ·skip
  refine .blkE (.seqN (.sr (.mv R (bS hm fun t v hm=> .op (O.ca (r':= .tp []) [1] [(0,ROW qI 3 t)] none (yaS v) cf206 R R Z R R R R ⟨⟨_,R,I4⟩,trivial⟩ I3 R) R (.ns (.seq (.fz 1 [29,5] [] R R fR R R ?_)))))));refine .sub (τ:=⟨[(5,.f qI t),(0,.q 0 0)],[(0,.bx 199 (lx199 p0))],2⟩) ?_ [] R;refine bS hm fun a w hm=>?_;refine .drz 3 [(13,2)] [(2,[],[],[]),(2,[oT],[],[]),(2,[oT,oT],[],[]),(2,[oT,oT,oT],[],[]),(2,[],[],[]),(2,[oF,oF,oF,oF,oT],[],[]),(2,[oF,oF,oF,oF,oT,oT],[],[]),(2,[oF,oF,oF,oF,oT,oT,oT],[],[]),(2,[],[],[]),(2,[oT,oT,oT,oT,oT,oT,oT,oT,oT],[],[]),(2,[oT,oT,oT,oT,oT,oT,oT,oT,oT,oT],[],[]),(2,[oT,oT,oT,oT,oT,oT,oT,oT,oT,oT,oT],[],[]),(2,[oT,oT,oT,oT,oT,oT,oT,oT,oT,oT,oT],[],[]),(2,[],[],[]),(3,[oT,oT,oT,oT,oT,oT,oT,oT,oT,oT,oT,oT,oF,oT],[],[]),(3,[oT,oT,oT,oT,oT,oT,oT,oT,oT,oT,oT,oT,oT,oT,oT],[],[(13,2)])] [_,_,_,_,_,_,_,_,_,_,_,_,_,_,_,_] ⟨[(9,.i a.2),(8,.q 2 0),(0,.q 0 0)],[(0,.bx 199 (lx199 p0)),(2,.bx 197 [lF rB a.1.1,lF rB a.1.2])],3⟩ ⟨O.mv Z R R,O.nc .B Z R R,O.faP ybi Z R R,O.lg (l':=(lx193 p0.2.1)) ag193 Z R (.B R) R R R,O.mv Z R R,O.nc .B Z R R,O.faP ya6 Z R R,O.lg (l':=[lF rB p0.2.2.2.1,lF rB p0.2.2.2.2]) ag197 Z R (.B R) R R R,O.mv Z R R,O.ca0 (ybr w) cf244 R R Z R R R,O.mv Z R R,O.ex Z R R R,O.ex Z R R R,O.al 2 R zz197 R Z R,O.st ag197.sz Z R R R R R,O.as Z R R,trivial⟩ (by kernel_rfl) R ?_;refine .seqN ?_;refine .join2 (fun (d:List Bool) (e:List Bool)=>y2B p0 a d e=some r) (fun d e=>⟨[(9,.i a.2)],[(0,.bx 199 [lF qI p0.1.1.1,lI p0.1.1.2.1,lF qI p0.1.1.2.2.1,lF qT p0.1.1.2.2.2,lF qI p0.1.2.1.1,lI p0.1.2.1.2.1,lF qI p0.1.2.1.2.2.1,lF qT p0.1.2.1.2.2.2,lF qI p0.1.2.2,lI p0.2.1.1.1,lI p0.2.1.1.2.1,lI p0.2.1.1.2.2.1,lF rB p0.2.1.1.2.2.2.1,lF rE302 p0.2.1.1.2.2.2.2,lF qI p0.2.1.2.1,lF qI p0.2.1.2.2.1,lI p0.2.1.2.2.2,lI p0.2.2.1,lF rB d,lF rB e])],1⟩) ?_ ?_
  ·intro d e hm;unfold y2B at hm;refine .sr (.mv R (.an R (.ret ?_)));cases hm;exact .rr [0] Tryz.results221 (.tmp R .nil) R I3 ⟨⟨_,R,I4⟩,trivial⟩
  ·intro j;refine .sr (.mv R (.bi R (.ns ?_)));exact .cc hm R (fun hm=> .reg (.mv R (.op (O.lg (l':=[lF rB a.1.1,lF rB a.1.2]) ag197 Z R (.B R) R R R) R (.op (O.nc .B Z R R) R (.fa ya6 R (.st ag197.sz R (.nil ((j _ _ hm).sub [] R)))))))) fun hm=> .skip ((j _ _ hm).sub [] R)
 refine .nlg qI 3 5 0 R R (.iter (fun (b:Int×List Int)=>⟨[(12,.i b.1),(11,.i (p1.length:Int)),(10,.f qI p1),(5,.h 1),(0,.q 0 0)],[(0,.bx 199 (lx199 p0)),(1,ROW qI 3 b.2)],2⟩) u [] R ?_);intro b s hm F E;unfold y1v at hm;refine .sr (.bi R (.ns (.seq ?_)));refine .cc hm R (fun hm=>?_) fun hm=> .exit (.seqX (.seqX ((G _ (E _ (oi hm).symm)).sub [] R)));refine .skip (.seqN ?_);refine .join1 (fun (g:List Int)=>y1u b g=some s) (fun g=>⟨[(5,.h 1),(12,.i b.1),(11,.i (p1.length:Int)),(10,.f qI p1),(0,.q 0 0)],[(0,.bx 199 (lx199 p0)),(1,ROW qI 3 g)],2⟩) ?_ ?_
 ·intro g hm;unfold y1u at hm;exact .reg (.bi R (.mv R (.nil ((F _ (oi hm).symm).sub [] R))))
 ·intro m;refine .block (.sr (bS hm fun H y hm=> .ix sl32 y R (.le nag3 lv3 R (.an R (.sr (.mv R (.op (O.nc .B Z R R) R (.fa y7k R (.fa y6B R (.fa yO R (.lb nag32 R (.mv R (bS hm fun I x hm=> .c0 (yg x) cf104 R (.ns ?_))))))))))))));exact .cc hm R (fun hm=> .reg (.mv R (.mv R (.op (O.bsF (r:=qI) (zs:=([H]:List Int)) bs32 R R Z R R R (.c .k .n) R R R) R (bS hm fun J D hm=> .op (O.ap 2 Tryz.underlying32 el3 R R Z R R (.fr R) D R) R (.sa R (.nil (.blkN ((m _ hm).sub [(1,2)] R))))))))) fun hm=> .skip (.blkN ((m _ hm).sub [] R))
def y4X(p0:CodT)(p1:List Bool×List Bool):Option Int:=
 if(((p1.1.length:Int) != p0.1.2.1)||((p1.2.length:Int) != p0.1.2.2.1)) then
  some 4
 else
  some 0
theorem y7n{p0:CodT}{p1:List Bool×List Bool}{r:Int}(hm:y4X p0 p1=some r):
    F0 245 [.a (lx193 p0),.a [lF rB p1.1,lF rB p1.2]] [] (.i r) []:=by
  unfold y4X at hm;refine Fw.mk2 Tryz.func245 Tryz.ntmps245 R (fun C=>?_) R;refine .sr (.bo 0 R (.bo 1 R (.an R (.seq (.sr (.fa ya5 R (.lb y2R R (.ln sl144 R (.fa ybf R (.fa y9k R (.lb nag3 R (.bi R (.mv R ?_)))))))))))));refine .cut 8 (fun (c:Bool)=>(((p1.1.length:Int) != p0.1.2.1)||((p1.2.length:Int) != p0.1.2.2.1))=c) (fun c=>⟨[(20,.b c)],[],2⟩) ?_ ?_
  · rintro _ rfl;refine .ns ?_;refine .cc hm R (fun hm=>?_) fun hm=>?_
    ·refine .sr (.an R (.ret (.seqR ?_)));cases hm;exact .rr [] Tryz.results245 (.tmp R .nil) R I3 trivial
    ·refine .skip (.seqN (.sr (.an R (.ret ?_))));cases hm;exact .rr [] Tryz.results245 (.tmp R .nil) R I3 trivial
  · intro e;rcases Bool.eq_false_or_eq_true ((p1.1.length:Int) != p0.1.2.1) with hc|hc
    · refine .know (d:=12) R hc ?_;exact .sk R (.sk R (.sk R (.sk R (.sk R (.sk R (.sk R (.op (O.pkT Z R R R R) R ((e true (orT hc).symm).sub [] R))))))))
    · refine .know (d:=12) R hc ?_;exact .op (O.faP ybh (Gu.mk R R) R R) R (.op (O.ld y2R (Gu.mk R R) R (.B R) R R) R (.op (O.len sl144 (Gu.mk R R) R R) R (.op (O.faP ybf (Gu.mk R R) R R) R (.op (O.faP ya4 (Gu.mk R R) R R) R (.op (O.ld nag3 (Gu.mk R R) R (.B R) R R) R (.op (O.bi (Gu.mk R R) R R R R) R (.op (O.pkF Z R R R R) R ((e ((p1.2.length:Int) != p0.1.2.2.1) (orF hc).symm).sub [] R))))))))
def y3q(a:Int×List Int)(b:List Int):Option ((Int×List Int)⊕(List Int)):=
 some (.inl (W (a.1+1),b))
def y3r(p0:CodT)(p1:List Bool×List Bool)(a:Int×List Int):Option ((Int×List Int)⊕(List Int)):=
 if decide (a.1<(p0.2.2.1.length:Int)) then
  (idx p0.2.2.1 a.1).bind fun b=>
  (idx p1.1 a.1).bind fun c=>
  if c then
   (app a.2 ([b]:List Int)).bind fun d=>
   y3q a d
  else
   y3q a a.2
 else
  some (.inr a.2)
def y3B(p0:CodT)(p1:List Bool×List Bool):Option (List Int×Int):=
 (y4X p0 p1).bind fun b=>
 if(b != 0) then
  some (([]:List Int),b)
 else
  (iter (y3r p0 p1) (0,([]:List Int))).bind fun a=>
  some (a,0)
theorem yaw{p0:CodT}{p1:List Bool×List Bool}{r:List Int×Int}(hm:y3B p0 p1=some r):
    F0 222 [.a (lx193 p0),.a [lF rB p1.1,lF rB p1.2]] [] (.tp [.h 0,.i r.2]) [ROW qI 3 r.1]:=by
  unfold y3B at hm;refine Fw.mk2 Tryz.func222 Tryz.ntmps222 R (fun C=>?_) R;refine .sr (.bo 0 R (.bo 1 R (.sa R (.an R (.seq (.sr (.op (O.lg (l':=(lx193 p0)) ag193 Z R (.B R) R R R) R (.op (O.lg (l':=[lF rB p1.1,lF rB p1.2]) ag197 Z R (.B R) R R R) R (bS hm fun E w hm=> .c0 (y7n w) cf245 R (.an R (.sr (.mv R (.bi R (.ns ?_))))))))))))));refine .cc hm R (fun hm=>?_) fun hm=>?_
  ·refine .sr (.mv R (.sa R (.an R (.ret (.seqR (.nlg qI 3 4 0 R R ?_))))));cases hm;exact .rr [2] Tryz.results222 (.tmp R (.tmp R .nil)) R I3 ⟨⟨_,R,I4⟩,trivial⟩
  ·refine .skip (.seqN (.sr (.an R (.seq (.sr (.fa yeB R (.lb nag32 R (.ln sl32 R (.mv R (.ns (.block (bS hm fun g m hm=>?_))))))))))));refine .cut1 (z:= .exit 0) g (fun (g:List Int)=>⟨[(7,.h 0)],[(0,ROW qI 3 g)],1⟩) ?_ fun v=>?_
   · skip
     refine .blkE (.seqN (.sr (.mv R (.sa R (.an R (.ret ?_))))));cases hm;exact .rr [0] Tryz.results222 (.tmp R (.tmp R .nil)) R I3 ⟨⟨_,R,I4⟩,trivial⟩
   refine .nlg qI 3 7 0 R R (.iter (fun (b:Int×List Int)=>⟨[(19,.i b.1),(18,.i (p0.2.2.1.length:Int)),(17,.f qI p0.2.2.1),(7,.h 0),(3,.q 1 0)],[(0,ROW qI 3 b.2),(1,.bx 197 [lF rB p1.1,lF rB p1.2])],2⟩) m [(0,2)] R ?_);intro b j hm u t;unfold y3r at hm;refine .sr (.bi R (.ns (.seq ?_)));refine .cc hm R (fun hm=>?_) fun hm=> .exit (.seqX (.seqX ((v _ (t _ (oi hm).symm)).sub [] R)));refine .skip (.seqN ?_);refine .join1 (fun (d:List Int)=>y3q b d=some j) (fun d=>⟨[(7,.h 0),(19,.i b.1),(18,.i (p0.2.2.1.length:Int)),(17,.f qI p0.2.2.1),(3,.q 1 0)],[(0,ROW qI 3 d),(1,.bx 197 [lF rB p1.1,lF rB p1.2])],2⟩) ?_ ?_
   · intro d hm;unfold y3q at hm;exact .reg (.bi R (.mv R (.nil ((u _ (oi hm).symm).sub [] R))))
   · intro e;refine .block (.sr (.mv R (bS hm fun x o hm=> .ix sl32 o R (.le nag3 lv3 R (.sa R (.an R (.sr (.fa ya5 R (.lb y2R R (.mv R (bS hm fun y p hm=> .ix sl144 p R (.le nag4 lv4 R (.ns ?_)))))))))))));exact .cc hm R (fun hm=> .reg (.mv R (.mv R (.op (O.bsF (r:=qI) (zs:=([x]:List Int)) bs32 R R Z R R R (.c .k .n) R R R) R (bS hm fun D s hm=> .op (O.ap 2 Tryz.underlying32 el3 R R Z R R (.fr R) s R) R (.sa R (.nil (.blkN ((e _ hm).sub [(0,2)] R))))))))) fun hm=> .skip (.blkN ((e _ hm).sub [] R))
def y4k(p0:BenT)(p1:Int)(p2:List Int):Option Bool:=
 (y1z p0 p1).bind fun c=>
 (if decide (c≥0) then
  (yd p2 p1).bind fun d=>
  (if d then
   some true
  else
   (yd p0.1.2.1.1 p1).bind fun e=>
   some (!e)).bind fun b=>
  some b
 else
  some false).bind fun a=>
 some a
theorem y9w{p0:BenT}{p1:Int}{p2:List Int}{r:Bool}(hm:y4k p0 p1 p2=some r):
  F0 224 [.o (lQ 199 (lx199 p0) 0),.i p1,.f qI p2] [] (.b r) []:=by
 unfold y4k at hm;refine Fw.mk2 Tryz.func224 Tryz.ntmps224 R (fun C=>?_) R;refine .sr (.an R (.sr (.mv R (.mv R (bS hm fun p j hm=> .c0 (y5J j) cf219 R (.bi R (.mv R (bS hm fun m eb2 hm=>?_))))))));refine .cut 15 (fun (a:Bool)=>m=a) (fun a=>⟨[(26,.b a)],[],0⟩) ?_ ?_
 ·rintro _ rfl;refine .an R (.ret ?_);cases hm;exact .rr [] Tryz.results224 (.tmp R .nil) R I3 trivial
 ·intro e;rcases ifS eb2 with ⟨hc,hm⟩|⟨hc,hm⟩
  ·refine .know (d:=11) R hc ?_;refine .op (O.mv (Gu.mk R R) R R) R (.op (O.mv (Gu.mk R R) R R) R (bS hm fun q k hm=> .op (O.ca0 (yg k) cf104 R R (Gu.mk R R) R R R) R (.op (O.mv (Gu.mk R R) R R) R (bS hm fun h eb6 hm=>?_))));refine .cut 10 (fun (c:Bool)=>h=c) (fun c=>⟨[(25,.b c),(11,.b true)],[],0⟩) ?_ ?_
   ·rintro _ rfl;exact .op (O.pkT Z R R R R) R ((e h (oi hm).symm).sub [] R)
   ·intro g;rcases ifS eb6 with ⟨hc,hm⟩|⟨hc,hm⟩
    ·refine .know (d:=15) R hc ?_;exact .sk R (.sk R (.sk R (.sk R (.sk R (.sk R (.sk R (.sk R (.sk R (.op (O.pkT (Gu.mk R R) R R R R) R ((g true (oi hm).symm).sub [] R))))))))))
    ·refine .know (d:=15) R hc ?_;exact .op (O.mv (Gu.mk R R) R R) R (.op (O.nc .Q (Gu.mk R R) R R) R (.op (O.faQ y7k (Gu.mk R R) R R) R (.op (O.faQ y6B (Gu.mk R R) R R) R (.op (O.faQ yO (Gu.mk R R) R R) R (.op (O.ld nag32 (Gu.mk R R) R .Q R R) R (.op (O.mv (Gu.mk R R) R R) R (bS hm fun n l hm=> .op (O.ca0 (yg l) cf104 R R (Gu.mk R R) R R R) R (.op (O.not (Gu.mk R R) R R) R (.op (O.pkF (Gu.mk R R) R R R R) R ((g (!n) (oi hm).symm).sub [] R))))))))))
  ·refine .know (d:=11) R hc ?_;exact .sk R (.sk R (.sk R (.sk R (.op (O.skipU R R R) R (.op (O.skipU R R R) R (.op (O.skipU R R R) R (.op (O.skipU R R R) R (.op (O.skipU R R R) R (.op (O.skipU R R R) R (.op (O.skipU R R R) R (.op (O.skipU R R R) R (.op (O.skipU R R R) R (.sk R (.op (O.pkF Z R R R R) R ((e false (oi hm).symm).sub [] R)))))))))))))))
def yl(a:Option BenT)(b:StpT)(p0:Int):Option Bool:=
 a.bind fun d=>
 (y4k d p0 b.2.2.1).bind fun c=>
 some c
theorem y8q{e:Option BenT}{f:StpT}{p0:Int}{r:Bool}(hm:yl e f p0=some r):
  F0 223 [.i p0,.o (lQ 276 [lK rE199 199 e] 0),.o (lQ 100 (lx100 f) 0)] [] (.b r) []:=by
 unfold yl at hm;refine Fw.mk2 Tryz.func223 Tryz.ntmps223 R (fun C=>?_) R;refine .sr (.an R (.sr (.lq y4P R (.mv R (.fq ya7 R (.lq nag32 R (bS hm fun h d hm=> .cnt 5 R (.c (.pd d lv199) .n) R (bS hm fun g a hm=> .c0 (y9w a) cf224 R (.an R (.ret ?_))))))))));cases hm;exact .rr [] Tryz.results223 (.tmp R .nil) R I3 trivial
def y1i(a:BenT×Int×Bool×List Int)(d:BenT)(b:Bool)(c:List Int):Option ((BenT×Int×Bool×List Int)⊕(BenT×Bool×List Int)):=
 some (.inl (d,W (a.2.1+1),b,c))
def y2U(p1:List Int)(p2:Int)(a:BenT×Int×Bool×List Int):Option ((BenT×Int×Bool×List Int)⊕(BenT×Bool×List Int)):=
 if decide (a.2.1<(p1.length:Int)) then
  (idx p1 a.2.1).bind fun c=>
  (y2f a.1 c).bind fun b=>
  if b.1 then
   (app a.2.2.2 ([c]:List Int)).bind fun f=>
   (if a.2.2.1 then
    (y1z b.2 p2).bind fun e=>
    some (decide (e≥0))
   else
    some false).bind fun d=>
   y1i a b.2 d f
  else
   y1i a b.2 a.2.2.1 a.2.2.2
 else
  some (.inr (a.1,a.2.2))
def y3R(p0:BenT)(p1:List Int)(p2:Int):Option (List Int×Bool×BenT):=
 (iter (y2U p1 p2) (p0,0,(p2 != (-1)),([]:List Int))).bind fun a=>
 some (a.2.2,a.2.1,a.1)
theorem y9a{p0:BenT}{p1:List Int}{p2:Int}{r:List Int×Bool×BenT}(hm:y3R p0 p1 p2=some r):
  Fw Tryz.prog 225 ⟨1,[0]⟩ [.o (lP 0 0),.f qI p1,.i p2] [.bx 199 (lx199 p0)] (.tp [.h 1,.b r.2.1]) [.bx 199 (lx199 r.2.2),ROW qI 3 r.1]:=by
 unfold y3R at hm;refine Fw.mk2 Tryz.func225 Tryz.ntmps225 R (fun C=>?_) R;refine .sr (.sa R (.an R (.sr (.mv R (.bi R (.an R (.seq (.sr (.mv R (.ln sl32 R (.mv R (.ns (.block (bS hm fun e v hm=>?_))))))))))))));refine .cut1 (z:= .exit 0) e (fun (e:BenT×Bool×List Int)=>⟨[(7,.b e.2.1),(6,.h 1)],[(0,.bx 199 (lx199 e.1)),(1,ROW qI 3 e.2.2)],2⟩) ?_ fun F=>?_
 ·skip
  refine .blkE (.seqN (.sr (.mv R (.mv R (.sa R (.an R (.ret ?_)))))));cases hm;exact .rr [0,1] Tryz.results225 (.tmp R (.tmp R .nil)) R I3 ⟨⟨_,R,I4⟩,⟨_,R,I4⟩,trivial⟩
 refine .nlg qI 3 6 0 R R (.iter (fun (a:BenT×Int×Bool×List Int)=>⟨[(14,.i a.2.1),(13,.i (p1.length:Int)),(12,.f qI p1),(7,.b a.2.2.1),(6,.h 1),(0,.q 0 0),(2,.i p2)],[(0,.bx 199 (lx199 a.1)),(1,ROW qI 3 a.2.2.2)],2⟩) v [] R ?_);intro a t hm E D;unfold y2U at hm;refine .sr (.bi R (.ns (.seq ?_)));refine .cc hm R (fun hm=>?_) fun hm=> .exit (.seqX (.seqX ((F _ (D _ (oi hm).symm)).sub [] R)));refine .skip (.seqN ?_);refine .join3 (fun (l:BenT) (g:Bool) (j:List Int)=>y1i a l g j=some t) (fun l g j=>⟨[(7,.b g),(6,.h 1),(14,.i a.2.1),(13,.i (p1.length:Int)),(12,.f qI p1),(0,.q 0 0),(2,.i p2)],[(0,.bx 199 (lx199 l)),(1,ROW qI 3 j)],2⟩) ?_ ?_
 ·intro l g j hm;unfold y1i at hm;exact .reg (.bi R (.mv R (.nil ((E _ (oi hm).symm).sub [] R))))
 ·intro m;refine .block (.sr (bS hm fun I y hm=> .ix sl32 y R (.le nag3 lv3 R (.an R (.sr (.mv R (.mv R (bS hm fun p w hm=> .op (O.ca (r':= .b p.1) [0] [(0,.bx 199 (lx199 p.2))] none (y5V w) cf186 R R Z R R R R ⟨⟨_,R,I4⟩,trivial⟩ I3 R) R (.ns ?_)))))))));refine .cc hm R (fun hm=>?_) fun hm=> .skip (.blkN ((m _ _ _ hm).sub [] R));refine .sr (.mv R (.mv R (.op (O.bsF (r:=qI) (zs:=([I]:List Int)) bs32 R R Z R R R (.c .k .n) R R R) R (bS hm fun J B hm=> .op (O.ap 2 Tryz.underlying32 el3 R R Z R R (.fr R) B R) R (.an R (.reg (.mv R (.mv R (bS hm fun G eb32 hm=>?_)))))))));refine .cut 5 (fun (s:Bool)=>G=s) (fun s=>⟨[(31,.b s),(6,.h 2),(14,.i a.2.1),(13,.i (p1.length:Int)),(12,.f qI p1),(0,.q 0 0),(2,.i p2)],[(0,.bx 199 (lx199 p.2)),(2,ROW qI 3 J)],3⟩) ?_ ?_
  ·rintro _ rfl;exact .sa R (.nil (.blkN ((m _ _ _ hm).sub [(1,2)] R)))
  ·intro u;rcases ifS eb32 with ⟨hc,hm⟩|⟨hc,hm⟩
   ·refine .know (d:=26) R hc ?_;exact .op (O.mv (Gu.mk R R) R R) R (.op (O.mv (Gu.mk R R) R R) R (bS hm fun H x hm=> .op (O.caZ (y5J x) cf219 R R (Gu.mk R R) R ⟨⟨R,(.q R LnL.rf),trivial⟩,⟨R,LnL.rf⟩,trivial⟩ (fun _ _ _ _ _ h=>h) R) R (.op (O.bi (Gu.mk R R) R R R R) R (.op (O.pkT Z R R R R) R ((u (decide (H≥0)) (oi hm).symm).sub [] R)))))
   ·refine .know (d:=26) R hc ?_;exact .sk R (.sk R (.sk R (.sk R (.op (O.pkF Z R R R R) R ((u false (oi hm).symm).sub [] R)))))
def y4f(a:Int×Int×Int)(b:Int)(c:Int):Option ((Int×Int×Int)⊕(Int×Int)):=
 some (.inl (W (a.1+1),b,c))
def y4g(b:List Bool)(a:Int×Int×Int):Option ((Int×Int×Int)⊕(Int×Int)):=
 if decide (a.1<(b.length:Int)) then
  (idx b a.1).bind fun c=>
  if c then
   y4f a (W (a.2.1+1)) a.1
  else
   y4f a a.2.1 a.2.2
 else
  some (.inr a.2)
def y5X(p0:CodT)(p1:List Bool×List Bool):Option (Int×Int):=
 (y4X p0 p1).bind fun b=>
 if(b != 0) then
  some (0,b)
 else
  (slc p1.2 0 p0.2.2.2).bind fun c=>
  (iter (y4g c) (0,0,0)).bind fun a=>
  if(a.1 != 1) then
   some (0,22)
  else
   some (a.2,0)
theorem yb5{p0:CodT}{p1:List Bool×List Bool}{r:Int×Int}(hm:y5X p0 p1=some r):
    F0 226 [.a (lx193 p0),.a [lF rB p1.1,lF rB p1.2]] [] (.tp [.i r.1,.i r.2]) []:=by
  unfold y5X at hm;refine Fw.mk2 Tryz.func226 Tryz.ntmps226 R (fun C=>?_) R;refine .sr (.bo 0 R (.bo 1 R (.sa R (.an R (.seq (.sr (.op (O.lg (l':=(lx193 p0)) ag193 Z R (.B R) R R R) R (.op (O.lg (l':=[lF rB p1.1,lF rB p1.2]) ag197 Z R (.B R) R R R) R (bS hm fun u q hm=> .c0 (y7n q) cf245 R (.an R (.sr (.mv R (.bi R (.ns ?_))))))))))))));refine .cc hm R (fun hm=>?_) fun hm=>?_
  ·refine .sr (.mv R (.sa R (.an R (.ret (.seqR ?_)))));cases hm;exact .rr [] Tryz.results226 (.tmp R (.tmp R .nil)) R I3 trivial
  ·refine .skip (.seqN (.sr (.an R (.seq (.sr (.fa ybh R (.lb y2R R (.fa yhD R (.lb nag3 R (bS hm fun j s hm=> .op (O.sh sl144 Z R R s R) R (.ln sl144 R (.mv R (.ns (.block (bS hm fun e k hm=>?_)))))))))))))));refine .cut1 (z:= .exit 0) e (fun (e:Int×Int)=>⟨[(7,.i e.1),(4,.i e.2)],[],0⟩) ?_ fun p=>?_
   · skip
     refine .blkE (.seqN (.seq (.sr (.mv R (.bi R (.ns ?_))))));refine .cc hm R (fun hm=>?_) fun hm=>?_
     ·refine .sr (.sa R (.an R (.ret (.seqR ?_))));cases hm;exact .rr [] Tryz.results226 (.tmp R (.tmp R .nil)) R I3 trivial
     ·refine .skip (.seqN (.sr (.mv R (.sa R (.an R (.ret ?_))))));cases hm;exact .rr [] Tryz.results226 (.tmp R (.tmp R .nil)) R I3 trivial
   refine .iter (fun (b:Int×Int×Int)=>⟨[(22,.i b.1),(21,.i (j.length:Int)),(20,.f rB j),(7,.i b.2.1),(4,.i b.2.2)],[],0⟩) k [] R ?_;intro b h hm o n;unfold y4g at hm;refine .sr (.bi R (.ns (.seq ?_)));refine .cc hm R (fun hm=>?_) fun hm=> .exit (.seqX (.seqX ((p _ (n _ (oi hm).symm)).sub [] R)));refine .skip (.seqN ?_);refine .join2 (fun (c:Int) (d:Int)=>y4f b c d=some h) (fun c d=>⟨[(7,.i c),(4,.i d),(22,.i b.1),(21,.i (j.length:Int)),(20,.f rB j)],[],0⟩) ?_ ?_
   · intro c d hm;unfold y4f at hm;exact .reg (.bi R (.mv R (.nil ((o _ (oi hm).symm).sub [] R))))
   · intro g;refine .block (.sr (.mv R (bS hm fun t m hm=> .ix sl144 m R (.le nag4 lv4 R (.sa R (.an R (.sr (.mv R (.ns ?_)))))))));exact .cc hm R (fun hm=> .reg (.mv R (.mv R (.bi R (.sa R (.sa R (.nil (.blkN ((g _ _ hm).sub [] R))))))))) fun hm=> .skip (.blkN ((g _ _ hm).sub [] R))
def y5A(p0:CodT)(p1:List Bool×List Bool):Option (Bool×Int):=
 (y4X p0 p1).bind fun a=>
 if(a != 0) then
  some (false,a)
 else
  (idx p1.1 (p0.2.2.1.length:Int)).bind fun b=>
  some (b,0)
theorem yax{p0:CodT}{p1:List Bool×List Bool}{r:Bool×Int}(hm:y5A p0 p1=some r):
    F0 227 [.a (lx193 p0),.a [lF rB p1.1,lF rB p1.2]] [] (.tp [.b r.1,.i r.2]) []:=by
  unfold y5A at hm;refine Fw.mk2 Tryz.func227 Tryz.ntmps227 R (fun C=>?_) R;refine .sr (.bo 0 R (.bo 1 R (.sa R (.an R (.seq (.sr (.op (O.lg (l':=(lx193 p0)) ag193 Z R (.B R) R R R) R (.op (O.lg (l':=[lF rB p1.1,lF rB p1.2]) ag197 Z R (.B R) R R R) R (bS hm fun e c hm=> .c0 (y7n c) cf245 R (.an R (.sr (.mv R (.bi R (.ns ?_))))))))))))));refine .cc hm R (fun hm=>?_) fun hm=>?_
  ·refine .sr (.mv R (.sa R (.an R (.ret (.seqR ?_)))));cases hm;exact .rr [] Tryz.results227 (.tmp R (.tmp R .nil)) R I3 trivial
  ·refine .skip (.seqN (.sr (.fa ya5 R (.lb y2R R (.fa yeB R (.lb nag32 R (.ln sl32 R (bS hm fun f d hm=> .ix sl144 d R (.le nag4 lv4 R (.sa R (.an R (.ret ?_))))))))))));cases hm;exact .rr [] Tryz.results227 (.tmp R (.tmp R .nil)) R I3 trivial
def y1J(d:BenT×List Int)(e:List Int×Int)(f:Int)(b:List Int×Bool×BenT)(a:BenT):Option (StpT×Int×BenT):=
 (y5X a.2.1 a.2.2.2).bind fun c=>
 if(c.2 != 0) then
  some ((d.2,b.1,e.1,f,b.2.1,c.1,false),c.2,a)
 else
  (y5A a.2.1 a.2.2.2).bind fun g=>
  some ((d.2,b.1,e.1,f,b.2.1,c.1,g.1),g.2,a)
def y1K(c:BenT×List Int)(d:List Int×Int)(b:Int)(a:List Int×Bool×BenT)(g:BenT):Option (StpT×Int×BenT):=
 (yQ g a.1).bind fun e=>
 if(e.1 != 0) then
  some ((c.2,a.1,d.1,b,a.2.1,0,false),e)
 else
  if a.2.1 then
   (yQ e.2 ([b]:List Int)).bind fun f=>
   if(f.1 != 0) then
    some ((c.2,a.1,d.1,b,a.2.1,0,false),f)
   else
    y1J c d b a f.2
  else
   y1J c d b a e.2
def y1L(a:BenT×Int×List Int)(c:BenT)(b:List Int):Option ((BenT×Int×List Int)⊕(BenT×List Int)):=
 some (.inl (c,W (a.2.1+1),b))
def y1M(p1:CycT)(a:BenT×Int×List Int):Option ((BenT×Int×List Int)⊕(BenT×List Int)):=
 if decide (a.2.1<(p1.1.length:Int)) then
  (idx p1.1 a.2.1).bind fun c=>
  (y2f a.1 c).bind fun b=>
  if b.1 then
   (app a.2.2 ([c]:List Int)).bind fun d=>
   y1L a b.2 d
  else
   y1L a b.2 a.2.2
 else
  some (.inr (a.1,a.2.2))
def y2C(p0:BenT)(p1:CycT)(p2:(Int→Option Bool)→Option Int):Option (StpT×Int×BenT):=
 (iter (y1M p1) (p0,0,([]:List Int))).bind fun a=>
 (yQ a.1 a.2).bind fun b=>
 if(b.1 != 0) then
  some ((a.2,([]:List Int),([]:List Int),0,false,0,false),b)
 else
  (y3B b.2.2.1 b.2.2.2.2).bind fun c=>
  if(c.2 != 0) then
   some ((a.2,([]:List Int),c.1,0,false,0,false),c.2,b.2)
  else
   (p2 (yl (some b.2) (a.2,([]:List Int),c.1,0,false,0,false))).bind fun e=>
   (y3R b.2 p1.2.1 e).bind fun d=>
   if d.2.1 then
    (y2f d.2.2 e).bind fun f=>
    y1K a c e d f.2
   else
    y1K a c e d d.2.2
theorem y6G{p0:BenT}{p1:CycT}{p2:(Int→Option Bool)→Option Int}{r:StpT×Int×BenT}(hm:y2C p0 p1 p2=some r):
    Fw Tryz.prog 192 ⟨1,[0]⟩ [.o (lP 0 0),.a [lF qI p1.1,lF qI p1.2.1,lI p1.2.2],.o (lW Tryz.prog (fun (x:(Int→Option Bool))=> [.o (lW Tryz.prog (fun (x:Int)=> [.i x]) (fun (r:Bool)=> .b r) x)]) (fun (r:Int)=> .i r) p2)] [.bx 199 (lx199 p0)] (.tp [.a [lF qI r.1.1,lF qI r.1.2.1,lH 1,lI r.1.2.2.2.1,lB r.1.2.2.2.2.1,lI r.1.2.2.2.2.2.1,lB r.1.2.2.2.2.2.2],.i r.2.1]) [.bx 199 (lx199 r.2.2),ROW qI 3 r.1.2.2.1]:=by
  unfold y2C at hm;refine Fw.mk2 Tryz.func192 Tryz.ntmps192 R (fun C=>?_) R;refine .sr (.bo 1 R (.bo 2 R (.al 3 zz100 R (.an R (.seq (.sr (.fa yew R (.lb nag32 R (.ln sl32 R (.mv R (.ns (.block (bS hm fun e N hm=>?_)))))))))))));refine .cut1 (z:= .exit 0) e (fun (e:BenT×List Int)=>⟨[(6,.q 1 0),(4,.q 3 0),(3,.q 4 0),(2,.o (lW Tryz.prog (fun (x:(Int→Option Bool))=> [.o (lW Tryz.prog (fun (x:Int)=> [.i x]) (fun (r:Bool)=> .b r) x)]) (fun (r:Int)=> .i r) p2))],[(0,.bx 199 (lx199 e.1)),(1,.bx 100 [lH 2,lN,lN,lI 0,lB false,lI 0,lB false]),(2,ROW qI 3 e.2),(3,.bx 114 [lF qI p1.1,lF qI p1.2.1,lI p1.2.2]),(4,.bx 276 [lP 0 0])],5⟩) ?_ fun a5=>?_
  · skip
    refine .blkE (.seqN (.seq (.sr (.lb y4P R (.fa y9m R (.lb nag32 R (.fz 2 [29] [1] R R fR R R (bS hm fun s P hm=> .op (O.ca (r':= .i s.1) [0] [(0,.bx 199 (lx199 s.2))] none (y5z P) cf221 R R Z R R R R ⟨⟨_,R,I4⟩,trivial⟩ I3 R) R (.an R (.sr (.mv R (.bi R (.ns ?_)))))))))))));refine .cc hm R (fun hm=>?_) fun hm=>?_
    ·refine .sr (.op (O.lg (l':=[lF qI e.2,lN,lN,lI 0,lB false,lI 0,lB false]) ag100 Z R (.B R) R R R) R (.mv R (.st ag100.sz R (.an R (.ret (.seqR (.nlb qI 3 1 2 R R (.cno 1 R (.c .rf (.c (.nf (r:=qI)) .rf)) R ?_))))))));cases hm;exact .rr [0,5] Tryz.results192 (.cell R R ag100 R (.tmp R .nil)) R I3 ⟨⟨_,R,I4⟩,⟨_,R,I4⟩,trivial⟩
    ·refine .skip (.seqN (.seq (.seq ?_)));refine .sub (τ:=⟨[(6,.q 1 0),(4,.q 3 0),(3,.q 4 0),(2,.o (lW Tryz.prog (fun (x:(Int→Option Bool))=> [.o (lW Tryz.prog (fun (x:Int)=> [.i x]) (fun (r:Bool)=> .b r) x)]) (fun (r:Int)=> .i r) p2))],[(0,.bx 199 (lx199 s.2)),(1,.bx 100 [lF qI e.2,lN,lN,lI 0,lB false,lI 0,lB false]),(3,.bx 114 [lF qI p1.1,lF qI p1.2.1,lI p1.2.2]),(4,.bx 276 [lP 0 0])],5⟩) ?_ [] R;refine bS hm fun g Q hm=>?_;refine .drd 6 [(5,[],[]),(5,[oT],[]),(5,[oT,oT],[]),(5,[oT,oT,oT],[]),(5,[],[]),(5,[oF,oF,oF,oF,oT],[]),(5,[oF,oF,oF,oF,oT,oT],[]),(5,[oF,oF,oF,oF,oT,oT,oT],[]),(5,[oT,oT,oT,oT,oT,oT,oT,oT],[]),(6,[oT,oT,oT,oT,oT,oT,oT,oT,oT],[]),(6,[oT,oT,oT,oT,oT,oT,oT,oT,oT,oT],[]),(6,[oT,oT,oT,oT,oT,oT,oT,oT,oT,oT],[1]),(6,[oT,oT,oT,oT,oT,oT,oT,oT,oT,oT,oT],[]),(6,[oT,oT,oT,oT,oT,oT,oT,oT,oT,oT,oT,oF,oT],[]),(6,[oT,oT,oT,oT,oT,oT,oT,oT,oT,oT,oT,oT,oT,oT],[])] [_,_,_,_,_,_,_,_,_,_,_,_,_,_,_] ⟨[(7,.i g.2),(6,.q 1 0),(4,.q 3 0),(3,.q 4 0),(2,.o (lW Tryz.prog (fun (x:(Int→Option Bool))=> [.o (lW Tryz.prog (fun (x:Int)=> [.i x]) (fun (r:Bool)=> .b r) x)]) (fun (r:Int)=> .i r) p2))],[(0,.bx 199 (lx199 s.2)),(1,.bx 100 [lF qI e.2,lN,lH 5,lI 0,lB false,lI 0,lB false]),(5,ROW qI 3 g.1),(3,.bx 114 [lF qI p1.1,lF qI p1.2.1,lI p1.2.2]),(4,.bx 276 [lP 0 0])],6⟩ ⟨O.ld y4P Z R (.B R) R R,O.nc .B Z R R,O.faP ybi Z R R,O.lg (l':=(lx193 s.2.2.1)) ag193 Z R (.B R) R R R,O.ld y4P Z R (.B R) R R,O.nc .B Z R R,O.faP ya6 Z R R,O.lg (l':=[lF rB s.2.2.2.2.1,lF rB s.2.2.2.2.2]) ag197 Z R (.B R) R R R,O.ca (r':= .tp [.h 5,.i g.2]) [5] [(0,ROW qI 3 g.1)] (some 6) (yaw Q) cf222 R R Z R R R R ⟨⟨_,R,I4⟩,trivial⟩ I3 R,O.mv Z R R,O.ex Z R R R,O.ex Z R R R,O.faP ya7 Z R R,O.st nag32.sz Z R R R R R,O.as Z R R,trivial⟩ (by kernel_rfl) R ?_;refine .seqN (.sr (.mv R (.bi R (.ns ?_))));refine .cc hm R (fun hm=>?_) fun hm=>?_
     ·refine .sr (.op (O.lg (l':=[lF qI e.2,lN,lH 5,lI 0,lB false,lI 0,lB false]) ag100 Z R (.B R) R R R) R (.mv R (.st ag100.sz R (.an R (.ret (.seqR (.cno 1 R (.c .rf (.c (.nf (r:=qI)) .rf)) R ?_)))))));cases hm;exact .rr [0,5] Tryz.results192 (.cell R R ag100 R (.tmp R .nil)) R I3 ⟨⟨_,R,I4⟩,⟨_,R,I4⟩,trivial⟩
     ·refine .skip (.seqN (.sr (.mv R (.op (O.mz (l:=[lP 4 0,lP 1 0]) Z R R) R (bS hm fun m S hm=>?_)))));refine .op (O.fvZ (args:=(fun (x:(Int→Option Bool))=> [.o (lW Tryz.prog (fun (x:Int)=> [.i x]) (fun (r:Bool)=> .b r) x)])) (res:=(fun (r:Int)=> .i r)) (y:=(yl (some s.2) (e.2,([]:List Int),g.1,0,false,0,false))) R R R Z R ⟨⟨R,(.z (l':=[lQ 276 [lK rE199 199 (some s.2)] 0,lQ 100 [lF qI e.2,lF qI [],lF qI g.1,lI 0,lB false,lI 0,lB false] 0]) cf223 (fun x r h=>y8q h) (fun _=>R) R ⟨(.q R ⟨(.cv (.q R LnL.rf) (.pk (r:=rE199) (.p (.p (.p .l (.p .k (.p .l .l))) (.p (.p .l (.p .k (.p .l .l))) .l)) (.p (.p (.p .k (.p .k (.p .k (.p .l .l)))) (.p .l (.p .l .k))) (.p .k (.p .l .l)))))),trivial⟩),(.q R ⟨.rf,(.cv .rf (.nf (r:=qI))),.hr R,.rf,.rf,.rf,.rf,trivial⟩),trivial⟩),trivial⟩,trivial⟩ S (fun _ _ _ _ _ h=>h) R) R ?_;refine .fa y7l R (.st nag3.sz R (.nr (.lb y4P R (.fa yex R (.lb nag32 R (.fa y7l R (.lb nag3 R (bS hm fun d T hm=> .op (O.ca (r':= .tp [.h 6,.b d.2.1]) [0,6] [(0,.bx 199 (lx199 d.2.2)),(1,ROW qI 3 d.1)] (some 7) (y9a T) cf225 R R Z R R R R ⟨⟨_,R,I4⟩,⟨_,R,I4⟩,trivial⟩ I3 R) R (.mv R (.ex R (.ex R (.fa ya8 R (.st nag32.sz R (.fa y8d R (.st nag4.sz R (.ns ?_))))))))))))))));refine .join1 (fun (w:BenT)=>y1K e g m d w=some r) (fun w=>⟨[(6,.q 1 0),(3,.q 4 0)],[(0,.bx 199 (lx199 w)),(1,.bx 100 [lF qI e.2,lH 2,lH 3,lI m,lB d.2.1,lI 0,lB false]),(2,ROW qI 3 d.1),(3,ROW qI 3 g.1),(4,.bx 276 [lP 0 0])],5⟩) ?_ ?_
      · intro w hm;unfold y1K at hm;refine .seq (.sr (.lb y4P R (.fa ya8 R (.lb nag32 R (.fz 2 [75] [1] R R fR R R (bS hm fun J U hm=> .op (O.ca (r':= .i J.1) [0] [(0,.bx 199 (lx199 J.2))] none (y5z U) cf221 R R Z R R R R ⟨⟨_,R,I4⟩,trivial⟩ I3 R) R (.an R (.sr (.mv R (.bi R (.ns ?_)))))))))));refine .cc hm R (fun hm=>?_) fun hm=>?_
        ·refine .sr (.op (O.lg (l':=[lF qI e.2,lF qI d.1,lH 3,lI m,lB d.2.1,lI 0,lB false]) ag100 Z R (.B R) R R R) R (.mv R (.st ag100.sz R (.an R (.ret (.seqR ?_))))));cases hm;exact .rr [0,3] Tryz.results192 (.cell R R ag100 R (.tmp R .nil)) R I3 ⟨⟨_,R,I4⟩,⟨_,R,I4⟩,trivial⟩
        ·refine .skip (.seqN ?_);refine .join1 (fun (j:BenT)=>y1J e g m d j=some r) (fun j=>⟨[(6,.q 1 0),(3,.q 3 0)],[(0,.bx 199 (lx199 j)),(1,.bx 100 [lF qI e.2,lF qI d.1,lH 2,lI m,lB d.2.1,lI 0,lB false]),(2,ROW qI 3 g.1),(3,.bx 276 [lP 0 0])],4⟩) ?_ ?_
         · intro j hm;unfold y1J at hm;refine .seq (.seq ?_);refine .sub (τ:=⟨[(6,.q 1 0),(3,.q 3 0)],[(0,.bx 199 (lx199 j)),(1,.bx 100 [lF qI e.2,lF qI d.1,lH 2,lI m,lB d.2.1,lI 0,lB false]),(2,ROW qI 3 g.1),(3,.bx 276 [lP 0 0])],4⟩) ?_ [] R;refine bS hm fun u V hm=>?_;refine .drd 4 [(4,[],[]),(4,[oT],[]),(4,[oT,oT],[]),(4,[oT,oT,oT],[]),(4,[],[]),(4,[oF,oF,oF,oF,oT],[]),(4,[oF,oF,oF,oF,oT,oT],[]),(4,[oF,oF,oF,oF,oT,oT,oT],[]),(4,[oT,oT,oT,oT,oT,oT,oT,oT],[]),(4,[oT,oT,oT,oT,oT,oT,oT,oT,oT],[]),(4,[oT,oT,oT,oT,oT,oT,oT,oT,oT,oT],[]),(4,[oT,oT,oT,oT,oT,oT,oT,oT,oT,oT],[1]),(4,[oT,oT,oT,oT,oT,oT,oT,oT,oT,oT,oT],[]),(4,[oT,oT,oT,oT,oT,oT,oT,oT,oT,oT,oT,oF,oT],[]),(4,[oT,oT,oT,oT,oT,oT,oT,oT,oT,oT,oT,oT,oT,oT],[])] [_,_,_,_,_,_,_,_,_,_,_,_,_,_,_] ⟨[(7,.i u.2),(6,.q 1 0),(3,.q 3 0)],[(0,.bx 199 (lx199 j)),(1,.bx 100 [lF qI e.2,lF qI d.1,lH 2,lI m,lB d.2.1,lI u.1,lB false]),(2,ROW qI 3 g.1),(3,.bx 276 [lP 0 0])],4⟩ ⟨O.ld y4P Z R (.B R) R R,O.nc .B Z R R,O.faP ybi Z R R,O.lg (l':=(lx193 j.2.1)) ag193 Z R (.B R) R R R,O.ld y4P Z R (.B R) R R,O.nc .B Z R R,O.faP ya6 Z R R,O.lg (l':=[lF rB j.2.2.2.1,lF rB j.2.2.2.2]) ag197 Z R (.B R) R R R,O.ca0 (yb5 V) cf226 R R Z R R R,O.mv Z R R,O.ex Z R R R,O.ex Z R R R,O.faP ybj Z R R,O.st nag3.sz Z R R R R R,O.as Z R R,trivial⟩ (by kernel_rfl) R ?_;refine .seqN (.sr (.mv R (.bi R (.ns ?_))));refine .cc hm R (fun hm=>?_) fun hm=>?_
           ·refine .sr (.op (O.lg (l':=[lF qI e.2,lF qI d.1,lH 2,lI m,lB d.2.1,lI u.1,lB false]) ag100 Z R (.B R) R R R) R (.mv R (.st ag100.sz R (.an R (.ret (.seqR ?_))))));cases hm;exact .rr [0,2] Tryz.results192 (.cell R R ag100 R (.tmp R .nil)) R I3 ⟨⟨_,R,I4⟩,⟨_,R,I4⟩,trivial⟩
           ·refine .skip (.seqN (.seq ?_));refine .sub (τ:=⟨[(6,.q 1 0),(3,.q 3 0)],[(0,.bx 199 (lx199 j)),(1,.bx 100 [lF qI e.2,lF qI d.1,lH 2,lI m,lB d.2.1,lI u.1,lB false]),(2,ROW qI 3 g.1),(3,.bx 276 [lP 0 0])],4⟩) ?_ [] R;refine bS hm fun H W hm=>?_;refine .drd 4 [(4,[],[]),(4,[oT],[]),(4,[oT,oT],[]),(4,[oT,oT,oT],[]),(4,[],[]),(4,[oF,oF,oF,oF,oT],[]),(4,[oF,oF,oF,oF,oT,oT],[]),(4,[oF,oF,oF,oF,oT,oT,oT],[]),(4,[oT,oT,oT,oT,oT,oT,oT,oT],[]),(4,[oT,oT,oT,oT,oT,oT,oT,oT,oT],[]),(4,[oT,oT,oT,oT,oT,oT,oT,oT,oT,oT],[]),(4,[oT,oT,oT,oT,oT,oT,oT,oT,oT,oT],[1]),(4,[oT,oT,oT,oT,oT,oT,oT,oT,oT,oT,oT],[]),(4,[oT,oT,oT,oT,oT,oT,oT,oT,oT,oT,oT,oF,oT],[]),(4,[oT,oT,oT,oT,oT,oT,oT,oT,oT,oT,oT,oT,oT,oT],[])] [_,_,_,_,_,_,_,_,_,_,_,_,_,_,_] ⟨[(7,.i H.2),(6,.q 1 0)],[(0,.bx 199 (lx199 j)),(1,.bx 100 [lF qI e.2,lF qI d.1,lH 2,lI m,lB d.2.1,lI u.1,lB H.1]),(2,ROW qI 3 g.1)],4⟩ ⟨O.ld y4P Z R (.B R) R R,O.nc .B Z R R,O.faP ybi Z R R,O.lg (l':=(lx193 j.2.1)) ag193 Z R (.B R) R R R,O.ld y4P Z R (.B R) R R,O.nc .B Z R R,O.faP ya6 Z R R,O.lg (l':=[lF rB j.2.2.2.1,lF rB j.2.2.2.2]) ag197 Z R (.B R) R R R,O.ca0 (yax W) cf227 R R Z R R R,O.mv Z R R,O.ex Z R R R,O.ex Z R R R,O.faP ybk Z R R,O.st nag4.sz Z R R R R R,O.as Z R R,trivial⟩ (by kernel_rfl) R ?_;refine .seqN (.sr (.op (O.lg (l':=[lF qI e.2,lF qI d.1,lH 2,lI m,lB d.2.1,lI u.1,lB H.1]) ag100 Z R (.B R) R R R) R (.mv R (.st ag100.sz R (.an R (.ret ?_))))));cases hm;exact .rr [0,2] Tryz.results192 (.cell R R ag100 R (.tmp R .nil)) R I3 ⟨⟨_,R,I4⟩,⟨_,R,I4⟩,trivial⟩
         · intro F;refine .sr (.fa y8d R (.lb nag4 R (.ns ?_)));refine .cc hm R (fun hm=>?_) fun hm=> .skip ((F _ hm).sub [(2,3),(3,4)] R);refine .sr (.lb y4P R (.fa y7l R (.lb nag3 R (.op (O.bsF (r:=qI) (zs:=([m]:List Int)) bs32 R R Z R R R (.c .k .n) R R R) R (bS hm fun K X hm=> .op (O.ca (r':= .i K.1) [0] [(0,.bx 199 (lx199 K.2))] none (y5z X) cf221 R R Z R R R R ⟨⟨_,R,I4⟩,trivial⟩ I3 R) R (.an R (.sr (.mv R (.bi R (.ns ?_))))))))));refine .cc hm R (fun hm=>?_) fun hm=> .skip ((F _ hm).sub [(2,3),(3,4)] R);refine .sr (.op (O.lg (l':=[lF qI e.2,lF qI d.1,lH 3,lI m,lB d.2.1,lI 0,lB false]) ag100 Z R (.B R) R R R) R (.mv R (.st ag100.sz R (.an R (.ret (.seqR ?_))))));cases hm;exact .rr [0,3] Tryz.results192 (.cell R R ag100 R (.tmp R .nil)) R I3 ⟨⟨_,R,I4⟩,⟨_,R,I4⟩,trivial⟩
      · intro E;refine .sr (.fa y8d R (.lb nag4 R (.ns ?_)));exact .cc hm R (fun hm=> .reg (.lb y4P R (.fa y7l R (.lb nag3 R (bS hm fun L Y hm=> .op (O.ca (r':= .b L.1) [0] [(0,.bx 199 (lx199 L.2))] none (y5V Y) cf186 R R Z R R R R ⟨⟨_,R,I4⟩,trivial⟩ I3 R) R (.nil ((E _ hm).sub [(2,6),(3,5)] R))))))) fun hm=> .skip ((E _ hm).sub [(2,6),(3,5)] R)
  refine .nlb qI 3 3 0 R R (.iter (fun (t:BenT×Int×List Int)=>⟨[(13,.i t.2.1),(12,.i (p1.1.length:Int)),(11,.f qI p1.1),(6,.q 1 0),(4,.q 3 0),(3,.q 4 0),(2,.o (lW Tryz.prog (fun (x:(Int→Option Bool))=> [.o (lW Tryz.prog (fun (x:Int)=> [.i x]) (fun (r:Bool)=> .b r) x)]) (fun (r:Int)=> .i r) p2))],[(0,.bx 199 (lx199 t.1)),(1,.bx 100 [lH 2,lN,lN,lI 0,lB false,lI 0,lB false]),(2,ROW qI 3 t.2.2),(3,.bx 114 [lF qI p1.1,lF qI p1.2.1,lI p1.2.2]),(4,.bx 276 [lP 0 0])],5⟩) N [(1,3),(2,4),(3,2),(4,1)] R ?_);intro t I hm a4 a3;unfold y1M at hm;refine .sr (.bi R (.ns (.seq ?_)));refine .cc hm R (fun hm=>?_) fun hm=> .exit (.seqX (.seqX ((a5 _ (a3 _ (oi hm).symm)).sub [] R)));refine .skip (.seqN ?_);refine .join2 (fun (D:BenT) (v:List Int)=>y1L t D v=some I) (fun D v=>⟨[(13,.i t.2.1),(12,.i (p1.1.length:Int)),(11,.f qI p1.1),(6,.q 1 0),(4,.q 3 0),(3,.q 4 0),(2,.o (lW Tryz.prog (fun (x:(Int→Option Bool))=> [.o (lW Tryz.prog (fun (x:Int)=> [.i x]) (fun (r:Bool)=> .b r) x)]) (fun (r:Int)=> .i r) p2))],[(0,.bx 199 (lx199 D)),(1,.bx 100 [lH 2,lN,lN,lI 0,lB false,lI 0,lB false]),(2,ROW qI 3 v),(3,.bx 114 [lF qI p1.1,lF qI p1.2.1,lI p1.2.2]),(4,.bx 276 [lP 0 0])],5⟩) ?_ ?_
  · intro D v hm;unfold y1L at hm;exact .reg (.bi R (.mv R (.nil ((a4 _ (oi hm).symm).sub [] R))))
  · intro G;refine .block (.sr (bS hm fun a6 a1 hm=> .ix sl32 a1 R (.le nag3 lv3 R (.an R (.sr (.lb y4P R (.mv R (bS hm fun M a0 hm=> .op (O.ca (r':= .b M.1) [0] [(0,.bx 199 (lx199 M.2))] none (y5V a0) cf186 R R Z R R R R ⟨⟨_,R,I4⟩,trivial⟩ I3 R) R (.ns ?_)))))))));exact .cc hm R (fun hm=> .reg (.fa y9m R (.lb nag32 R (.mv R (.op (O.bsF (r:=qI) (zs:=([a6]:List Int)) bs32 R R Z R R R (.c .k .n) R R R) R (bS hm fun a7 a2 hm=> .op (O.ap 5 Tryz.underlying32 el3 R R Z R R (.fr R) a2 R) R (.fa y9m R (.st nag32.sz R (.nil (.blkN ((G _ _ hm).sub [(2,5)] R))))))))))) fun hm=> .skip (.blkN ((G _ _ hm).sub [] R))
def y5k(p1:List CycT)(p2:CycT→Option ((Int→Option Bool)→Option Int))(a:Int×(List StpT)×BenT):Option ((Int×(List StpT)×BenT)⊕((List StpT)⊕Int)):=
 if decide (a.1<(p1.length:Int)) then
  (idx p1 a.1).bind fun c=>
  (p2 c).bind fun d=>
  (y2C a.2.2 c d).bind fun b=>
  if(b.2.1 != 0) then
   some (.inr (.inr (b.2.1)))
  else
   (app a.2.1 ([b.1]:List StpT)).bind fun e=>
   some (.inl (W (a.1+1),e,b.2.2))
 else
  some (.inr (.inl a.2.1))
def y5p(p0:PbT)(p1:List CycT)(p2:CycT→Option ((Int→Option Bool)→Option Int)):Option ((List StpT)×Int):=
 (y4J p0).bind fun a=>
 if(a.2 != 0) then
  some (([]:List StpT),a.2)
 else
  a.1.bind fun e=>
  (iter (y5k p1 p2) (0,([]:List StpT),e)).bind fun b=>
  match b with
  | .inl c=>
   some (c,0)
  | .inr (d)=>
   some (([]:List StpT),d)
theorem yb6{p0:PbT}{p1:List CycT}{p2:CycT→Option ((Int→Option Bool)→Option Int)}{r:(List StpT)×Int}(hm:y5p p0 p1 p2=some r):
    F0 128 [.a (lx37 p0),.f rE114 p1,.o (lW Tryz.prog (fun (x:CycT)=> [.a [lF qI x.1,lF qI x.2.1,lI x.2.2]]) (fun (r:(Int→Option Bool)→Option Int)=> .o (lW Tryz.prog (fun (x:(Int→Option Bool))=> [.o (lW Tryz.prog (fun (x:Int)=> [.i x]) (fun (r:Bool)=> .b r) x)]) (fun (r:Int)=> .i r) r)) p2)] [] (.tp [.h 0,.i r.2]) [ROW rE100 100 r.1]:=by
  unfold y5p at hm;refine Fw.mk2 Tryz.func128 Tryz.ntmps128 R (fun C=>?_) R;refine .sr (.bo 0 R (.sa R (.an R (.sr (.op (O.lg (l':=(lx37 p0)) ag37 Z R (.B R) R R R) R (bS hm fun L J hm=> .op (O.ca (r':= .tp [.o (lH 1),.i L.2]) [1] [(0,OBX rE199 199 L.1)] (some 2) (y7Q J) cf191 R R Z R R R R ⟨⟨_,R,I4⟩,trivial⟩ I3 R) R (.mv R (.ex R (.ex R (.sa R (.an R (.seq (.sr (.mv R (.bi R (.ns ?_))))))))))))))));refine .cc hm R (fun hm=>?_) fun hm=>?_
  ·refine .sr (.mv R (.sa R (.an R (.ret (.seqR (.nlg rE100 100 6 0 R R ?_))))));cases hm;exact .rr [2] Tryz.results128 (.tmp R (.tmp R .nil)) R I3 ⟨⟨_,R,I4⟩,trivial⟩
  ·refine .skip (.seqN (.sr (.an R (.seq (.sr (.mv R (.ln sl94 R (.mv R (.ns (.block (bS hm fun Q K hm=> .opn 1 R K lv199 R (.hp 8 R R (.hp 18 R R (bS hm fun t u hm=>?_))))))))))))));refine .cutU (z:= .exit 0) (fun j=> .inl j=t) (fun (j:(List StpT))=>⟨[(10,.h 0)],[(0,ROW rE100 100 j)],1⟩) ?_ fun H=>?_
   · rintro j rfl;dsimp only at hm;refine .blkE (.seqN (.sr (.mv R (.sa R (.an R (.ret ?_))))));cases hm;exact .rr [0] Tryz.results128 (.tmp R (.tmp R .nil)) R I3 ⟨⟨_,R,I4⟩,trivial⟩
   refine .cutU (z:= .ret) (fun m=> .inr (m)=t) (fun (m:Int)=>⟨[(7,.i m),(6,.o (lN))],[],0⟩) ?_ fun I=>?_
   · rintro m rfl;dsimp only at hm;refine .blkR (.seqR (.nlg rE100 100 6 0 R R ?_));cases hm;exact .rr [0] Tryz.results128 (.tmp R (.tmp R .nil)) R I3 ⟨⟨_,R,I4⟩,trivial⟩
   refine .nlg rE100 100 10 0 R R (.iter (fun (g:Int×(List StpT)×BenT)=>⟨[(25,.i g.1),(24,.i (p1.length:Int)),(23,.f rE114 p1),(10,.h 0),(8,.q 1 0),(2,.o (lW Tryz.prog (fun (x:CycT)=> [.a [lF qI x.1,lF qI x.2.1,lI x.2.2]]) (fun (r:(Int→Option Bool)→Option Int)=> .o (lW Tryz.prog (fun (x:(Int→Option Bool))=> [.o (lW Tryz.prog (fun (x:Int)=> [.i x]) (fun (r:Bool)=> .b r) x)]) (fun (r:Int)=> .i r) r)) p2))],[(0,ROW rE100 100 g.2.1),(1,.bx 199 (lx199 g.2.2))],2⟩) u [(0,2)] R ?_);intro g M hm G s;unfold y5k at hm;refine .sr (.bi R (.ns (.seq ?_)));refine .cc hm R (fun hm=>?_) fun hm=> .exit (.seqX (.seqX ((H _ (s _ (oi hm).symm)).sub [] R)));refine .skip (.seqN (.seq (.block (.sr (bS hm fun e D hm=> .ix sl94 D R (.op (O.lg (l':=[lF qI e.1,lF qI e.2.1,lI e.2.2]) ag114 Z R (.E lv114) R R R) R (.al 2 zz114 R (.st ag114.sz R (.ns (.seq ?_))))))))));refine .sub (τ:=⟨[(12,.q 2 0),(25,.i g.1),(24,.i (p1.length:Int)),(23,.f rE114 p1),(10,.h 0),(8,.q 1 0),(2,.o (lW Tryz.prog (fun (x:CycT)=> [.a [lF qI x.1,lF qI x.2.1,lI x.2.2]]) (fun (r:(Int→Option Bool)→Option Int)=> .o (lW Tryz.prog (fun (x:(Int→Option Bool))=> [.o (lW Tryz.prog (fun (x:Int)=> [.i x]) (fun (r:Bool)=> .b r) x)]) (fun (r:Int)=> .i r) r)) p2))],[(2,.bx 114 [lF qI e.1,lF qI e.2.1,lI e.2.2]),(0,ROW rE100 100 g.2.1),(1,.bx 199 (lx199 g.2.2))],3⟩) ?_ [] R;refine bS hm fun N v hm=>bS hm fun d w hm=>?_;refine .drz 5 [(9,4)] [(3,[],[],[]),(3,[],[],[]),(3,[],[],[]),(3,[],[],[]),(3,[oF,oF,oT,oT],[],[]),(3,[oT,oT,oT,oT,oT],[],[]),(4,[oT,oT,oT,oT,oT,oT],[],[]),(4,[oT,oT,oT,oT,oT,oT,oT],[],[]),(4,[oT,oT,oT,oT,oT,oT,oT],[],[]),(3,[],[1],[]),(5,[oT,oT,oT,oT,oT,oT,oT,oT,oF,oT],[],[]),(5,[oT,oT,oT,oT,oT,oT,oT,oT,oT,oT,oT],[],[(9,4)])] [_,_,_,_,_,_,_,_,_,_,_,_] ⟨[(14,.i d.2.1),(13,.q 4 0),(25,.i g.1),(24,.i (p1.length:Int)),(23,.f rE114 p1),(10,.h 0),(8,.q 1 0),(2,.o (lW Tryz.prog (fun (x:CycT)=> [.a [lF qI x.1,lF qI x.2.1,lI x.2.2]]) (fun (r:(Int→Option Bool)→Option Int)=> .o (lW Tryz.prog (fun (x:(Int→Option Bool))=> [.o (lW Tryz.prog (fun (x:Int)=> [.i x]) (fun (r:Bool)=> .b r) x)]) (fun (r:Int)=> .i r) r)) p2))],[(4,.bx 100 [lF qI d.1.1,lF qI d.1.2.1,lH 3,lI d.1.2.2.2.1,lB d.1.2.2.2.2.1,lI d.1.2.2.2.2.2.1,lB d.1.2.2.2.2.2.2]),(3,ROW qI 3 d.1.2.2.1),(0,ROW rE100 100 g.2.1),(1,.bx 199 (lx199 d.2.2))],5⟩ ⟨O.mv Z R R,O.lg (l':=[lF qI e.1,lF qI e.2.1,lI e.2.2]) ag114 Z R (.B R) R R R,O.mv Z R R,O.lg (l':=[lF qI e.1,lF qI e.2.1,lI e.2.2]) ag114 Z R (.B R) R R R,O.fv (y:=e) R R R Z R v R R,O.ca (r':= .tp [.a [lF qI d.1.1,lF qI d.1.2.1,lH 3,lI d.1.2.2.2.1,lB d.1.2.2.2.2.1,lI d.1.2.2.2.2.2.1,lB d.1.2.2.2.2.2.2],.i d.2.1]) [1,3] [(0,.bx 199 (lx199 d.2.2)),(1,ROW qI 3 d.1.2.2.1)] (some 4) (y6G w) cf192 R R Z R R R R ⟨⟨_,R,I4⟩,⟨_,R,I4⟩,trivial⟩ I3 R,O.mv Z R R,O.ex Z R R R,O.ex Z R R R,O.al 4 R zz100 R Z R,O.st ag100.sz Z R R R R R,O.as Z R R,trivial⟩ (by kernel_rfl) R ?_;refine .seqN (.seq (.sr (.mv R (.bi R (.ns ?_)))));exact .cc hm R (fun hm=> .sr (.mv R (.sa R (.an R (.ret (.seqR (.blkR (.seqR (.seqR ((I _ (s _ (oi hm).symm)).sub [] R)))))))))) fun hm=> .skip (.seqN (.reg (.mv R (.op (O.lg (l':=[lF qI d.1.1,lF qI d.1.2.1,lH 3,lI d.1.2.2.2.1,lB d.1.2.2.2.2.1,lI d.1.2.2.2.2.2.1,lB d.1.2.2.2.2.2.2]) ag100 Z R (.B R) R R R) R (.fz 3 [42] [4] R R fR R R (.op (O.bsF (r:=rE100) (zs:=([d.1]:List StpT)) bs91 R R Z R R R (.c (.p .l (.p .l (.p .l (.p .k (.p .b (.p .k .b)))))) .n) R R R) R (bS hm fun P F hm=> .op (O.ap 5 Tryz.underlying91 el100 R R Z R R (.fr R) F R) R (.sa R (.nil (.blkN (.seqN (.reg (.bi R (.mv R (.nil ((G _ (oi hm).symm).sub [(0,5)] R))))))))))))))))
def y4Y(a:CycT)(p0:Int→Option Bool):Option Int:=
 (if (a.2.2 != (-1)) then
  (p0 a.2.2).bind fun c=>
  some c
 else
  some false).bind fun b=>
 if b then
  some a.2.2
 else
  some (-1)
theorem y9M{a:CycT}{p0:Int→Option Bool}{r:Int}(hm:y4Y a p0=some r):
    F0 130 [.o (lW Tryz.prog (fun (x:Int)=> [.i x]) (fun (r:Bool)=> .b r) p0),.o (lQ 114 [lF qI a.1,lF qI a.2.1,lI a.2.2] 0)] [] (.i r) []:=by
  unfold y4Y at hm;refine Fw.mk2 Tryz.func130 Tryz.ntmps130 R (fun C=>?_) R;refine .sr (.an R (.seq (.sr (.fq y7D R (.lq nag3 R (.bi R (.mv R (bS hm fun g eb1 hm=>?_))))))));refine .cut 5 (fun (c:Bool)=>g=c) (fun c=>⟨[(12,.b c),(1,.o (lQ 114 [lF qI a.1,lF qI a.2.1,lI a.2.2] 0))],[],0⟩) ?_ ?_
  · rintro _ rfl;refine .ns ?_;refine .cc hm R (fun hm=>?_) fun hm=>?_
    ·refine .sr (.fq y7D R (.lq nag3 R (.an R (.ret (.seqR ?_)))));cases hm;exact .rr [] Tryz.results130 (.tmp R .nil) R I3 trivial
    ·refine .skip (.seqN (.sr (.an R (.ret ?_))));cases hm;exact .rr [] Tryz.results130 (.tmp R .nil) R I3 trivial
  · intro e;rcases ifS eb1 with ⟨hc,hm⟩|⟨hc,hm⟩
    · refine .know (d:=7) R hc ?_;refine .op (O.mv (Gu.mk R R) R R) R (.op (O.faQ y7D (Gu.mk R R) R R) R (.op (O.ld nag3 (Gu.mk R R) R .Q R R) R (bS hm fun h f hm=>?_)));refine .op (O.fv (y:=a.2.2) R R R (Gu.mk R R) R f R R) R ?_;exact .op (O.pkT Z R R R R) R ((e h (oi hm).symm).sub [] R)
    · refine .know (d:=7) R hc ?_;exact .sk R (.sk R (.sk R (.sk R (.op (O.pkF Z R R R R) R ((e false (oi hm).symm).sub [] R)))))
def y6i(p0:CycT):Option ((Int→Option Bool)→Option Int):=
 some (y4Y p0)
theorem yay{p0:CycT}{r:((Int→Option Bool)→Option Int)}(hm:y6i p0=some r):
  F0 129 [.a [lF qI p0.1,lF qI p0.2.1,lI p0.2.2]] [] (.o (lW Tryz.prog (fun (x:(Int→Option Bool))=> [.o (lW Tryz.prog (fun (x:Int)=> [.i x]) (fun (r:Bool)=> .b r) x)]) (fun (r:Int)=> .i r) r)) []:=by
 unfold y6i at hm;refine Fw.mk2 Tryz.func129 Tryz.ntmps129 R (fun C=>?_) R;refine .sr (.bo 0 R (.an R (.sr (.fz 0 [1] [] R R fB R R (.op (O.mf (args:=(fun (x:(Int→Option Bool))=> [.o (lW Tryz.prog (fun (x:Int)=> [.i x]) (fun (r:Bool)=> .b r) x)])) (res:=(fun (r:Int)=> .i r)) (m:=(y4Y p0)) cf130 (fun x r h=>y9M h) (fun _=>R) R Z R R) R (.an R (.ret ?_)))))));cases hm;exact .rr [] Tryz.results129 (.tmp R .nil) R I3 trivial
def y4x(p0:PbT)(p1:List CycT):Option ((List StpT)×Int):=
 (y1y p0 p1).bind fun a=>
 if(a != 0) then
  some (([]:List StpT),a)
 else
  (y5p p0 p1 y6i).bind fun b=>
  some b
theorem y7b{p0:PbT}{p1:List CycT}{r:(List StpT)×Int}(hm:y4x p0 p1=some r):
    F0 57 [.a (lx37 p0),.f rE114 p1] [] (.tp [.h 0,.i r.2]) [ROW rE100 100 r.1]:=by
  unfold y4x at hm;refine Fw.mk2 Tryz.func57 Tryz.ntmps57 R (fun C=>?_) R;refine .sr (.bo 0 R (.sa R (.an R (.seq (.sr (.op (O.lg (l':=(lx37 p0)) ag37 Z R (.B R) R R R) R (.mv R (bS hm fun g b hm=> .c0 (y6E b) cf65 R (.an R (.sr (.mv R (.bi R (.ns ?_)))))))))))));refine .cc hm R (fun hm=>?_) fun hm=>?_
  ·refine .sr (.mv R (.sa R (.an R (.ret (.seqR (.nlg rE100 100 4 0 R R ?_))))));cases hm;exact .rr [1] Tryz.results57 (.tmp R (.tmp R .nil)) R I3 ⟨⟨_,R,I4⟩,trivial⟩
  ·refine .skip (.seqN (.sr (.op (O.lg (l':=(lx37 p0)) ag37 Z R (.B R) R R R) R (.mv R (bS hm fun e d hm=> .op (O.cac (r':= .tp [.h 1,.i e.2]) [1] [(0,ROW rE100 100 e.1)] (some 2) (yb6 d) cf128 R R Z R R ⟨⟨R,.rf⟩,⟨R,.rf⟩,⟨R,(.c (.fn cf129 (fun x r h=>yay h) (fun _=>R)) .n)⟩,trivial⟩ R ⟨⟨_,R,I4⟩,trivial⟩ I3 R) R (.ex R (.ex R (.sa R (.an R (.ret ?_))))))))));cases hm;exact .rr [1] Tryz.results57 (.tmp R (.tmp R .nil)) R I3 ⟨⟨_,R,I4⟩,trivial⟩
def y7v(p0:List (List Int))(a:Int×List Int):Option ((Int×List Int)⊕(List Int)):=
 if decide (a.1<(p0.length:Int)) then
  (idx p0 a.1).bind fun b=>
  (app a.2 b).bind fun c=>
  some (.inl (W (a.1+1),c))
 else
  some (.inr a.2)
def y6j(b:Int×Int)(a:Int):Option ((Int×Int)⊕Int):=
 some (.inl (W (b.1+1),a))
def y7w(p0:List (List Int))(a:Int×Int):Option ((Int×Int)⊕Int):=
 if decide (a.1<(p0.length:Int)) then
  (idx p0 a.1).bind fun b=>
  if decide ((W (a.2+(b.length:Int)))<0) then
   none
  else
   y6j a (W (a.2+(b.length:Int)))
 else
  some (.inr a.2)
def y6O(p0:List (List Int)):Option (List Int):=
 (iter (y7w p0) (0,0)).bind fun c=>
 (y6m ([]:List Int) c).bind fun b=>
 (iter (y7v p0) (0,b)).bind fun a=>
 some a
theorem yae{p0:List (List Int)}{r:List Int}(hm:y6O p0=some r):
  F0 185 [.f (rL qI) p0] [] (.h 0) [ROW qI 3 r]:=by
 unfold y6O at hm;refine Fw.mk2 Tryz.func185 Tryz.ntmps185 R (fun C=>?_) R;refine .sr (.an R (.sr (.an R (.seq (.sr (.mv R (.ln sl53 R (.mv R (.ns (.block (bS hm fun p u hm=>?_)))))))))));refine .cut1 (z:= .exit 0) p (fun (p:Int)=>⟨[(3,.i p),(0,.f (rL qI) p0)],[],0⟩) ?_ fun s=>?_
 ·skip
  refine .blkE (.seqN (.sr (.mv R (bS hm fun x j hm=> .op (O.ca (r':= .h 0) [0] [(0,ROW qI 3 x)] (some 1) (yaR j) cf218 R R Z R R R R ⟨⟨_,R,I4⟩,trivial⟩ I3 R) R (.an R (.seq (.sr (.mv R (.ln sl53 R (.mv R (.ns (.block (bS hm fun d g hm=>?_)))))))))))));refine .cut1 (z:= .exit 2) d (fun (d:List Int)=>⟨[(6,.h 0)],[(0,ROW qI 3 d)],1⟩) ?_ fun t=>?_
  ·skip
   refine .blkE (.seqN (.sr (.mv R (.an R (.ret ?_)))));cases hm;exact .rr [0] Tryz.results185 (.tmp R .nil) R I3 ⟨⟨_,R,I4⟩,trivial⟩
  refine .iter (fun (b:Int×List Int)=>⟨[(27,.i b.1),(26,.i (p0.length:Int)),(25,.f (rL qI) p0),(6,.h 0)],[(0,ROW qI 3 b.2)],1⟩) g [] R ?_;intro b y hm o n;unfold y7v at hm;refine .sr (.bi R (.ns (.seq ?_)));exact .cc hm R (fun hm=> .skip (.seqN (.seq (.block (.sr (bS hm fun B k hm=> .ix sl53 k R (.le nag32 lv32 R (.an R (.reg (.mv R (.mv R (bS hm fun D l hm=> .op (O.ap 1 Tryz.underlying32 el3 R R Z R R (.fr R) l R) R (.sa R (.nil (.blkN (.seqN (.reg (.bi R (.mv R (.nil ((o _ (oi hm).symm).sub [(0,1)] R))))))))))))))))))))) fun hm=> .exit (.seqX (.seqX ((t _ (n _ (oi hm).symm)).sub [] R)))
 refine .iter (fun (a:Int×Int)=>⟨[(11,.i a.1),(10,.i (p0.length:Int)),(9,.f (rL qI) p0),(3,.i a.2),(0,.f (rL qI) p0)],[],0⟩) u [] R ?_;intro a q hm w v;unfold y7w at hm;refine .sr (.bi R (.ns (.seq ?_)));refine .cc hm R (fun hm=>?_) fun hm=> .exit (.seqX (.seqX ((s _ (v _ (oi hm).symm)).sub [] R)));refine .skip (.seqN ?_);refine .join1 (fun (c:Int)=>y6j a c=some q) (fun c=>⟨[(3,.i c),(11,.i a.1),(10,.i (p0.length:Int)),(9,.f (rL qI) p0),(0,.f (rL qI) p0)],[],0⟩) ?_ ?_
 ·intro c hm;unfold y6j at hm;exact .reg (.bi R (.mv R (.nil ((w _ (oi hm).symm).sub [] R))))
 ·intro e;refine .block (.sr (bS hm fun E m hm=> .ix sl53 m R (.le nag32 lv32 R (.an R (.sr (.mv R (.mv R (.ln sl32 R (.bi R (.an R (.sr (.mv R (.bi R (.ns ?_))))))))))))));refine .cc hm R (fun hm=>?_) fun hm=> .skip (.blkN ((e _ hm).sub [] R));refine .reg ?_;cases hm
def y4N(a:List Int):Option (List Int):=
 some a
def y5u(p0:StpT):Option (List Int):=
 (y6O ([p0.1,p0.2.1]:List (List Int))).bind fun a=>
 if p0.2.2.2.2.1 then
  (app a ([p0.2.2.2.1]:List Int)).bind fun b=>
  y4N b
 else
  y4N a
theorem y7c{p0:StpT}{r:List Int}(hm:y5u p0=some r):
  F0 123 [.a (lx100 p0)] [] (.h 0) [ROW qI 3 r]:=by
 unfold y5u at hm;refine Fw.mk2 Tryz.func123 Tryz.ntmps123 R (fun C=>?_) R;refine .sr (.bo 0 R (.an R (.sr (.fa y9m R (.lb nag32 R (.fa ya8 R (.lb nag32 R (.op (O.bsF (r:=(rL qI)) (zs:=([p0.1,p0.2.1]:List (List Int))) bs53 R R Z R R R (.c .l (.c .l .n)) R R R) R (bS hm fun g e hm=> .op (O.ca (r':= .h 1) [1] [(0,ROW qI 3 g)] (some 2) (yae e) cf185 R R Z R R R R ⟨⟨_,R,I4⟩,trivial⟩ I3 R) R (.an R ?_))))))))));refine .join1 (fun (b:List Int)=>y4N b=some r) (fun b=>⟨[(3,.h 0)],[(0,ROW qI 3 b)],1⟩) ?_ ?_
 ·intro b hm;unfold y4N at hm;refine .sr (.mv R (.an R (.ret ?_)));cases hm;exact .rr [0] Tryz.results123 (.tmp R .nil) R I3 ⟨⟨_,R,I4⟩,trivial⟩
 ·intro d;refine .sr (.fa y8d R (.lb nag4 R (.ns ?_)));exact .cc hm R (fun hm=> .reg (.mv R (.fa y7l R (.lb nag3 R (.op (O.bsF (r:=qI) (zs:=([p0.2.2.2.1]:List Int)) bs32 R R Z R R R (.c .k .n) R R R) R (bS hm fun i f hm=> .op (O.ap 2 Tryz.underlying32 el3 R R Z R R (.fr R) f R) R (.sa R (.nil ((d _ hm).sub [(0,2)] R))))))))) fun hm=> .skip ((d _ hm).sub [(0,1)] R)
def y7R(p0:List StpT)(a:Int×List Int):Option ((Int×List Int)⊕(List Int)):=
 if decide (a.1<(p0.length:Int)) then
  (idx p0 a.1).bind fun c=>
  (y5u c).bind fun b=>
  (app a.2 b).bind fun d=>
  some (.inl (W (a.1+1),d))
 else
  some (.inr a.2)
def y6n(p0:List StpT):Option (List Int):=
 (iter (y7R p0) (0,([]:List Int))).bind fun a=>
 some a
theorem y8b{p0:List StpT}{r:List Int}(hm:y6n p0=some r):
  F0 53 [.f rE100 p0] [] (.h 0) [ROW qI 3 r]:=by
 unfold y6n at hm;refine Fw.mk2 Tryz.func53 Tryz.ntmps53 R (fun C=>?_) R;refine .sr (.an R (.sr (.an R (.seq (.sr (.mv R (.ln sl91 R (.mv R (.ns (.block (bS hm fun g k hm=>?_)))))))))));refine .cut1 (z:= .exit 0) g (fun (g:List Int)=>⟨[(3,.h 0)],[(0,ROW qI 3 g)],1⟩) ?_ fun j=>?_
 ·skip
  refine .blkE (.seqN (.sr (.mv R (.an R (.ret ?_)))));cases hm;exact .rr [0] Tryz.results53 (.tmp R .nil) R I3 ⟨⟨_,R,I4⟩,trivial⟩
 refine .nlg qI 3 3 0 R R (.iter (fun (a:Int×List Int)=>⟨[(8,.i a.1),(7,.i (p0.length:Int)),(6,.f rE100 p0),(3,.h 0)],[(0,ROW qI 3 a.2)],1⟩) k [] R ?_);intro a p hm n m;unfold y7R at hm;refine .sr (.bi R (.ns (.seq ?_)));exact .cc hm R (fun hm=> .skip (.seqN (.seq (.block (.sr (bS hm fun b d hm=> .ix sl91 d R (.op (O.lg (l':=(lx100 b)) ag100 Z R (.E lv100) R R R) R (.al 1 zz100 R (.st ag100.sz R (.ns (.reg (.mv R (.op (O.lg (l':=(lx100 b)) ag100 Z R (.B R) R R R) R (bS hm fun o c hm=> .op (O.ca (r':= .h 2) [2] [(0,ROW qI 3 o)] (some 3) (y7c c) cf123 R R Z R R R R ⟨⟨_,R,I4⟩,trivial⟩ I3 R) R (bS hm fun q e hm=> .op (O.ap 3 Tryz.underlying32 el3 R R Z R R (.ow R R) e R) R (.sa R (.nil (.blkN (.seqN (.reg (.bi R (.mv R (.nil ((n _ (oi hm).symm).sub [(0,3)] R)))))))))))))))))))))))) fun hm=> .exit (.seqX (.seqX ((j _ (m _ (oi hm).symm)).sub [] R)))
def y4O(a:PbT)(p0:Int):Option Bool:=
 (yd a.1.1 p0).bind fun b=>
 some (!b)
theorem y8I{c:PbT}{p0:Int}{r:Bool}(hm:y4O c p0=some r):
  F0 122 [.i p0,.o (lQ 37 (lx37 c) 0)] [] (.b r) []:=by
 unfold y4O at hm;refine Fw.mk2 Tryz.func122 Tryz.ntmps122 R (fun C=>?_) R;refine .sr (.an R (.sr (.fq y3u R (.fq yO R (.lq nag32 R (.mv R (bS hm fun d a hm=> .c0 (yg a) cf104 R (.op (O.not Z R R) R (.an R (.ret ?_))))))))));cases hm;exact .rr [] Tryz.results122 (.tmp R .nil) R I3 trivial
def y3t(a:Bool):Option Bool:=
 some a
def y5K(a:Option (BenT×Int×Bool))(b:Int)(p0:Int×Int×Int):Option Bool:=
 a.bind fun c=>
 if(p0.1==c.2.1) then
  y3t (p0.2.1==b)
 else
  y3t false
theorem y8r{j:Option (BenT×Int×Bool)}{f:Int}{p0:Int×Int×Int}{r:Bool}(hm:y5K j f p0=some r):
  F0 187 [.a [lI p0.1,lI p0.2.1,lI p0.2.2],.o (lQ 275 [lK rE201 201 j] 0),.o (lQ 3 [lI f] 0)] [] (.b r) []:=by
 unfold y5K at hm;refine Fw.mk2 Tryz.func187 Tryz.ntmps187 R (fun C=>?_) R;refine .sr (.bo 0 R (.an R ?_));refine .join1 (fun (e:Bool)=>y3t e=some r) (fun e=>⟨[(4,.b e)],[],0⟩) ?_ ?_
 ·intro e hm;unfold y3t at hm;refine .ret ?_;cases hm;exact .rr [] Tryz.results187 (.tmp R .nil) R I3 trivial
 ·intro g;refine bS hm fun k i hm=> .cnt 1 R (.c (.q (.c (.pd i lv201) .n)) .n) R ?_;refine .sub (τ:=⟨[(3,.q 0 0),(1,.o (lQ 275 [lQ 201 (lx201 k) 0] 0)),(2,.o (lQ 3 [lI f] 0))],[(0,.bx 124 [lI p0.1,lI p0.2.1,lI p0.2.2])],1⟩) ?_ [] R;refine .drP 7 [(1,[]),(1,[oT]),(1,[]),(1,[oF,oF,oT]),(1,[oF,oF,oT,oT]),(1,fA 2 (tT 3)),(1,tT 6)] [_,_,_,_,_,_,_] ⟨O.faP y2Z Z R R,O.ld nag3 Z R (.B R) R R,O.ld y6D Z R .Q R R,O.nc .Q Z R R,O.faQ ycD Z R R,O.ld nag3 Z R .Q R R,O.bi Z R R R R,trivial⟩ fun h=>?_;rcases ifS hm with ⟨d,hm⟩|⟨d,hm⟩
  ·skip
   exact .drF h [(1,tT 7),(1,tT 8),(1,tT 9),(1,tT 8),(1,tT 11),(1,tT 12),(1,tT 13)] [_,_,_,_,_,_,_] ⟨[(4,.b (p0.2.1==f))],[],1⟩ ⟨O.kn (O.mv Z R R) d,O.faP y4A (Gu.mk R R) R R,O.ld nag3 (Gu.mk R R) R (.B R) R R,O.ld nag3 (Gu.mk R R) R .Q R R,O.bi (Gu.mk R R) R R R R,O.pkT Z R R R R,O.as Z R R,trivial⟩ (by kernel_rfl) R ((g _ hm).sub [] R)
  ·skip
   exact .drF h [(1,tT 7),(1,tT 8),(1,tT 9),(1,tT 8),(1,tT 11),(1,tT 12),(1,tT 13)] [_,_,_,_,_,_,_] ⟨[(4,.b false)],[],1⟩ ⟨O.kn (O.mv Z R R) d,O.skip R R R R,O.skip R R R R,O.skip R R R R,O.skip R R R R,O.pkF Z R R R R,O.as Z R R,trivial⟩ (by kernel_rfl) R ((g _ hm).sub [] R)
def y2Y(a:Bool):Option Bool:=
 some a
def y3K(a:Option (BenT×Int×Bool))(b:Int)(p0:Int×Int×Int):Option Bool:=
 a.bind fun c=>
 if(p0.1==c.1.2.2.1) then
  y2Y (p0.2.1==b)
 else
  y2Y false
theorem y7S{j:Option (BenT×Int×Bool)}{f:Int}{p0:Int×Int×Int}{r:Bool}(hm:y3K j f p0=some r):
  F0 242 [.a [lI p0.1,lI p0.2.1,lI p0.2.2],.o (lQ 276 [lK rE201 201 j] 0),.o (lQ 3 [lI f] 0)] [] (.b r) []:=by
 unfold y3K at hm;refine Fw.mk2 Tryz.func242 Tryz.ntmps242 R (fun C=>?_) R;refine .sr (.bo 0 R (.an R ?_));refine .join1 (fun (e:Bool)=>y2Y e=some r) (fun e=>⟨[(4,.b e)],[],0⟩) ?_ ?_
 ·intro e hm;unfold y2Y at hm;refine .ret ?_;cases hm;exact .rr [] Tryz.results242 (.tmp R .nil) R I3 trivial
 ·intro g;refine bS hm fun k i hm=> .cnt 1 R (.c (.q (.c (.pd i lv201) .n)) .n) R ?_;refine .sub (τ:=⟨[(3,.q 0 0),(1,.o (lQ 276 [lQ 201 (lx201 k) 0] 0)),(2,.o (lQ 3 [lI f] 0))],[(0,.bx 124 [lI p0.1,lI p0.2.1,lI p0.2.2])],1⟩) ?_ [] R;refine .drP 7 [(1,[]),(1,[oT]),(1,[]),(1,[oF,oF,oT]),(1,[oF,oF,oT,oT]),(1,fA 2 (tT 3)),(1,tT 6)] [_,_,_,_,_,_,_] ⟨O.faP y2Z Z R R,O.ld nag3 Z R (.B R) R R,O.ld y4P Z R .Q R R,O.nc .Q Z R R,O.faQ ybg Z R R,O.ld nag3 Z R .Q R R,O.bi Z R R R R,trivial⟩ fun h=>?_;rcases ifS hm with ⟨d,hm⟩|⟨d,hm⟩
  ·skip
   exact .drF h [(1,tT 7),(1,tT 8),(1,tT 9),(1,tT 8),(1,tT 11),(1,tT 12),(1,tT 13)] [_,_,_,_,_,_,_] ⟨[(4,.b (p0.2.1==f))],[],1⟩ ⟨O.kn (O.mv Z R R) d,O.faP y4A (Gu.mk R R) R R,O.ld nag3 (Gu.mk R R) R (.B R) R R,O.ld nag3 (Gu.mk R R) R .Q R R,O.bi (Gu.mk R R) R R R R,O.pkT Z R R R R,O.as Z R R,trivial⟩ (by kernel_rfl) R ((g _ hm).sub [] R)
  ·skip
   exact .drF h [(1,tT 7),(1,tT 8),(1,tT 9),(1,tT 8),(1,tT 11),(1,tT 12),(1,tT 13)] [_,_,_,_,_,_,_] ⟨[(4,.b false)],[],1⟩ ⟨O.kn (O.mv Z R R) d,O.skip R R R R,O.skip R R R R,O.skip R R R R,O.skip R R R R,O.pkF Z R R R R,O.as Z R R,trivial⟩ (by kernel_rfl) R ((g _ hm).sub [] R)
def y5L(p0:BenT×Int×Bool)(p1:Int):Option Int:=
 (y1R p0.1.1.1.2.2.2 (y3K (some p0) p1)).bind fun a=>
 if decide (a<0) then
  some (-1)
 else
  (some p0).bind fun b=>
  (idx b.1.1.1.2.2.2 a).bind fun c=>
  some c.2.2
theorem y8s{p0:BenT×Int×Bool}{p1:Int}{r:Int}(hm:y5L p0 p1=some r):
    F0 219 [.o (lQ 201 (lx201 p0) 0),.i p1] [] (.i r) []:=by
  unfold y5L at hm;refine Fw.mk2 Tryz.func219 Tryz.ntmps219 R (fun C=>?_) R;refine .sr (.bo 0 R (.bo 1 R (.an R (.sr (.lb y4P R (.op (O.nc .Q Z R R) R (.fq y7k R (.fq y3u R (.fq y1x R (.lq nag33 R (.fz 0 [2] [] R R fB R R (.fz 1 [3] [] R R fB R R (.cnt 2 R (.c (.q (.c (.pk (r:=rE201) (.p (.p (.p (.p .l (.p .k (.p .l .l))) (.p (.p .l (.p .k (.p .l .l))) .l)) (.p (.p (.p .k (.p .k (.p .k (.p .l .l)))) (.p .l (.p .l .k))) (.p .k (.p .l .l)))) (.p .k .b))) .n)) .n) R (.op (O.mf (args:=(fun (x:(Int×Int×Int))=> [.a [lI x.1,lI x.2.1,lI x.2.2]])) (res:=(fun (r:Bool)=> .b r)) (m:=(y3K (some p0) p1)) cf242 (fun x r h=>y7S h) (fun _=>R) R Z R R) R (bS hm fun g d hm=> .c0 (y5Q d) cf140 R (.an R (.seq (.sr (.mv R (.bi R (.ns ?_)))))))))))))))))))));refine .cc hm R (fun hm=>?_) fun hm=>?_
  ·refine .sr (.an R (.ret (.seqR ?_)));cases hm;exact .rr [] Tryz.results219 (.tmp R .nil) R I3 trivial
  ·refine .skip (.seqN (.sr (.lq y4P R (bS hm fun j e hm=> .cnt 16 R (.c (.pd e lv201) .n) R (.op (O.nc .Q Z R R) R (.fq y7k R (.fq y3u R (.fq y1x R (.lq nag33 R (.mv R (bS hm fun s f hm=> .ix sl33 f R (.fe y4B R (.le nag3 lv124 R (.an R (.ret ?_)))))))))))))));cases hm;exact .rr [] Tryz.results219 (.tmp R .nil) R I3 trivial
def y3W(p0:BenT×Int×Bool)(b:Int)(a:Int):Option (Bool×(BenT×Int×Bool)):=
 some (decide (b≥0),(p0.1.1,p0.1.2.1,a,p0.1.2.2.2),p0.2)
def y5Y(p0:BenT×Int×Bool)(p1:Int):Option (Bool×(BenT×Int×Bool)):=
 (y5L p0 p1).bind fun a=>
 if decide (a≥0) then
  y3W p0 a a
 else
  y3W p0 a p0.1.2.2.1
theorem y8Q{p0:BenT×Int×Bool}{p1:Int}{r:Bool×(BenT×Int×Bool)}(hm:y5Y p0 p1=some r):
  Fw Tryz.prog 186 ⟨1,[0]⟩ [.o (lP 0 0),.i p1] [.bx 201 (lx201 p0)] (.b r.1) [.bx 201 (lx201 r.2)]:=by
 unfold y5Y at hm;refine Fw.mk2 Tryz.func186 Tryz.ntmps186 R (fun C=>?_) R;refine .sr (.an R (.sr (.mv R (.mv R (bS hm fun e d hm=> .op (O.caZ (y8s d) cf219 R R Z R ⟨⟨R,(.q R LnL.rf),trivial⟩,⟨R,LnL.rf⟩,trivial⟩ (fun _ _ _ _ _ h=>h) R) R (.an R ?_))))));refine .join1 (fun (a:Int)=>y3W p0 e a=some r) (fun a=>⟨[(5,.i e)],[(0,.bx 201 [lF qI p0.1.1.1.1,lI p0.1.1.1.2.1,lF qI p0.1.1.1.2.2.1,lF qT p0.1.1.1.2.2.2,lF qI p0.1.1.2.1.1,lI p0.1.1.2.1.2.1,lF qI p0.1.1.2.1.2.2.1,lF qT p0.1.1.2.1.2.2.2,lF qI p0.1.1.2.2,lI p0.1.2.1.1.1,lI p0.1.2.1.1.2.1,lI p0.1.2.1.1.2.2.1,lF rB p0.1.2.1.1.2.2.2.1,lF rE302 p0.1.2.1.1.2.2.2.2,lF qI p0.1.2.1.2.1,lF qI p0.1.2.1.2.2.1,lI p0.1.2.1.2.2.2,lI a,lF rB p0.1.2.2.2.1,lF rB p0.1.2.2.2.2,lI p0.2.1,lB p0.2.2])],1⟩) ?_ ?_
 ·intro a hm;unfold y3W at hm;refine .sr (.mv R (.bi R (.an R (.ret ?_))));cases hm;exact .rr [0] Tryz.results186 (.tmp R .nil) R I3 ⟨⟨_,R,I4⟩,trivial⟩
 ·intro c;refine .sr (.mv R (.bi R (.ns ?_)));exact .cc hm R (fun hm=> .reg (.mv R (.mv R (.op (O.nc .B Z R R) R (.fa ybg R (.st nag3.sz R (.nil ((c _ hm).sub [] R)))))))) fun hm=> .skip ((c _ hm).sub [] R)
theorem cf187:Cf Tryz.prog 187:=cM Tryz.func187 (by kernel_rfl)
theorem ybl:FA Tryz.prog 201 0 0:=fAm 0 0 20 Tryz.underlying201 R (by kernel_rfl)
theorem y8t:FA Tryz.prog 201 2 21:=fAm 2 21 1 Tryz.underlying201 R (by kernel_rfl)
def y3X(p1:Int)(a:BenT×Int×Bool)(c:Bool):Option (BenT×Int×Bool):=
 if c then
  some a
 else
  (y1R a.1.1.2.1.2.2.2 (y5K (some a) p1)).bind fun b=>
  if decide (b<0) then
   some (a.1,a.2.1,true)
  else
   (idx a.1.1.2.1.2.2.2 b).bind fun d=>
   some (a.1,d.2.2,a.2.2)
def y3Y(p1:Int)(a:BenT×Int×Bool):Option (BenT×Int×Bool):=
 if a.2.2 then
  y3X p1 a true
 else
  (yd a.1.1.2.1.1 p1).bind fun b=>
  y3X p1 a (!b)
def y5Z(p0:BenT×Int×Bool)(p1:Int):Option (BenT×Int×Bool):=
 if p0.2.2 then
  y3Y p1 (p0.1,p0.2.1,true)
 else
  (y5Y p0 p1).bind fun a=>
  y3Y p1 (a.2.1,a.2.2.1,(!a.1))
theorem y8R{p0:BenT×Int×Bool}{p1:Int}{r:(BenT×Int×Bool)}(hm:y5Z p0 p1=some r):
    Fw Tryz.prog 124 ⟨1,[0]⟩ [.o (lP 0 0),.i p1] [.bx 201 (lx201 p0)] (.tp []) [.bx 201 (lx201 r)]:=by
  unfold y5Z at hm;refine Fw.mk2 Tryz.func124 Tryz.ntmps124 R (fun C=>?_) R;refine .sr (.bo 1 R (.bo 2 R (.ns ?_)));refine .join1 (fun (c:BenT×Int×Bool)=>y3Y p1 c=some r) (fun c=>⟨[(3,.q 1 0),(2,.q 2 0)],[(0,.bx 201 (lx201 c)),(1,.bx 3 [lI p1]),(2,.bx 275 [lP 0 0])],3⟩) ?_ ?_
  · intro c hm;unfold y3Y at hm;refine .seq ?_;refine .join1 (fun (f:Bool)=>y3X p1 c f=some r) (fun f=>⟨[(35,.b f),(3,.q 1 0),(2,.q 2 0)],[(0,.bx 201 (lx201 c)),(1,.bx 3 [lI p1]),(2,.bx 275 [lP 0 0])],3⟩) ?_ ?_
    · intro f hm;unfold y3X at hm;refine .cc hm R (fun hm=>?_) fun hm=>?_
      ·refine .ret (.seqR ?_);cases hm;exact .rr [0] Tryz.results124 .nil R I3 ⟨⟨_,R,I4⟩,trivial⟩
      ·refine .skip (.seqN (.sr (.lb y6D R (.op (O.nc .B Z R R) R (.fa ybl R (.fa y7k R (.fa y6B R (.fa y1x R (.lb nag33 R (.op (O.mz (l:=[lP 2 0,lP 1 0]) Z R R) R (bS hm fun w t hm=> .op (O.caZ (y5Q t) cf140 R R Z R ⟨⟨R,LnL.rf⟩,⟨R,(.z (l':=[lQ 275 [lK rE201 201 (some c)] 0,lQ 3 [lI p1] 0]) cf187 (fun x r h=>y8r h) (fun _=>R) R ⟨(.q R ⟨(.cv (.q R LnL.rf) (.pk (r:=rE201) (.p (.p (.p (.p .l (.p .k (.p .l .l))) (.p (.p .l (.p .k (.p .l .l))) .l)) (.p (.p (.p .k (.p .k (.p .k (.p .l .l)))) (.p .l (.p .l .k))) (.p .k (.p .l .l)))) (.p .k .b)))),trivial⟩),(.q R LnL.rf),trivial⟩),trivial⟩,trivial⟩ (fun _ _ _ _ _ h=>h) R) R (.an R (.seq (.sr (.mv R (.bi R (.ns ?_)))))))))))))))));refine .cc hm R (fun hm=>?_) fun hm=>?_
       ·refine .sr (.lb y6D R (.op (O.nc .B Z R R) R (.fa y8t R (.st nag4.sz R (.ns (.ret (.seqR ?_)))))));cases hm;exact .rr [0] Tryz.results124 .nil R I3 ⟨⟨_,R,I4⟩,trivial⟩
       ·refine .skip (.seqN ?_);refine .sub (τ:=⟨[(4,.i w),(2,.q 2 0)],[(0,.bx 201 (lx201 c)),(2,.bx 275 [lP 0 0])],3⟩) ?_ [] R;refine bS hm fun D v hm=>?_;refine .drg 3 [(3,[]),(3,[]),(3,[oF,oT]),(3,[oF,oT,oT]),(3,fA 1 (tT 3)),(3,fA 1 (tT 4)),(3,fA 1 (tT 5)),(3,fA 1 (tT 6)),(3,[]),(3,fA 1 (tT 8)),(3,fA 1 (tT 9)),(3,fA 1 (tT 10)),(3,tT 12),(3,tT 13),(3,tT 14)] [_,_,_,_,_,_,_,_,_,_,_,_,_,_,_] ⟨[],[(0,.bx 201 [lF qI c.1.1.1.1,lI c.1.1.1.2.1,lF qI c.1.1.1.2.2.1,lF qT c.1.1.1.2.2.2,lF qI c.1.1.2.1.1,lI c.1.1.2.1.2.1,lF qI c.1.1.2.1.2.2.1,lF qT c.1.1.2.1.2.2.2,lF qI c.1.1.2.2,lI c.1.2.1.1.1,lI c.1.2.1.1.2.1,lI c.1.2.1.1.2.2.1,lF rB c.1.2.1.1.2.2.2.1,lF rE302 c.1.2.1.1.2.2.2.2,lF qI c.1.2.1.2.1,lF qI c.1.2.1.2.2.1,lI c.1.2.1.2.2.2,lI c.1.2.2.1,lF rB c.1.2.2.2.1,lF rB c.1.2.2.2.2,lI D.2.2,lB c.2.2])],3⟩ ⟨O.ld y6D Z R (.B R) R R,O.ld y6D Z R (.B R) R R,O.nc .B Z R R,O.faP ybl Z R R,O.faP y7k Z R R,O.faP y6B Z R R,O.faP y1x Z R R,O.ld nag33 Z R (.B R) R R,O.mv Z R R,O.ix sl33 Z R R v R,O.faE y4B Z R R,O.ld nag3 Z R (.E lv124) R R,O.nc .B Z R R,O.faP ycD Z R R,O.st nag3.sz Z R R R R R,trivial⟩ (by kernel_rfl) R ?_;cases hm;exact WX.rt [0] (.inr R) Tryz.results124 .nil R I3 ⟨⟨_,R,I4⟩,trivial⟩
    · intro j;refine .sub (τ:=⟨[(3,.q 1 0),(2,.q 2 0)],[(0,.bx 201 (lx201 c)),(1,.bx 3 [lI p1]),(2,.bx 275 [lP 0 0])],3⟩) ?_ [] R;refine .drP 4 [(3,[]),(3,[oT]),(3,[oT,oT]),(3,tT 3)] [_,_,_,_] ⟨O.ld y6D Z R (.B R) R R,O.nc .B Z R R,O.faP y8t Z R R,O.ld nag4 Z R (.B R) R R,trivial⟩ fun m=>?_;rcases ifS hm with ⟨e,hm⟩|⟨e,hm⟩
      · skip
        exact .drF m [(3,tT 4),(3,tT 5),(3,tT 6),(3,tT 7),(3,tT 8),(3,tT 9),(3,tT 10),(3,tT 11),(3,tT 5),(3,tT 13),(3,tT 14),(3,tT 15)] [_,_,_,_,_,_,_,_,_,_,_,_] ⟨[(35,.b true),(3,.q 1 0),(2,.q 2 0)],[(0,.bx 201 (lx201 c)),(1,.bx 3 [lI p1]),(2,.bx 275 [lP 0 0])],3⟩ ⟨O.kn (O.mv Z R R) e,O.skip R R R R,O.skip R R R R,O.skip R R R R,O.skip R R R R,O.skip R R R R,O.skip R R R R,O.skip R R R R,O.skip R R R R,O.skip R R R R,O.skip R R R R,O.pkT Z R R R R,trivial⟩ (by kernel_rfl) R ((j _ hm).sub [] R)
      · skip
        exact bS hm fun y u hm=> .drF m [(3,tT 4),(3,tT 5),(3,tT 6),(3,tT 7),(3,tT 8),(3,tT 9),(3,tT 10),(3,tT 11),(3,tT 5),(3,tT 13),(3,tT 14),(3,tT 15)] [_,_,_,_,_,_,_,_,_,_,_,_] ⟨[(35,.b (!y)),(3,.q 1 0),(2,.q 2 0)],[(0,.bx 201 (lx201 c)),(1,.bx 3 [lI p1]),(2,.bx 275 [lP 0 0])],3⟩ ⟨O.kn (O.mv Z R R) e,O.ld y6D (Gu.mk R R) R (.B R) R R,O.nc .B (Gu.mk R R) R R,O.faP ybl (Gu.mk R R) R R,O.faP y7k (Gu.mk R R) R R,O.faP y6B (Gu.mk R R) R R,O.faP yO (Gu.mk R R) R R,O.ld nag32 (Gu.mk R R) R (.B R) R R,O.ld nag3 (Gu.mk R R) R (.B R) R R,O.ca0 (yg u) cf104 R R (Gu.mk R R) R R R,O.not (Gu.mk R R) R R,O.pkF Z R R R R,trivial⟩ (by kernel_rfl) R ((j _ hm).sub [] R)
  · intro g;refine .sub (τ:=⟨[(3,.q 2 0),(2,.q 1 0)],[(0,.bx 201 (lx201 p0)),(2,.bx 3 [lI p1]),(1,.bx 275 [lP 0 0])],3⟩) ?_ [] R;refine .drP 5 [(3,[]),(3,[]),(3,[oF,oT]),(3,[oF,oT,oT]),(3,fA 1 (tT 3))] [_,_,_,_,_] ⟨O.ld y6D Z R (.B R) R R,O.ld y6D Z R (.B R) R R,O.nc .B Z R R,O.faP y8t Z R R,O.ld nag4 Z R (.B R) R R,trivial⟩ fun s=>?_;rcases ifS hm with ⟨d,hm⟩|⟨d,hm⟩
    · skip
      exact .drH s 3 [(3,fA 1 (tT 4)),(3,fA 1 (tT 5)),(3,fA 1 (tT 6)),(3,fA 1 (tT 7)),(3,fA 1 (tT 5)),(3,fA 1 (tT 9)),(3,fA 1 (tT 10)),(3,fA 1 (tT 11)),(3,tT 13),(3,tT 14),(3,tT 15)] [_,_,_,_,_,_,_,_,_,_,_] ⟨[(3,.q 2 0),(2,.q 1 0)],[(0,.bx 201 [lF qI p0.1.1.1.1,lI p0.1.1.1.2.1,lF qI p0.1.1.1.2.2.1,lF qT p0.1.1.1.2.2.2,lF qI p0.1.1.2.1.1,lI p0.1.1.2.1.2.1,lF qI p0.1.1.2.1.2.2.1,lF qT p0.1.1.2.1.2.2.2,lF qI p0.1.1.2.2,lI p0.1.2.1.1.1,lI p0.1.2.1.1.2.1,lI p0.1.2.1.1.2.2.1,lF rB p0.1.2.1.1.2.2.2.1,lF rE302 p0.1.2.1.1.2.2.2.2,lF qI p0.1.2.1.2.1,lF qI p0.1.2.1.2.2.1,lI p0.1.2.1.2.2.2,lI p0.1.2.2.1,lF rB p0.1.2.2.2.1,lF rB p0.1.2.2.2.2,lI p0.2.1,lB true]),(2,.bx 3 [lI p1]),(1,.bx 275 [lP 0 0])],3⟩ ⟨O.kn (O.mv Z R R) d,O.skip R R R R,O.skip R R R R,O.skip R R R R,O.skip R R R R,O.skip R R R R,O.skip R R R R,O.pkT Z R R R R,O.nc .B Z R R,O.faP y8t Z R R,O.st nag4.sz Z R R R R R,trivial⟩ (by kernel_rfl) R ((g _ hm).sub [(1,2),(2,1)] R)
    · skip
      refine bS hm fun a n hm=>?_;refine .drz 3 [(10,0)] [(3,[],[0],[]),(3,[],[],[]),(3,[oF,oT],[],[]),(3,[oF,oT,oT],[],[]),(3,[oF,oT,oT,oT],[],[]),(3,[oF,oT,oT,oT,oT],[],[]),(3,[oF,oT,oT,oT,oT,oT],[],[]),(3,[oF,oT,oT,oT,oT,oT,oT],[],[]),(3,[oF,oT,oT,oT,oT,oT,oT,oT],[],[]),(3,[oF,oT,oT,oT,oT,oT],[],[]),(3,[oF,oT,oT,oT,oT,oT,oT,oT,oT,oT],[],[]),(3,[oF,oT,oT,oT,oT,oT,oT,oT,oT,oT,oT],[],[]),(3,[oF,oT,oT,oT,oT,oT,oT,oT,oT,oT,oT,oT],[],[]),(3,[oT,oT,oT,oT,oT,oT,oT,oT,oT,oT,oT,oT,oT],[],[]),(3,[oT,oT,oT,oT,oT,oT,oT,oT,oT,oT,oT,oT,oT,oT],[],[]),(3,[oT,oT,oT,oT,oT,oT,oT,oT,oT,oT,oT,oT,oT,oT,oT],[],[])] [_,_,_,_,_,_,_,_,_,_,_,_,_,_,_,_] ⟨[(3,.q 2 0),(2,.q 1 0)],[(0,.bx 201 [lF qI a.2.1.1.1.1,lI a.2.1.1.1.2.1,lF qI a.2.1.1.1.2.2.1,lF qT a.2.1.1.1.2.2.2,lF qI a.2.1.1.2.1.1,lI a.2.1.1.2.1.2.1,lF qI a.2.1.1.2.1.2.2.1,lF qT a.2.1.1.2.1.2.2.2,lF qI a.2.1.1.2.2,lI a.2.1.2.1.1.1,lI a.2.1.2.1.1.2.1,lI a.2.1.2.1.1.2.2.1,lF rB a.2.1.2.1.1.2.2.2.1,lF rE302 a.2.1.2.1.1.2.2.2.2,lF qI a.2.1.2.1.2.1,lF qI a.2.1.2.1.2.2.1,lI a.2.1.2.1.2.2.2,lI a.2.1.2.2.1,lF rB a.2.1.2.2.2.1,lF rB a.2.1.2.2.2.2,lI a.2.2.1,lB (!a.1)]),(2,.bx 3 [lI p1]),(1,.bx 275 [lP 0 0])],3⟩ ⟨O.ld y6D Z R (.B R) R R,O.ld y6D Z R (.B R) R R,O.nc .B Z R R,O.faP y8t Z R R,O.ld nag4 Z R (.B R) R R,O.kn (O.mv Z R R) d,O.ld y6D (Gu.mk R R) R (.B R) R R,O.nc .B (Gu.mk R R) R R,O.faP ybl (Gu.mk R R) R R,O.ld nag3 (Gu.mk R R) R (.B R) R R,O.ca (r':= .b a.1) [0] [(0,.bx 201 (lx201 a.2))] none (y8Q n) cf186 R R (Gu.mk R R) R R R R ⟨⟨_,R,I4⟩,trivial⟩ I3 R,O.not (Gu.mk R R) R R,O.pkF Z R R R R,O.nc .B Z R R,O.faP y8t Z R R,O.st nag4.sz Z R R R R R,trivial⟩ (by kernel_rfl) R ?_;exact(g _ hm).sub [(1,2),(2,1)] R
def y6H(b:List Int)(a:Int×(BenT×Int×Bool)):Option ((Int×(BenT×Int×Bool))⊕(BenT×Int×Bool)):=
 if decide (a.1<(b.length:Int)) then
  (idx b a.1).bind fun d=>
  (y5Z a.2 d).bind fun c=>
  some (.inl (W (a.1+1),c))
 else
  some (.inr a.2)
def y6I(p1:List StpT)(a:Int×(BenT×Int×Bool)):Option ((Int×(BenT×Int×Bool))⊕(Unit⊕(Int×Int))):=
 if decide (a.1<(p1.length:Int)) then
  (idx p1 a.1).bind fun c=>
  (y5u c).bind fun d=>
  (iter (y6H d) (0,a.2)).bind fun b=>
  if b.2.2 then
   some (.inr (.inr ((1,a.1))))
  else
   if c.2.2.2.2.2.2 then
    some (.inr (.inr ((2,a.1))))
   else
    if(c.2.2.2.2.2.1 != b.2.1) then
     some (.inr (.inr ((3,a.1))))
    else
     some (.inl (W (a.1+1),b))
 else
  some (.inr (.inl ()))
def y5g(p0:PbT)(p1:List StpT):Option (Int×Int×Bool×Int):=
 (yD p0).bind fun c=>
 if(c != 0) then
  some (0,0,false,c)
 else
  (y6n p1).bind fun d=>
  (y5R d (y4O p0)).bind fun e=>
  if e then
   some (0,0,false,9)
  else
   (iter (y6I p1) (0,(p0,((0,0,0,([]:List Bool),([]:List (Int×Int))),([]:List Int),([]:List Int),0),0,([]:List Bool),([]:List Bool)),0,false)).bind fun b=>
   match b with
   | .inl f=>
    some (0,0,false,0)
   | .inr (a)=>
    some (a.2,a.1,true,0)
theorem y6P{p0:PbT}{p1:List StpT}{r:Int×Int×Bool×Int}(hm:y5g p0 p1=some r):
    F0 49 [.a (lx37 p0),.f rE100 p1] [] (.tp [.i r.1,.i r.2.1,.b r.2.2.1,.i r.2.2.2]) []:=by
  unfold y5g at hm;refine Fw.mk2 Tryz.func49 Tryz.ntmps49 R (fun C=>?_) R;refine .sr (.bo 0 R (.sa R (.sa R (.sa R (.an R (.seq (.sr (.op (O.lg (l':=(lx37 p0)) ag37 Z R (.B R) R R R) R (bS hm fun W L hm=> .c0 (y6x L) cf62 R (.an R (.sr (.mv R (.bi R (.ns ?_))))))))))))));refine .cc hm R (fun hm=>?_) fun hm=>?_
  ·refine .sr (.mv R (.sa R (.sa R (.sa R (.an R (.ret (.seqR ?_)))))));cases hm;exact .rr [] Tryz.results49 (.tmp R (.tmp R (.tmp R (.tmp R .nil)))) R I3 trivial
  ·refine .skip (.seqN (.seq (.sr (.mv R (bS hm fun U M hm=> .op (O.ca (r':= .h 1) [1] [(0,ROW qI 3 U)] (some 2) (y8b M) cf53 R R Z R R R R ⟨⟨_,R,I4⟩,trivial⟩ I3 R) R (.fz 0 [2] [] R R fB R R (.op (O.mf (args:=(fun (x:Int)=> [.i x])) (res:=(fun (r:Bool)=> .b r)) (m:=(y4O p0)) cf122 (fun x r h=>y8I h) (fun _=>R) R Z R R) R (bS hm fun X N hm=> .op (O.caZ (y8H N) cf106 R R Z R ⟨⟨R,.hr R,trivial⟩,⟨R,LnL.rf⟩,trivial⟩ (fun _ _ _ _ _ h=>h) R) R (.ns ?_)))))))));refine .cc hm R (fun hm=>?_) fun hm=>?_
   ·refine .sr (.sa R (.sa R (.sa R (.an R (.ret (.seqR ?_))))));cases hm;exact .rr [] Tryz.results49 (.tmp R (.tmp R (.tmp R (.tmp R .nil)))) R I3 trivial
   ·refine .skip (.seqN (.sr (.op (O.lg (l':=(lx37 p0)) ag37 Z R .Q R R R) R (.op (O.bu (l:=[lF qI p0.1.1,lI p0.1.2.1,lF qI p0.1.2.2.1,lF qT p0.1.2.2.2,lF qI p0.2.1.1,lI p0.2.1.2.1,lF qI p0.2.1.2.2.1,lF qT p0.2.1.2.2.2,lF qI p0.2.2,lI 0,lI 0,lI 0,lN,lN,lN,lN,lI 0,lI 0,lN,lN]) pl199 R Z R R R) R (.op (O.bu (l:=[lF qI p0.1.1,lI p0.1.2.1,lF qI p0.1.2.2.1,lF qT p0.1.2.2.2,lF qI p0.2.1.1,lI p0.2.1.2.1,lF qI p0.2.1.2.2.1,lF qT p0.2.1.2.2.2,lF qI p0.2.2,lI 0,lI 0,lI 0,lN,lN,lN,lN,lI 0,lI 0,lN,lN,lI 0,lB false]) pl201 R Z R R R) R (.al 2 zz201 R (.st ag201.sz R (.ns (.seq (.sr (.mv R (.ln sl91 R (.mv R (.ns (.block (bS hm fun u v hm=>?_))))))))))))))));refine .cutU (z:= .exit 0) (fun t=> .inl t=u) (fun (t:Unit)=>⟨[],[],0⟩) ?_ fun J=>?_
    · rintro t rfl;dsimp only at hm;refine .blkE (.seqN (.sr (.sa R (.sa R (.sa R (.an R (.ret ?_)))))));cases hm;exact .rr [] Tryz.results49 (.tmp R (.tmp R (.tmp R (.tmp R .nil)))) R I3 trivial
    refine .cutU (z:= .ret) (fun g=> .inr (g)=u) (fun (g:Int×Int)=>⟨[(7,.i 0),(6,.b true),(5,.i g.1),(4,.i g.2)],[],0⟩) ?_ fun n=>?_
    · rintro g rfl;dsimp only at hm;refine .blkR (.seqR ?_);cases hm;exact .rr [] Tryz.results49 (.tmp R (.tmp R (.tmp R (.tmp R .nil)))) R I3 trivial
    refine .cno 2 R (.c .rf (.c .rf (.c .rf (.c .rf (.c .rf (.c .rf (.c .rf (.c .rf (.c .rf (.c .rf (.c .rf (.c .rf (.c (.nf (r:=rB)) (.c (.nf (r:=rE302)) (.c (.nf (r:=qI)) (.c (.nf (r:=qI)) (.c .rf (.c .rf (.c (.nf (r:=rB)) (.c (.nf (r:=rB)) .rf)))))))))))))))))))) R (.iter (fun (d:Int×(BenT×Int×Bool))=>⟨[(27,.i d.1),(26,.i (p1.length:Int)),(25,.f rE100 p1),(8,.q 0 0)],[(0,.bx 201 (lx201 d.2))],1⟩) v [(0,2)] R ?_);intro d S hm H e;unfold y6I at hm;refine .sr (.bi R (.ns (.seq ?_)));refine .cc hm R (fun hm=>?_) fun hm=> .exit (.seqX (.seqX ((J _ (e _ (oi hm).symm)).sub [] R)));refine .skip (.seqN (.seq (.block (.sr (.mv R (bS hm fun k F hm=> .ix sl91 F R (.op (O.lg (l':=(lx100 k)) ag100 Z R (.E lv100) R R R) R (.al 1 zz100 R (.sa R (.st ag100.sz R (.ns (.seq (.sr (.op (O.lg (l':=(lx100 k)) ag100 Z R (.B R) R R R) R (bS hm fun s y hm=> .op (O.ca (r':= .h 2) [2] [(0,ROW qI 3 s)] (some 3) (y7c y) cf123 R R Z R R R R ⟨⟨_,R,I4⟩,trivial⟩ I3 R) R (.op (O.lenH sl32 Z R R R) R (.mv R (.ns (.block (bS hm fun p w hm=>?_))))))))))))))))))));refine .cut1 (z:= .exit 2) p (fun (p:(BenT×Int×Bool))=>⟨[(9,.i d.1),(10,.q 0 0),(27,.i d.1),(26,.i (p1.length:Int)),(25,.f rE100 p1),(8,.q 1 0)],[(0,.bx 100 (lx100 k)),(1,.bx 201 (lx201 p))],2⟩) ?_ fun K=>?_
    · skip
      refine .blkE (.seqN (.block (.sr (.fa y8t R (.lb nag4 R (.an R ?_))))));refine .cc hm R (fun hm=> .sr (.mv R (.sa R (.sa R (.sa R (.an R (.ret (.blkR (.blkR (.seqR (.seqR ((n _ (e _ (oi hm).symm)).sub [] R)))))))))))) fun hm=>?_;refine .sr (.fa ybk R (.lb nag4 R (.an R ?_)));refine .cc hm R (fun hm=> .sr (.mv R (.sa R (.sa R (.sa R (.an R (.ret (.blkR (.blkR (.seqR (.seqR ((n _ (e _ (oi hm).symm)).sub [] R)))))))))))) fun hm=>?_;refine .sr (.fa ybj R (.lb nag3 R (.fa ycD R (.lb nag3 R (.bi R (.an R ?_))))));exact .cc hm R (fun hm=> .sr (.mv R (.sa R (.sa R (.sa R (.an R (.ret (.blkR (.blkR (.seqR (.seqR ((n _ (e _ (oi hm).symm)).sub [] R)))))))))))) fun hm=> .skip (.blkN (.blkN (.seqN (.reg (.bi R (.mv R (.nil ((H _ (oi hm).symm).sub [(0,1)] R))))))))
    refine .iter (fun (j:Int×(BenT×Int×Bool))=>⟨[(35,.i j.1),(34,.i (s.length:Int)),(33,.h 0),(9,.i d.1),(10,.q 1 0),(27,.i d.1),(26,.i (p1.length:Int)),(25,.f rE100 p1),(8,.q 2 0)],[(0,ROW qI 3 s),(1,.bx 100 (lx100 k)),(2,.bx 201 (lx201 j.2))],3⟩) w [(0,2),(2,0)] R ?_;intro j T hm I G;unfold y6H at hm;refine .sr (.bi R (.ns (.seq ?_)));exact .cc hm R (fun hm=> .skip (.seqN (.seq (.block (.sr (bS hm fun V o hm=> .op (O.ir sl32 Z R R R o R) R (.op (O.ld nag3 Z R (.R R o lv3) R R) R (.an R (.reg (.mv R (bS hm fun P D hm=> .op (O.ca (r':= .tp []) [2] [(0,.bx 201 (lx201 P))] none (y8R D) cf124 R R Z R R R R ⟨⟨_,R,I4⟩,trivial⟩ I3 R) R (.nil (.blkN (.seqN (.reg (.bi R (.mv R (.nil ((I _ (oi hm).symm).sub [] R))))))))))))))))))) fun hm=> .exit (.seqX (.seqX ((K _ (G _ (oi hm).symm)).sub [(0,1),(1,2)] R)))
def y5F :Option Bool:=
 (y3H).bind fun n=>
 (y4x n ([(([]:List Int),([0]:List Int),2)]:List CycT)).bind fun a=>
 (y3H).bind fun o=>
 (y5g o a.1).bind fun c=>
 (y3H).bind fun p=>
 (y4x p ([(([0]:List Int),([]:List Int),2)]:List CycT)).bind fun b=>
 (y3H).bind fun q=>
 (y5g q b.1).bind fun j=>
 (if ((a.2==0)&&((a.1.length:Int)==1)) then
  (idx a.1 0).bind fun m=>
  some m.2.2.2.2.1
 else
  some false).bind fun d=>
 (if d then
  (y6n a.1).bind fun h=>
  (y1c h ([0,2]:List Int)).bind fun i=>
  some i
 else
  some false).bind fun e=>
 (if ((((((e&&(c.2.2.2==0))&&c.2.2.1)&&(c.1==0))&&(c.2.1==1))&&(b.2==0))&&((b.1.length:Int)==1)) then
  (idx b.1 0).bind fun l=>
  some (l.2.2.2.1==(-1))
 else
  some false).bind fun f=>
 (if f then
  (idx b.1 0).bind fun k=>
  some ((k.2.2.1.length:Int)==0)
 else
  some false).bind fun g=>
 some ((g&&(j.2.2.2==0))&&(!j.2.2.1))
theorem y9F{r:Bool}(hm:y5F=some r):
  F0 46 [] [] (.b r) []:=by
 unfold y5F at hm;refine Fw.mk2 Tryz.func46 Tryz.ntmps46 R (fun C=>?_) R;refine .sr (.an R (.sr (bS hm fun r1 a2 hm=> .c0 (y5t a2) cf118 R (.op (O.bsF (r:=qI) (zs:=([0]:List Int)) bs32 R R Z R R R (.c .k .n) R R R) R (.op (O.bu (l:=[lN,lF qI ([0]:List Int),lI 2]) pl114 R Z R R R) R (.op (O.bsF (r:=rE114) (zs:=([(([]:List Int),([0]:List Int),2)]:List CycT)) bs94 R R Z R R R (.c (.p .n (.p .l .k)) .n) R R R) R (bS hm fun m a3 hm=> .op (O.ca (r':= .tp [.h 0,.i m.2]) [0] [(0,ROW rE100 100 m.1)] (some 1) (y7b a3) cf57 R R Z R R R R ⟨⟨_,R,I4⟩,trivial⟩ I3 R) R (.mv R (.ex R (.ex R (.sa R (.an R (.sr (bS hm fun r3 a4 hm=> .c0 (y5t a4) cf118 R (.mv R (bS hm fun a a5 hm=> .op (O.caZ (y6P a5) cf49 R R Z R ⟨⟨R,LnL.rf⟩,⟨R,.hr R,trivial⟩,trivial⟩ (fun _ _ _ _ _ h=>h) R) R (.mv R (.ex R (.ex R (.ex R (.ex R (.sa R (.sa R (.sa R (.an R (.seq ?_))))))))))))))))))))))))));refine .reg (bS hm fun r5 a6 hm=> .c0 (y5t a6) cf118 R (.op (O.bsF (r:=qI) (zs:=([0]:List Int)) bs32 R R Z R R R (.c .k .n) R R R) R (.op (O.bu (l:=[lF qI ([0]:List Int),lN,lI 2]) pl114 R Z R R R) R (.op (O.bsF (r:=rE114) (zs:=([(([0]:List Int),([]:List Int),2)]:List CycT)) bs94 R R Z R R R (.c (.p .l (.p .n .k)) .n) R R R) R (bS hm fun f a7 hm=> .op (O.ca (r':= .tp [.h 1,.i f.2]) [1] [(0,ROW rE100 100 f.1)] (some 2) (y7b a7) cf57 R R Z R R R R ⟨⟨_,R,I4⟩,trivial⟩ I3 R) R (.mv R (.ex R (.ex R (.sa R (.an R (.sr (bS hm fun r7 a8 hm=> .c0 (y5t a8) cf118 R (.mv R (bS hm fun e a9 hm=> .op (O.caZ (y6P a9) cf49 R R Z R ⟨⟨R,LnL.rf⟩,⟨R,.hr R,trivial⟩,trivial⟩ (fun _ _ _ _ _ h=>h) R) R (.mv R (.ex R (.ex R (.ex R (.ex R (.sa R (.sa R (.sa R (.an R (.sr (.mv R (.bi R (.mv R ?_)))))))))))))))))))))))))));refine .cut 4 (fun (Y:Bool)=>((m.2==0)&&((m.1.length:Int)==1))=Y) (fun Y=>⟨[(51,.b Y),(12,.i e.2.2.2),(11,.b e.2.2.1),(8,.i f.2),(7,.h 1),(6,.i a.2.2.2),(5,.b a.2.2.1),(4,.i a.2.1),(3,.i a.1),(1,.h 0)],[(1,ROW rE100 100 f.1),(0,ROW rE100 100 m.1)],2⟩) ?_ ?_
 ·rintro _ rfl;refine .mv R (bS hm fun a0 eb11 hm=>?_);refine .cut 5 (fun (t:Bool)=>a0=t) (fun t=>⟨[(57,.b t),(12,.i e.2.2.2),(11,.b e.2.2.1),(8,.i f.2),(7,.h 1),(6,.i a.2.2.2),(5,.b a.2.2.1),(4,.i a.2.1),(3,.i a.1),(1,.h 0)],[(1,ROW rE100 100 f.1),(0,ROW rE100 100 m.1)],2⟩) ?_ ?_
  ·rintro _ rfl;refine .mv R (bS hm fun g eb14 hm=>?_);refine .cut 5 (fun (u:Bool)=>g=u) (fun u=>⟨[(63,.b u),(12,.i e.2.2.2),(11,.b e.2.2.1),(8,.i f.2),(7,.h 1),(6,.i a.2.2.2),(5,.b a.2.2.1),(4,.i a.2.1),(3,.i a.1)],[(1,ROW rE100 100 f.1)],3⟩) ?_ ?_
   ·rintro _ rfl;refine .mv R ?_;refine .cut 3 (fun (v:Bool)=>(g&&(a.2.2.2==0))=v) (fun v=>⟨[(67,.b v),(12,.i e.2.2.2),(11,.b e.2.2.1),(8,.i f.2),(7,.h 1),(5,.b a.2.2.1),(4,.i a.2.1),(3,.i a.1)],[(1,ROW rE100 100 f.1)],3⟩) ?_ ?_
    ·rintro _ rfl;refine .mv R ?_;refine .cut 2 (fun (w:Bool)=>((g&&(a.2.2.2==0))&&a.2.2.1)=w) (fun w=>⟨[(70,.b w),(12,.i e.2.2.2),(11,.b e.2.2.1),(8,.i f.2),(7,.h 1),(4,.i a.2.1),(3,.i a.1)],[(1,ROW rE100 100 f.1)],3⟩) ?_ ?_
     ·rintro _ rfl;refine .mv R ?_;refine .cut 3 (fun (x:Bool)=>(((g&&(a.2.2.2==0))&&a.2.2.1)&&(a.1==0))=x) (fun x=>⟨[(74,.b x),(12,.i e.2.2.2),(11,.b e.2.2.1),(8,.i f.2),(7,.h 1),(4,.i a.2.1)],[(1,ROW rE100 100 f.1)],3⟩) ?_ ?_
      ·rintro _ rfl;refine .mv R ?_;refine .cut 3 (fun (y:Bool)=>((((g&&(a.2.2.2==0))&&a.2.2.1)&&(a.1==0))&&(a.2.1==1))=y) (fun y=>⟨[(78,.b y),(12,.i e.2.2.2),(11,.b e.2.2.1),(8,.i f.2),(7,.h 1)],[(1,ROW rE100 100 f.1)],3⟩) ?_ ?_
       ·rintro _ rfl;refine .mv R ?_;refine .cut 3 (fun (z:Bool)=>(((((g&&(a.2.2.2==0))&&a.2.2.1)&&(a.1==0))&&(a.2.1==1))&&(f.2==0))=z) (fun z=>⟨[(82,.b z),(12,.i e.2.2.2),(11,.b e.2.2.1),(7,.h 1)],[(1,ROW rE100 100 f.1)],3⟩) ?_ ?_
        ·rintro _ rfl;refine .mv R ?_;refine .cut 4 (fun (B:Bool)=>((((((g&&(a.2.2.2==0))&&a.2.2.1)&&(a.1==0))&&(a.2.1==1))&&(f.2==0))&&((f.1.length:Int)==1))=B) (fun B=>⟨[(87,.b B),(12,.i e.2.2.2),(11,.b e.2.2.1),(7,.h 1)],[(1,ROW rE100 100 f.1)],3⟩) ?_ ?_
         ·rintro _ rfl;refine .mv R (bS hm fun a1 eb29 hm=>?_);refine .cut 6 (fun (D:Bool)=>a1=D) (fun D=>⟨[(94,.b D),(12,.i e.2.2.2),(11,.b e.2.2.1),(7,.h 1)],[(1,ROW rE100 100 f.1)],3⟩) ?_ ?_
          ·rintro _ rfl;refine .mv R (bS hm fun j eb32 hm=>?_);refine .cut 7 (fun (E:Bool)=>j=E) (fun E=>⟨[(102,.b E),(12,.i e.2.2.2),(11,.b e.2.2.1)],[],3⟩) ?_ ?_
           ·rintro _ rfl;refine .mv R ?_;refine .cut 3 (fun (F:Bool)=>(j&&(e.2.2.2==0))=F) (fun F=>⟨[(106,.b F),(11,.b e.2.2.1)],[],3⟩) ?_ ?_
            ·rintro _ rfl;refine .mv R ?_;refine .cut 3 (fun (G:Bool)=>((j&&(e.2.2.2==0))&&(!e.2.2.1))=G) (fun G=>⟨[(110,.b G)],[],3⟩) ?_ ?_
             ·rintro _ rfl;refine .an R (.ret ?_);cases hm;exact .rr [] Tryz.results46 (.tmp R .nil) R I3 trivial
             ·intro V;rcases Bool.eq_false_or_eq_true (j&&(e.2.2.2==0)) with hc|hc
              ·refine .know (d:=107) R hc ?_;exact .op (O.mv (Gu.mk R R) R R) R (.op (O.not (Gu.mk R R) R R) R (.op (O.pkT Z R R R R) R ((V (!e.2.2.1) (andT hc).symm).sub [] R)))
              ·refine .know (d:=107) R hc ?_;exact .sk R (.sk R (.op (O.pkF Z R R R R) R ((V false (andF hc).symm).sub [] R)))
            ·intro U;rcases Bool.eq_false_or_eq_true j with hc|hc
             ·refine .know (d:=103) R hc ?_;exact .op (O.mv (Gu.mk R R) R R) R (.op (O.bi (Gu.mk R R) R R R R) R (.op (O.pkT Z R R R R) R ((U (e.2.2.2==0) (andT hc).symm).sub [] R)))
             ·refine .know (d:=103) R hc ?_;exact .sk R (.sk R (.op (O.pkF Z R R R R) R ((U false (andF hc).symm).sub [] R)))
           ·intro T;rcases ifS eb32 with ⟨hc,hm⟩|⟨hc,hm⟩
            ·refine .know (d:=95) R hc ?_;exact .op (O.mv (Gu.mk R R) R R) R (bS hm fun b2 o hm=> .op (O.ir sl91 (Gu.mk R R) R R R o R) R (.op (O.faR ya7 (Gu.mk R R) R R) R (.op (O.ld nag32 (Gu.mk R R) R (.R R o lv100) R R) R (.op (O.len sl32 (Gu.mk R R) R R) R (.op (O.bi (Gu.mk R R) R R R R) R (.op (O.pkT Z R R R R) R ((T ((b2.2.2.1.length:Int)==0) (oi hm).symm).sub [] R)))))))
            ·refine .know (d:=95) R hc ?_;exact .sk R (.sk R (.sk R (.sk R (.sk R (.sk R (.op (O.pkF Z R R R R) R ((T false (oi hm).symm).sub [] R)))))))
          ·intro S;rcases ifS eb29 with ⟨hc,hm⟩|⟨hc,hm⟩
           ·refine .know (d:=88) R hc ?_;exact .op (O.mv (Gu.mk R R) R R) R (bS hm fun b3 q hm=> .op (O.ir sl91 (Gu.mk R R) R R R q R) R (.op (O.faR y7l (Gu.mk R R) R R) R (.op (O.ld nag3 (Gu.mk R R) R (.R R q lv100) R R) R (.op (O.bi (Gu.mk R R) R R R R) R (.op (O.pkT Z R R R R) R ((S (b3.2.2.2.1==(-1)) (oi hm).symm).sub [] R))))))
           ·refine .know (d:=88) R hc ?_;exact .sk R (.sk R (.sk R (.sk R (.sk R (.op (O.pkF Z R R R R) R ((S false (oi hm).symm).sub [] R))))))
         ·intro Q;rcases Bool.eq_false_or_eq_true (((((g&&(a.2.2.2==0))&&a.2.2.1)&&(a.1==0))&&(a.2.1==1))&&(f.2==0)) with hc|hc
          ·refine .know (d:=83) R hc ?_;exact .op (O.mv (Gu.mk R R) R R) R (.op (O.lenH sl91 (Gu.mk R R) R R R) R (.op (O.bi (Gu.mk R R) R R R R) R (.op (O.pkT Z R R R R) R ((Q ((f.1.length:Int)==1) (andT hc).symm).sub [] R))))
          ·refine .know (d:=83) R hc ?_;exact .sk R (.sk R (.sk R (.op (O.pkF Z R R R R) R ((Q false (andF hc).symm).sub [] R))))
        ·intro P;rcases Bool.eq_false_or_eq_true ((((g&&(a.2.2.2==0))&&a.2.2.1)&&(a.1==0))&&(a.2.1==1)) with hc|hc
         ·refine .know (d:=79) R hc ?_;exact .op (O.mv (Gu.mk R R) R R) R (.op (O.bi (Gu.mk R R) R R R R) R (.op (O.pkT Z R R R R) R ((P (f.2==0) (andT hc).symm).sub [] R)))
         ·refine .know (d:=79) R hc ?_;exact .sk R (.sk R (.op (O.pkF Z R R R R) R ((P false (andF hc).symm).sub [] R)))
       ·intro N;rcases Bool.eq_false_or_eq_true (((g&&(a.2.2.2==0))&&a.2.2.1)&&(a.1==0)) with hc|hc
        ·refine .know (d:=75) R hc ?_;exact .op (O.mv (Gu.mk R R) R R) R (.op (O.bi (Gu.mk R R) R R R R) R (.op (O.pkT Z R R R R) R ((N (a.2.1==1) (andT hc).symm).sub [] R)))
        ·refine .know (d:=75) R hc ?_;exact .sk R (.sk R (.op (O.pkF Z R R R R) R ((N false (andF hc).symm).sub [] R)))
      ·intro M;rcases Bool.eq_false_or_eq_true ((g&&(a.2.2.2==0))&&a.2.2.1) with hc|hc
       ·refine .know (d:=71) R hc ?_;exact .op (O.mv (Gu.mk R R) R R) R (.op (O.bi (Gu.mk R R) R R R R) R (.op (O.pkT Z R R R R) R ((M (a.1==0) (andT hc).symm).sub [] R)))
       ·refine .know (d:=71) R hc ?_;exact .sk R (.sk R (.op (O.pkF Z R R R R) R ((M false (andF hc).symm).sub [] R)))
     ·intro L;rcases Bool.eq_false_or_eq_true (g&&(a.2.2.2==0)) with hc|hc
      ·refine .know (d:=68) R hc ?_;exact .op (O.mv (Gu.mk R R) R R) R (.op (O.pkT Z R R R R) R ((L a.2.2.1 (andT hc).symm).sub [] R))
      ·refine .know (d:=68) R hc ?_;exact .sk R (.op (O.pkF Z R R R R) R ((L false (andF hc).symm).sub [] R))
    ·intro K;rcases Bool.eq_false_or_eq_true g with hc|hc
     ·refine .know (d:=64) R hc ?_;exact .op (O.mv (Gu.mk R R) R R) R (.op (O.bi (Gu.mk R R) R R R R) R (.op (O.pkT Z R R R R) R ((K (a.2.2.2==0) (andT hc).symm).sub [] R)))
     ·refine .know (d:=64) R hc ?_;exact .sk R (.sk R (.op (O.pkF Z R R R R) R ((K false (andF hc).symm).sub [] R)))
   ·intro J;rcases ifS eb14 with ⟨hc,hm⟩|⟨hc,hm⟩
    ·refine .know (d:=58) R hc ?_;exact .op (O.mv (Gu.mk R R) R R) R (bS hm fun b0 W hm=> .op (O.caY (r':= .h 2) [2] [(0,ROW qI 3 b0)] (some 3) (y8b W) cf53 R R (Gu.mk R R) R R ⟨⟨R,.hr R,trivial⟩,trivial⟩ R ⟨.row flr3,trivial⟩ (fun _ _ _ _ h=>h) ⟨⟨_,R,I4⟩,trivial⟩ I3 R) R (.op (O.bsF (r:=qI) (zs:=([0,2]:List Int)) bs32 R R (Gu.mk R R) R R R (.c .k (.c .k .n)) R R R) R (bS hm fun b1 X hm=> .op (O.caZ (y4l X) cf59 R R (Gu.mk R R) R ⟨⟨R,.hr R,trivial⟩,⟨R,LnL.rf⟩,trivial⟩ (fun _ _ _ _ _ h=>h) R) R (.op (O.pkT Z R R R R) R ((J b1 (oi hm).symm).sub [] R)))))
    ·refine .know (d:=58) R hc ?_;exact .sk R (.sk R (.sk R (.sk R (.op (O.pkF Z R R R R) R ((J false (oi hm).symm).sub [] R)))))
  ·intro I;rcases ifS eb11 with ⟨hc,hm⟩|⟨hc,hm⟩
   ·refine .know (d:=52) R hc ?_;exact .op (O.mv (Gu.mk R R) R R) R (bS hm fun b4 s hm=> .op (O.ir sl91 (Gu.mk R R) R R R s R) R (.op (O.faR y8d (Gu.mk R R) R R) R (.op (O.ld nag4 (Gu.mk R R) R (.R R s lv100) R R) R (.op (O.pkT Z R R R R) R ((I b4.2.2.2.2.1 (oi hm).symm).sub [] R)))))
   ·refine .know (d:=52) R hc ?_;exact .sk R (.sk R (.sk R (.sk R (.op (O.pkF Z R R R R) R ((I false (oi hm).symm).sub [] R)))))
 ·intro H;rcases Bool.eq_false_or_eq_true (m.2==0) with hc|hc
  ·refine .know (d:=47) R hc ?_;exact .op (O.mv (Gu.mk R R) R R) R (.op (O.lenH sl91 (Gu.mk R R) R R R) R (.op (O.bi (Gu.mk R R) R R R R) R (.op (O.pkT Z R R R R) R ((H ((m.1.length:Int)==1) (andT hc).symm).sub [] R))))
  ·refine .know (d:=47) R hc ?_;exact .sk R (.sk R (.sk R (.op (O.pkF Z R R R R) R ((H false (andF hc).symm).sub [] R))))
def y3k(p0:((Int×y1w)×(Int×y1w)×Int)×Bool):Option PbT:=
 (y4U p0.1 p0.2).bind fun a=>
 some a
theorem y8J{p0:((Int×y1w)×(Int×y1w)×Int)×Bool}{r:PbT}(hm:y3k p0=some r):
  F0 47 [.a (lx84 p0)] [] (.g [lF qI r.1.1,lI r.1.2.1,lF qI r.1.2.2.1,lF qT r.1.2.2.2,lH 0,lI r.2.1.2.1,lH 1,lH 2,lH 3]) [ROW qI 3 r.2.1.1,ROW qI 3 r.2.1.2.2.1,ROW qT 124 r.2.1.2.2.2,ROW qI 3 r.2.2]:=by
 unfold y3k at hm;refine Fw.mk2 Tryz.func47 Tryz.ntmps47 R (fun C=>?_) R;refine .sr (.bo 0 R (.al 1 zz37 R (.nr (.fa yig R (.op (O.lg (l':=(lx30 p0.1)) ag30 Z R (.B R) R R R) R (.fa yih R (.lb nag4 R (bS hm fun b c hm=> .op (O.ca (r':= .g [lF qI b.1.1,lI b.1.2.1,lF qI b.1.2.2.1,lF qT b.1.2.2.2,lH 2,lI b.2.1.2.1,lH 3,lH 4,lH 5]) [2,3,4,5] [(0,ROW qI 3 b.2.1.1),(1,ROW qI 3 b.2.1.2.2.1),(2,ROW qT 124 b.2.1.2.2.2),(3,ROW qI 3 b.2.2)] (some 6) (y9K c) cf16 R R Z R R R R ⟨⟨_,R,I4⟩,⟨_,R,I4⟩,⟨_,R,I4⟩,⟨_,R,I4⟩,trivial⟩ I3 R) R (.st ag37.sz R (.ns (.ret ?_)))))))))));cases hm;exact .rr [2,3,4,5] Tryz.results47 (.cell R R ag37 R .nil) R I3 ⟨⟨_,R,I4⟩,⟨_,R,I4⟩,⟨_,R,I4⟩,⟨_,R,I4⟩,trivial⟩
def y3f(p0:List Int)(p1:Int)(a:Int):Option (Int⊕(Unit⊕Unit)):=
 if decide (a<(p0.length:Int)) then
  (idx p0 a).bind fun b=>
  if(b==p1) then
   some (.inr (.inr (())))
  else
   some (.inl (W (a+1)))
 else
  some (.inr (.inl ()))
def y2o(p0:List Int)(p1:Int):Option Bool:=
 (iter (y3f p0 p1) 0).bind fun a=>
 match a with
 | .inl b=>
  some false
 | .inr (c)=>
  some true
theorem y6t{p0:List Int}{p1:Int}{r:Bool}(hm:y2o p0 p1=some r):
  F0 54 [.f qI p0,.i p1] [] (.b r) []:=by
 unfold y2o at hm;refine Fw.mk2 Tryz.func54 Tryz.ntmps54 R (fun C=>?_) R;refine .sr (.an R (.seq (.sr (.an R (.block (bS hm fun k g hm=>?_))))));refine .cutU (z:= .exit 0) (fun d=> .inl d=k) (fun (d:Unit)=>⟨[],[],0⟩) ?_ fun K6=>?_
 ·rintro d rfl;dsimp only at hm;refine .blkE (.seqN (.sr (.an R (.ret ?_))));cases hm;exact .rr [] Tryz.results54 (.tmp R .nil) R I3 trivial
 refine .cutU (z:= .ret) (fun e=> .inr (e)=k) (fun (e:Unit)=>⟨[(4,.b true)],[],0⟩) ?_ fun K8=>?_
 ·rintro e rfl;dsimp only at hm;refine .blkR (.seqR ?_);cases hm;exact .rr [] Tryz.results54 (.tmp R .nil) R I3 trivial
 refine .iter (fun (c:Int)=>⟨[(5,.i c),(0,.f qI p0),(1,.i p1)],[],0⟩) g [] R ?_;intro c l hm j a;unfold y3f at hm;refine .seq (.sr (.mv R (.mv R (.ln sl32 R (.bi R (.ns ?_))))));refine .cc hm R (fun hm=>?_) fun hm=> .exit (.seqX (.seqX ((K6 _ (a _ (oi hm).symm)).sub [] R)));refine .skip (.seqN (.seq (.block (.sr (.mv R (.mv R (bS hm fun m h hm=> .ix sl32 h R (.le nag3 lv3 R (.mv R (.bi R (.ns ?_)))))))))));exact .cc hm R (fun hm=> .sr (.an R (.ret (.blkR (.seqR (.seqR ((K8 _ (a _ (oi hm).symm)).sub [] R))))))) fun hm=> .skip (.blkN (.seqN (.reg (.mv R (.bi R (.sa R (.nil ((j _ (oi hm).symm).sub [] R))))))))
def y3Z(a:Int×List Int)(b:List Int):Option ((Int×List Int)⊕(List Int)):=
 some (.inl (W (a.1+1),b))
def y4a(p0:PbT)(a:Int×List Int):Option ((Int×List Int)⊕(List Int)):=
 if decide (a.1<(p0.2.1.1.length:Int)) then
  (idx p0.2.1.1 a.1).bind fun c=>
  (y2o p0.2.2 c).bind fun b=>
  if(!b) then
   (idx p0.2.1.1 a.1).bind fun d=>
   (app a.2 ([d]:List Int)).bind fun e=>
   y3Z a e
  else
   y3Z a a.2
 else
  some (.inr a.2)
def y6a(p0:PbT):Option (List Int):=
 (iter (y4a p0) (0,([]:List Int))).bind fun a=>
 some a
def y5G(p0:PbT):Option Int:=
 (y7a p0).bind fun a=>
 if(a != 0) then
  some a
 else
  if(p0.1.2.1==0) then
   some 12
  else
   (y6a p0).bind fun b=>
   (yP p0.2.1 b).bind fun c=>
   some c.2
def yN(a:Int×List Int)(b:List Int):Option ((Int×List Int)⊕(List Int)):=
 some (.inl (W (a.1+1),b))
def y2N(p0:PbT)(p1:Int)(p2:Bool)(a:Int×List Int):Option ((Int×List Int)⊕(List Int)):=
 if((decide (a.1<(p0.1.1.length:Int)))&&(decide ((a.2.length:Int)<3))) then
  (idx p0.1.1 a.1).bind fun b=>
  (y2o p0.2.2 b).bind fun d=>
  (if d then
   (ng a.1).bind fun _=>
   some ((IntKind.u8.wrap (((BitVec.ofInt 8 (p1.fdiv (2 ^ (min a.1.toNat 8))) &&& BitVec.ofInt 8 1).toNat:Int)))==1)
  else
   some false).bind fun c=>
  if c then
   if p2 then
    (app ([b]:List Int) a.2).bind fun e=>
    yN a e
   else
    (app a.2 ([b]:List Int)).bind fun f=>
    yN a f
  else
   yN a a.2
 else
  some (.inr a.2)
def y3L(p0:PbT)(p1:Int)(p2:Bool):Option (List Int):=
 (iter (y2N p0 p1 p2) (0,([]:List Int))).bind fun a=>
 some a
theorem y7x{p0:PbT}{p1:Int}{p2:Bool}{r:List Int}(hm:y3L p0 p1 p2=some r):
  F0 126 [.a (lx37 p0),.o (lV (.int .u8 p1)),.b p2] [] (.h 0) [ROW qI 3 r]:=by
 unfold y3L at hm;refine Fw.mk2 Tryz.func126 Tryz.ntmps126 R (fun C=>?_) R;refine .sr (.bo 0 R (.an R (.sr (.an R (.seq (.sr (.an R (.block (bS hm fun j v hm=>?_)))))))));refine .cut1 (z:= .exit 0) j (fun (j:List Int)=>⟨[(7,.h 0)],[(0,ROW qI 3 j)],1⟩) ?_ fun F=>?_
 ·skip
  refine .blkE (.seqN (.sr (.mv R (.an R (.ret ?_)))));cases hm;exact .rr [0] Tryz.results126 (.tmp R .nil) R I3 ⟨⟨_,R,I4⟩,trivial⟩
 refine .nlg qI 3 7 0 R R (.iter (fun (e:Int×List Int)=>⟨[(8,.i e.1),(7,.h 0),(3,.q 1 0),(1,.o (lV (.int .u8 p1))),(2,.b p2)],[(0,ROW qI 3 e.2),(1,.bx 37 (lx37 p0))],2⟩) v [(0,1),(1,0)] R ?_);intro e s hm E D;unfold y2N at hm;refine .seq (.sr (.mv R (.fa y3u R (.fa yO R (.lb nag32 R (.ln sl32 R (.bi R (.mv R ?_))))))));refine .cut 4 (fun (l:Bool)=>((decide (e.1<(p0.1.1.length:Int)))&&(decide ((e.2.length:Int)<3)))=l) (fun l=>⟨[(20,.b l),(8,.i e.1),(7,.h 0),(3,.q 1 0),(1,.o (lV (.int .u8 p1))),(2,.b p2)],[(0,ROW qI 3 e.2),(1,.bx 37 (lx37 p0))],2⟩) ?_ ?_
 ·rintro _ rfl;refine .ns ?_;refine .cc hm R (fun hm=>?_) fun hm=> .exit (.seqX (.seqX ((F _ (D _ (oi hm).symm)).sub [] R)));refine .skip (.seqN ?_);refine .join1 (fun (g:List Int)=>yN e g=some s) (fun g=>⟨[(7,.h 0),(8,.i e.1),(3,.q 1 0),(1,.o (lV (.int .u8 p1))),(2,.b p2)],[(0,ROW qI 3 g),(1,.bx 37 (lx37 p0))],2⟩) ?_ ?_
  ·intro g hm;unfold yN at hm;exact .reg (.mv R (.bi R (.sa R (.nil ((E _ (oi hm).symm).sub [] R)))))
  ·intro f;refine .block (.sr (.fa y3u R (.fa yO R (.lb nag32 R (.mv R (bS hm fun p x hm=> .ix sl32 x R (.le nag3 lv3 R (.an R (.sr (.fa y7N R (.lb nag32 R (.mv R (bS hm fun I w hm=> .c0 (y6t w) cf54 R (.mv R (bS hm fun G eb26 hm=>?_)))))))))))))));refine .cut 6 (fun (m:Bool)=>G=m) (fun m=>⟨[(39,.b m),(9,.i p),(8,.i e.1),(7,.h 0),(3,.q 1 0),(1,.o (lV (.int .u8 p1))),(2,.b p2)],[(0,ROW qI 3 e.2),(1,.bx 37 (lx37 p0))],2⟩) ?_ ?_
   ·rintro _ rfl;refine .ns ?_;refine .cc hm R (fun hm=>?_) fun hm=> .skip (.blkN ((f _ hm).sub [] R));refine .sr (.mv R (.ns ?_));exact .cc hm R (fun hm=> .reg (.mv R (.op (O.bsO (r:=qI) (zs:=([p]:List Int)) 2 R bs32 R R Z R R R (.c .k .n) R R R) R (.mv R (bS hm fun J y hm=> .op (O.ap 3 Tryz.underlying32 el3 R R Z R R (.ow R R) y R) R (.sa R (.nil (.blkN ((f _ hm).sub [(0,3)] R))))))))) fun hm=> .reg (.mv R (.mv R (.op (O.bsF (r:=qI) (zs:=([p]:List Int)) bs32 R R Z R R R (.c .k .n) R R R) R (bS hm fun K B hm=> .op (O.ap 2 Tryz.underlying32 el3 R R Z R R (.fr R) B R) R (.sa R (.nil (.blkN ((f _ hm).sub [(0,2)] R))))))))
   ·intro u;rcases ifS eb26 with ⟨hc,hm⟩|⟨hc,hm⟩
    ·refine .know (d:=33) R hc ?_;exact .op (O.mv (Gu.mk R R) R R) R (.op (O.mv (Gu.mk R R) R R) R (bS hm fun _ H hm=> .op (O.shr (Gu.mk R R) R R (ycl H) R) R (.op (O.bi (Gu.mk R R) R R R R) R (.op (O.bi (Gu.mk R R) R R R R) R (.op (O.pkT Z R R R R) R ((u ((IntKind.u8.wrap (((BitVec.ofInt 8 (p1.fdiv (2 ^ (min e.1.toNat 8))) &&& BitVec.ofInt 8 1).toNat:Int)))==1) (oi hm).symm).sub [] R))))))
    ·refine .know (d:=33) R hc ?_;exact .sk R (.sk R (.sk R (.sk R (.sk R (.op (O.pkF Z R R R R) R ((u false (oi hm).symm).sub [] R))))))
 ·intro t;rcases Bool.eq_false_or_eq_true (decide (e.1<(p0.1.1.length:Int))) with hc|hc
  ·refine .know (d:=16) R hc ?_;exact .op (O.mv (Gu.mk R R) R R) R (.op (O.lenH sl32 (Gu.mk R R) R R R) R (.op (O.bi (Gu.mk R R) R R R R) R (.op (O.pkT Z R R R R) R ((t (decide ((e.2.length:Int)<3)) (andT hc).symm).sub [] R))))
  ·refine .know (d:=16) R hc ?_;exact .sk R (.sk R (.sk R (.op (O.pkF Z R R R R) R ((t false (andF hc).symm).sub [] R))))
def y1n(a:Int×(List CycT))(c:List Int)(d:List Int)(b:Int):Option ((Int×(List CycT))⊕(List CycT)):=
 (app a.2 ([(c,d,b)]:List CycT)).bind fun e=>
 some (.inl (W (a.1+1),e))
def y1o(p1:PbT)(a:Int×(List CycT))(b:List Int)(c:List Int)(e:Int×Int×Int×Int)(d:Bool):Option ((Int×(List CycT))⊕(List CycT)):=
 if d then
  (idx p1.1.1 ((W e.2.2.2).tmod 6)).bind fun f=>
  y1n a b c f
 else
  y1n a b c (-1)
def y2m(p0:List (Int×Int×Int×Int))(p1:PbT)(a:Int×(List CycT)):Option ((Int×(List CycT))⊕(List CycT)):=
 if((decide (a.1<(p0.length:Int)))&&(decide (a.1<8))) then
  (idx p0 a.1).bind fun f=>
  (idx p0 a.1).bind fun g=>
  (y3L p1 f.1 ((g.2.2.1.tmod 2)==1)).bind fun c=>
  (idx p0 a.1).bind fun h=>
  (idx p0 a.1).bind fun i=>
  (y3L p1 h.2.1 (((IntKind.u8.wrap (i.2.2.1.tdiv 2)).tmod 2)==1)).bind fun d=>
  (idx p0 a.1).bind fun b=>
  if decide (((W b.2.2.2).tmod 6)<(p1.1.1.length:Int)) then
   (idx p1.1.1 ((W b.2.2.2).tmod 6)).bind fun j=>
   (y2o p1.2.2 j).bind fun e=>
   y1o p1 a c d b (!e)
  else
   y1o p1 a c d b false
 else
  some (.inr a.2)
def y2V(p0:List (Int×Int×Int×Int))(p1:PbT):Option (List CycT):=
 (iter (y2m p0 p1) (0,([]:List CycT))).bind fun a=>
 some a
theorem y8u{p0:List (Int×Int×Int×Int)}{p1:PbT}{r:(List CycT)}(hm:y2V p0 p1=some r):
  F0 52 [.f rE209 p0,.a (lx37 p1)] [] (.h 0) [ROW rE114 114 r]:=by
 unfold y2V at hm;refine Fw.mk2 Tryz.func52 Tryz.ntmps52 R (fun C=>?_) R;refine .sr (.bo 0 R (.an R (.sr (.an R (.seq (.sr (.an R (.block (bS hm fun y G hm=>?_)))))))));refine .cut1 (z:= .exit 0) y (fun (y:(List CycT))=>⟨[(5,.h 0)],[(0,ROW rE114 114 y)],1⟩) ?_ fun X=>?_
 ·skip
  refine .blkE (.seqN (.sr (.mv R (.an R (.ret ?_)))));cases hm;exact .rr [0] Tryz.results52 (.tmp R .nil) R I3 ⟨⟨_,R,I4⟩,trivial⟩
 refine .nlg rE114 114 5 0 R R (.iter (fun (e:Int×(List CycT))=>⟨[(6,.i e.1),(5,.h 0),(3,.q 1 0),(0,.f rE209 p0)],[(0,ROW rE114 114 e.2),(1,.bx 37 (lx37 p1))],2⟩) G [(0,1),(1,0)] R ?_);intro e u hm V U;unfold y2m at hm;refine .seq (.sr (.mv R (.mv R (.ln sl86 R (.bi R (.mv R ?_))))));refine .cut 3 (fun (D:Bool)=>((decide (e.1<(p0.length:Int)))&&(decide (e.1<8)))=D) (fun D=>⟨[(16,.b D),(6,.i e.1),(5,.h 0),(3,.q 1 0),(0,.f rE209 p0)],[(0,ROW rE114 114 e.2),(1,.bx 37 (lx37 p1))],2⟩) ?_ ?_
 ·rintro _ rfl;refine .ns ?_;refine .cc hm R (fun hm=>?_) fun hm=> .exit (.seqX (.seqX ((X _ (U _ (oi hm).symm)).sub [] R)));refine .skip (.seqN (.seq (.block (.seq ?_))));refine .sub (τ:=⟨[(6,.i e.1),(5,.h 0),(3,.q 1 0),(0,.f rE209 p0)],[(0,ROW rE114 114 e.2),(1,.bx 37 (lx37 p1))],2⟩) ?_ [] R;refine bS hm fun a0 K hm=>bS hm fun a1 L hm=>bS hm fun g H hm=>bS hm fun a2 M hm=>bS hm fun a3 N hm=>bS hm fun j I hm=>?_;refine .drz 5 [(30,4)] [(2,[],[],[]),(2,[],[],[]),(2,[],[],[]),(2,[oF,oT,oT],[],[]),(2,[oF,oT,oT,oT],[],[]),(2,[oF,oT,oT,oT,oT],[],[]),(2,[],[],[]),(2,[],[],[]),(2,[oF,oF,oF,oF,oF,oF,oT,oT],[],[]),(2,[oF,oF,oF,oF,oF,oF,oT,oT,oT],[],[]),(2,[oF,oF,oF,oF,oF,oF,oT,oT,oT,oT],[],[]),(2,[oF,oF,oF,oF,oF,oF,oT,oT,oT,oT,oT],[],[]),(2,[oF,oF,oF,oF,oF,oF,oT,oT,oT,oT,oT,oT],[],[]),(2,[oT,oT,oT,oT,oT,oT,oT,oT,oT,oT,oT,oT,oT],[],[]),(2,[],[],[]),(2,[],[],[]),(2,[],[],[]),(2,[oF,oF,oF,oF,oF,oF,oF,oF,oF,oF,oF,oF,oF,oF,oF,oT,oT],[],[]),(2,[oF,oF,oF,oF,oF,oF,oF,oF,oF,oF,oF,oF,oF,oF,oF,oT,oT,oT],[],[]),(2,[oF,oF,oF,oF,oF,oF,oF,oF,oF,oF,oF,oF,oF,oF,oF,oT,oT,oT,oT],[],[]),(2,[],[],[]),(2,[],[],[]),(2,[oF,oF,oF,oF,oF,oF,oF,oF,oF,oF,oF,oF,oF,oF,oF,oF,oF,oF,oF,oF,oT,oT],[],[]),(2,[oF,oF,oF,oF,oF,oF,oF,oF,oF,oF,oF,oF,oF,oF,oF,oF,oF,oF,oF,oF,oT,oT,oT],[],[]),(2,[oF,oF,oF,oF,oF,oF,oF,oF,oF,oF,oF,oF,oF,oF,oF,oF,oF,oF,oF,oF,oT,oT,oT,oT],[],[]),(2,[oF,oF,oF,oF,oF,oF,oF,oF,oF,oF,oF,oF,oF,oF,oF,oF,oF,oF,oF,oF,oT,oT,oT,oT,oT],[],[]),(2,[oF,oF,oF,oF,oF,oF,oF,oF,oF,oF,oF,oF,oF,oF,oF,oF,oF,oF,oF,oF,oT,oT,oT,oT,oT,oT],[],[]),(2,[oF,oF,oF,oF,oF,oF,oF,oF,oF,oF,oF,oF,oF,oF,oF,oF,oF,oF,oF,oF,oT,oT,oT,oT,oT,oT,oT],[],[]),(3,[oT,oT,oT,oT,oT,oT,oT,oT,oT,oT,oT,oT,oT,oT,oT,oT,oT,oT,oT,oT,oT,oT,oT,oT,oT,oT,oT,oT],[],[]),(4,[oT,oT,oT,oT,oT,oT,oT,oT,oT,oT,oT,oT,oT,oT,oT,oT,oT,oT,oT,oT,oT,oT,oT,oT,oT,oT,oT,oT,oT],[],[]),(2,[],[],[]),(5,[oT,oT,oT,oT,oT,oT,oT,oT,oT,oT,oT,oT,oT,oT,oT,oT,oT,oT,oT,oT,oT,oT,oT,oT,oT,oT,oT,oT,oT,oT,oT],[],[])] [_,_,_,_,_,_,_,_,_,_,_,_,_,_,_,_,_,_,_,_,_,_,_,_,_,_,_,_,_,_,_,_] ⟨[(7,.q 4 0),(6,.i e.1),(5,.h 0),(3,.q 1 0),(0,.f rE209 p0)],[(4,.bx 114 [lH 2,lH 3,lI (-1)]),(2,ROW qI 3 g),(3,ROW qI 3 j),(0,ROW rE114 114 e.2),(1,.bx 37 (lx37 p1))],5⟩ ⟨O.lg (l':=(lx37 p1)) ag37 Z R (.B R) R R R,O.mv Z R R,O.mv Z R R,O.ix sl86 Z R R K R,O.faE yhE Z R R,O.ld nag5 Z R (.E lv209) R R,O.mv Z R R,O.mv Z R R,O.ix sl86 Z R R L R,O.faE yeC Z R R,O.ld nag5 Z R (.E lv209) R R,O.rem Z R R (by decide) R,O.bi Z R R R R,O.ca (r':= .h 2) [2] [(0,ROW qI 3 g)] (some 3) (y7x H) cf126 R R Z R R R R ⟨⟨_,R,I4⟩,trivial⟩ I3 R,O.lg (l':=(lx37 p1)) ag37 Z R (.B R) R R R,O.mv Z R R,O.mv Z R R,O.ix sl86 Z R R M R,O.faE yhF Z R R,O.ld nag5 Z R (.E lv209) R R,O.mv Z R R,O.mv Z R R,O.ix sl86 Z R R N R,O.faE yeC Z R R,O.ld nag5 Z R (.E lv209) R R,O.quo Z R R (by decide) R,O.rem Z R R (by decide) R,O.bi Z R R R R,O.ca (r':= .h 3) [3] [(0,ROW qI 3 j)] (some 4) (y7x I) cf126 R R Z R R R R ⟨⟨_,R,I4⟩,trivial⟩ I3 R,O.bu (l:=[lH 2,lH 3,lI (-1)]) pl114 R Z R R R,O.al 4 R zz114 R Z R,O.st ag114.sz Z R R R R R,trivial⟩ (by kernel_rfl) R ?_
  refine .seqN ?_;refine .join1 (fun (m:Int)=>y1n e g j m=some u) (fun m=>⟨[(7,.q 0 0),(6,.i e.1),(5,.h 3),(3,.q 4 0),(0,.f rE209 p0)],[(0,.bx 114 [lH 1,lH 2,lI m]),(1,ROW qI 3 g),(2,ROW qI 3 j),(3,ROW rE114 114 e.2),(4,.bx 37 (lx37 p1))],5⟩) ?_ ?_
  ·intro m hm;unfold y1n at hm;exact .reg (.mv R (.op (O.lg (l':=[lH 1,lH 2,lI m]) ag114 Z R (.B R) R R R) R (.fz 1 [82] [0] R R fR R R (.fz 2 [82] [0] R R fR R R (.op (O.bsF (r:=rE114) (zs:=([(g,j,m)]:List CycT)) bs94 R R Z R R R (.c (.p .l (.p .l .k)) .n) R R R) R (bS hm fun a4 P hm=> .op (O.ap 5 Tryz.underlying94 el114 R R Z R R (.fr R) P R) R (.sa R (.nil (.blkN (.seqN (.reg (.mv R (.bi R (.sa R (.nil ((V _ (oi hm).symm).sub [(0,5),(1,4)] R))))))))))))))))
  ·intro v;refine .sr (.mv R (.mv R (bS hm fun o Q hm=> .ix sl86 Q R (.fe yhG R (.le nag5 lv209 R (.op (O.cv Tryz.underlying5 Tryz.underlying3 Z R R) R (.op (O.rem Z R R (by decide) R) R (.an R ?_))))))));refine .join1 (fun (t:Bool)=>y1o p1 e g j o t=some u) (fun t=>⟨[(73,.b t),(8,.i ((W o.2.2.2).tmod 6)),(7,.q 0 0),(6,.i e.1),(5,.h 3),(3,.q 4 0),(0,.f rE209 p0)],[(0,.bx 114 [lH 1,lH 2,lI (-1)]),(1,ROW qI 3 g),(2,ROW qI 3 j),(3,ROW rE114 114 e.2),(4,.bx 37 (lx37 p1))],5⟩) ?_ ?_
   ·intro t hm;unfold y1o at hm;exact .cc hm R (fun hm=> .reg (.fa y3u R (.fa yO R (.lb nag32 R (.mv R (bS hm fun a5 S hm=> .ix sl32 S R (.le nag3 lv3 R (.fa y7D R (.st nag3.sz R (.nil ((v _ hm).sub [] R))))))))))) fun hm=> .skip ((v _ hm).sub [] R)
   ·intro w;refine .sub (τ:=⟨[(8,.i ((W o.2.2.2).tmod 6)),(7,.q 4 0),(6,.i e.1),(5,.h 0),(3,.q 1 0),(0,.f rE209 p0)],[(4,.bx 114 [lH 2,lH 3,lI (-1)]),(2,ROW qI 3 g),(3,ROW qI 3 j),(0,ROW rE114 114 e.2),(1,.bx 37 (lx37 p1))],5⟩) ?_ [] R;refine .drP 6 [(5,[]),(5,[]),(5,[oF,oT]),(5,[oF,oT,oT]),(5,fA 1 (tT 3)),(5,tT 5)] [_,_,_,_,_,_] ⟨O.mv Z R R,O.faP y3u Z R R,O.faP yO Z R R,O.ld nag32 Z R (.B R) R R,O.len sl32 Z R R,O.bi Z R R R R,trivial⟩ fun x=>?_;rcases ifS hm with ⟨s,hm⟩|⟨s,hm⟩
    ·skip
     exact bS hm fun a6 T hm=>bS hm fun Y J hm=> .drF x [(5,tT 6),(5,tT 7),(5,tT 8),(5,tT 7),(5,tA 7 (fA 2 (tT 1))),(5,tA 7 (fA 2 (tT 2))),(5,tT 7),(5,tA 7 (fA 2 (tT 4))),(5,tA 7 (fA 2 (tT 5))),(5,tT 15),(5,tT 16),(5,tT 17)] [_,_,_,_,_,_,_,_,_,_,_,_] ⟨[(73,.b (!Y)),(8,.i ((W o.2.2.2).tmod 6)),(7,.q 4 0),(6,.i e.1),(5,.h 0),(3,.q 1 0),(0,.f rE209 p0)],[(4,.bx 114 [lH 2,lH 3,lI (-1)]),(2,ROW qI 3 g),(3,ROW qI 3 j),(0,ROW rE114 114 e.2),(1,.bx 37 (lx37 p1))],5⟩ ⟨O.kn (O.mv Z R R) s,O.faP y7N (Gu.mk R R) R R,O.ld nag32 (Gu.mk R R) R (.B R) R R,O.faP y3u (Gu.mk R R) R R,O.faP yO (Gu.mk R R) R R,O.ld nag32 (Gu.mk R R) R (.B R) R R,O.mv (Gu.mk R R) R R,O.ix sl32 (Gu.mk R R) R R T R,O.ld nag3 (Gu.mk R R) R (.E lv3) R R,O.ca0 (y6t J) cf54 R R (Gu.mk R R) R R R,O.not (Gu.mk R R) R R,O.pkT Z R R R R,trivial⟩ (by kernel_rfl) R ((w _ hm).sub [(0,4),(1,2),(2,3),(3,0),(4,1)] R)
    ·skip
     exact .drF x [(5,tT 6),(5,tT 7),(5,tT 8),(5,tT 7),(5,tA 7 (fA 2 (tT 1))),(5,tA 7 (fA 2 (tT 2))),(5,tT 7),(5,tA 7 (fA 2 (tT 4))),(5,tA 7 (fA 2 (tT 5))),(5,tT 15),(5,tT 16),(5,tT 17)] [_,_,_,_,_,_,_,_,_,_,_,_] ⟨[(73,.b false),(8,.i ((W o.2.2.2).tmod 6)),(7,.q 4 0),(6,.i e.1),(5,.h 0),(3,.q 1 0),(0,.f rE209 p0)],[(4,.bx 114 [lH 2,lH 3,lI (-1)]),(2,ROW qI 3 g),(3,ROW qI 3 j),(0,ROW rE114 114 e.2),(1,.bx 37 (lx37 p1))],5⟩ ⟨O.kn (O.mv Z R R) s,O.skip R R R R,O.skip R R R R,O.skip R R R R,O.skip R R R R,O.skip R R R R,O.skip R R R R,O.skip R R R R,O.skip R R R R,O.skip R R R R,O.skip R R R R,O.pkF Z R R R R,trivial⟩ (by kernel_rfl) R ((w _ hm).sub [(0,4),(1,2),(2,3),(3,0),(4,1)] R)
 ·intro F;rcases Bool.eq_false_or_eq_true (decide (e.1<(p0.length:Int))) with hc|hc
  ·refine .know (d:=13) R hc ?_;exact .op (O.mv (Gu.mk R R) R R) R (.op (O.bi (Gu.mk R R) R R R R) R (.op (O.pkT Z R R R R) R ((F (decide (e.1<8)) (andT hc).symm).sub [] R)))
  ·refine .know (d:=13) R hc ?_;exact .sk R (.sk R (.op (O.pkF Z R R R R) R ((F false (andF hc).symm).sub [] R)))
def y2O(p0:List StpT)(p1:List StpT)(c:Int):Option (Int⊕(Unit⊕Unit)):=
 if decide (c<(p0.length:Int)) then
  (idx p0 c).bind fun a=>
  (idx p1 c).bind fun b=>
  (y1c a.1 b.1).bind fun f=>
  (if (!f) then
   some true
  else
   (y1c a.2.1 b.2.1).bind fun h=>
   some (!h)).bind fun d=>
  (if d then
   some true
  else
   (y1c a.2.2.1 b.2.2.1).bind fun g=>
   some (!g)).bind fun e=>
  if((((e||(a.2.2.2.1 != b.2.2.2.1))||(a.2.2.2.2.1 != b.2.2.2.2.1))||(a.2.2.2.2.2.1 != b.2.2.2.2.2.1))||(a.2.2.2.2.2.2 != b.2.2.2.2.2.2)) then
   some (.inr (.inr (())))
  else
   some (.inl (W (c+1)))
 else
  some (.inr (.inl ()))
def y4Z(p0:List StpT)(p1:List StpT):Option Bool:=
 if((p0.length:Int) != (p1.length:Int)) then
  some false
 else
  (iter (y2O p0 p1) 0).bind fun a=>
  match a with
  | .inl b=>
   some true
  | .inr (c)=>
   some false
theorem y9N{p0:List StpT}{p1:List StpT}{r:Bool}(hm:y4Z p0 p1=some r):
    F0 58 [.f rE100 p0,.f rE100 p1] [] (.b r) []:=by
  unfold y4Z at hm;refine Fw.mk2 Tryz.func58 Tryz.ntmps58 R (fun C=>?_) R;refine .sr (.an R (.seq (.sr (.mv R (.ln sl91 R (.mv R (.ln sl91 R (.bi R (.ns ?_)))))))));refine .cc hm R (fun hm=>?_) fun hm=>?_
  ·refine .sr (.an R (.ret (.seqR ?_)));cases hm;exact .rr [] Tryz.results58 (.tmp R .nil) R I3 trivial
  ·refine .skip (.seqN (.seq (.sr (.an R (.block (bS hm fun F G hm=>?_))))));refine .cutU (z:= .exit 0) (fun j=> .inl j=F) (fun (j:Unit)=>⟨[],[],0⟩) ?_ fun N=>?_
   · rintro j rfl;dsimp only at hm;refine .blkE (.seqN (.sr (.an R (.ret ?_))));cases hm;exact .rr [] Tryz.results58 (.tmp R .nil) R I3 trivial
   refine .cutU (z:= .ret) (fun k=> .inr (k)=F) (fun (k:Unit)=>⟨[(4,.b false)],[],0⟩) ?_ fun P=>?_
   · rintro k rfl;dsimp only at hm;refine .blkR (.seqR ?_);cases hm;exact .rr [] Tryz.results58 (.tmp R .nil) R I3 trivial
   refine .iter (fun (e:Int)=>⟨[(5,.i e),(0,.f rE100 p0),(1,.f rE100 p1)],[],0⟩) G [] R ?_;intro e U hm M h;unfold y2O at hm;refine .seq (.sr (.mv R (.mv R (.ln sl91 R (.bi R (.ns ?_))))));refine .cc hm R (fun hm=>?_) fun hm=> .exit (.seqX (.seqX ((N _ (h _ (oi hm).symm)).sub [] R)));refine .skip (.seqN (.seq (.block (.seq ?_))));refine .sub (τ:=⟨[(5,.i e),(0,.f rE100 p0),(1,.f rE100 p1)],[],0⟩) ?_ [] R;refine bS hm fun a K hm=>bS hm fun c L hm=>?_;refine .drz 2 [(8,0),(9,1)] [(0,[],[],[]),(0,[],[],[]),(0,[oT,oT],[],[]),(0,[oT,oT,oT],[],[]),(0,[],[],[]),(0,[],[],[]),(0,[oF,oF,oF,oF,oT,oT],[],[]),(0,[oF,oF,oF,oF,oT,oT,oT],[],[]),(0,[],[],[]),(0,[],[],[]),(2,[oT,oT,oT,oT,oF,oF,oF,oF,oT,oT],[],[]),(2,[oT,oT,oT,oT,oT,oT,oT,oT,oT,oT,oT],[],[(8,0)])] [_,_,_,_,_,_,_,_,_,_,_,_] ⟨[(7,.q 1 0),(6,.q 0 0),(5,.i e),(0,.f rE100 p0),(1,.f rE100 p1)],[(1,.bx 100 (lx100 c)),(0,.bx 100 (lx100 a))],2⟩ ⟨O.mv Z R R,O.mv Z R R,O.ix sl91 Z R R K R,O.lg (l':=(lx100 a)) ag100 Z R (.E lv100) R R R,O.mv Z R R,O.mv Z R R,O.ix sl91 Z R R L R,O.lg (l':=(lx100 c)) ag100 Z R (.E lv100) R R R,O.al 0 R zz100 R Z R,O.al 1 R zz100 R Z R,O.st ag100.sz Z R R R R R,O.st ag100.sz Z R R R R R,trivial⟩ (by kernel_rfl) R ?_;refine .seqN (.sr (.fa y9m R (.lb nag32 R (.fa y9m R (.lb nag32 R (bS hm fun V H hm=> .c0 (y4l H) cf59 R (.op (O.not Z R R) R (.mv R (bS hm fun Q eb30 hm=>?_)))))))));refine .cut 7 (fun (m:Bool)=>Q=m) (fun m=>⟨[(40,.b m),(7,.q 1 0),(6,.q 0 0),(5,.i e),(0,.f rE100 p0),(1,.f rE100 p1)],[(1,.bx 100 (lx100 c)),(0,.bx 100 (lx100 a))],2⟩) ?_ ?_
   · rintro _ rfl;refine .mv R (bS hm fun g eb33 hm=>?_);refine .cut 7 (fun (n:Bool)=>g=n) (fun n=>⟨[(48,.b n),(7,.q 1 0),(6,.q 0 0),(5,.i e),(0,.f rE100 p0),(1,.f rE100 p1)],[(1,.bx 100 (lx100 c)),(0,.bx 100 (lx100 a))],2⟩) ?_ ?_
     · rintro _ rfl;refine .mv R ?_;refine .cut 6 (fun (o:Bool)=>(g||(a.2.2.2.1 != c.2.2.2.1))=o) (fun o=>⟨[(55,.b o),(7,.q 1 0),(6,.q 0 0),(5,.i e),(0,.f rE100 p0),(1,.f rE100 p1)],[(1,.bx 100 (lx100 c)),(0,.bx 100 (lx100 a))],2⟩) ?_ ?_
       · rintro _ rfl;refine .mv R ?_;refine .cut 6 (fun (p:Bool)=>((g||(a.2.2.2.1 != c.2.2.2.1))||(a.2.2.2.2.1 != c.2.2.2.2.1))=p) (fun p=>⟨[(62,.b p),(7,.q 1 0),(6,.q 0 0),(5,.i e),(0,.f rE100 p0),(1,.f rE100 p1)],[(1,.bx 100 (lx100 c)),(0,.bx 100 (lx100 a))],2⟩) ?_ ?_
         · rintro _ rfl;refine .mv R ?_;refine .cut 6 (fun (s:Bool)=>(((g||(a.2.2.2.1 != c.2.2.2.1))||(a.2.2.2.2.1 != c.2.2.2.2.1))||(a.2.2.2.2.2.1 != c.2.2.2.2.2.1))=s) (fun s=>⟨[(69,.b s),(7,.q 1 0),(6,.q 0 0),(5,.i e),(0,.f rE100 p0),(1,.f rE100 p1)],[(1,.bx 100 (lx100 c)),(0,.bx 100 (lx100 a))],2⟩) ?_ ?_
           · rintro _ rfl;refine .mv R ?_;refine .cut 6 (fun (t:Bool)=>((((g||(a.2.2.2.1 != c.2.2.2.1))||(a.2.2.2.2.1 != c.2.2.2.2.1))||(a.2.2.2.2.2.1 != c.2.2.2.2.2.1))||(a.2.2.2.2.2.2 != c.2.2.2.2.2.2))=t) (fun t=>⟨[(76,.b t),(5,.i e),(0,.f rE100 p0),(1,.f rE100 p1)],[],2⟩) ?_ ?_
             · rintro _ rfl;exact .ns (.cc hm R (fun hm=> .sr (.an R (.ret (.blkR (.seqR (.seqR ((P _ (h _ (oi hm).symm)).sub [] R))))))) fun hm=> .skip (.blkN (.seqN (.reg (.mv R (.bi R (.sa R (.nil ((M _ (oi hm).symm).sub [] R)))))))))
             · intro D;rcases Bool.eq_false_or_eq_true (((g||(a.2.2.2.1 != c.2.2.2.1))||(a.2.2.2.2.1 != c.2.2.2.2.1))||(a.2.2.2.2.2.1 != c.2.2.2.2.2.1)) with hc|hc
               · refine .know (d:=70) R hc ?_;exact .sk R (.sk R (.sk R (.sk R (.sk R (.op (O.pkT Z R R R R) R ((D true (orT hc).symm).sub [] R))))))
               · refine .know (d:=70) R hc ?_;exact .op (O.faP ybk (Gu.mk R R) R R) R (.op (O.ld nag4 (Gu.mk R R) R (.B R) R R) R (.op (O.faP ybk (Gu.mk R R) R R) R (.op (O.ld nag4 (Gu.mk R R) R (.B R) R R) R (.op (O.bne Tryz.underlying4 (Gu.mk R R) R R R) R (.op (O.pkF Z R R R R) R ((D (a.2.2.2.2.2.2 != c.2.2.2.2.2.2) (orF hc).symm).sub [] R))))))
           · intro y;rcases Bool.eq_false_or_eq_true ((g||(a.2.2.2.1 != c.2.2.2.1))||(a.2.2.2.2.1 != c.2.2.2.2.1)) with hc|hc
             · refine .know (d:=63) R hc ?_;exact .sk R (.sk R (.sk R (.sk R (.sk R (.op (O.pkT Z R R R R) R ((y true (orT hc).symm).sub [] R))))))
             · refine .know (d:=63) R hc ?_;exact .op (O.faP ybj (Gu.mk R R) R R) R (.op (O.ld nag3 (Gu.mk R R) R (.B R) R R) R (.op (O.faP ybj (Gu.mk R R) R R) R (.op (O.ld nag3 (Gu.mk R R) R (.B R) R R) R (.op (O.bi (Gu.mk R R) R R R R) R (.op (O.pkF Z R R R R) R ((y (a.2.2.2.2.2.1 != c.2.2.2.2.2.1) (orF hc).symm).sub [] R))))))
         · intro x;rcases Bool.eq_false_or_eq_true (g||(a.2.2.2.1 != c.2.2.2.1)) with hc|hc
           · refine .know (d:=56) R hc ?_;exact .sk R (.sk R (.sk R (.sk R (.sk R (.op (O.pkT Z R R R R) R ((x true (orT hc).symm).sub [] R))))))
           · refine .know (d:=56) R hc ?_;exact .op (O.faP y8d (Gu.mk R R) R R) R (.op (O.ld nag4 (Gu.mk R R) R (.B R) R R) R (.op (O.faP y8d (Gu.mk R R) R R) R (.op (O.ld nag4 (Gu.mk R R) R (.B R) R R) R (.op (O.bne Tryz.underlying4 (Gu.mk R R) R R R) R (.op (O.pkF Z R R R R) R ((x (a.2.2.2.2.1 != c.2.2.2.2.1) (orF hc).symm).sub [] R))))))
       · intro w;rcases Bool.eq_false_or_eq_true g with hc|hc
         · refine .know (d:=49) R hc ?_;exact .sk R (.sk R (.sk R (.sk R (.sk R (.op (O.pkT Z R R R R) R ((w true (orT hc).symm).sub [] R))))))
         · refine .know (d:=49) R hc ?_;exact .op (O.faP y7l (Gu.mk R R) R R) R (.op (O.ld nag3 (Gu.mk R R) R (.B R) R R) R (.op (O.faP y7l (Gu.mk R R) R R) R (.op (O.ld nag3 (Gu.mk R R) R (.B R) R R) R (.op (O.bi (Gu.mk R R) R R R R) R (.op (O.pkF Z R R R R) R ((w (a.2.2.2.1 != c.2.2.2.1) (orF hc).symm).sub [] R))))))
     · intro v;rcases ifS eb33 with ⟨hc,hm⟩|⟨hc,hm⟩
       · refine .know (d:=41) R hc ?_;exact .sk R (.sk R (.sk R (.sk R (.sk R (.sk R (.op (O.pkT Z R R R R) R ((v true (oi hm).symm).sub [] R)))))))
       · refine .know (d:=41) R hc ?_;exact .op (O.faP ya7 (Gu.mk R R) R R) R (.op (O.ld nag32 (Gu.mk R R) R (.B R) R R) R (.op (O.faP ya7 (Gu.mk R R) R R) R (.op (O.ld nag32 (Gu.mk R R) R (.B R) R R) R (bS hm fun S I hm=> .op (O.ca0 (y4l I) cf59 R R (Gu.mk R R) R R R) R (.op (O.not (Gu.mk R R) R R) R (.op (O.pkF Z R R R R) R ((v (!S) (oi hm).symm).sub [] R)))))))
   · intro u;rcases ifS eb30 with ⟨hc,hm⟩|⟨hc,hm⟩
     · refine .know (d:=33) R hc ?_;exact .sk R (.sk R (.sk R (.sk R (.sk R (.sk R (.op (O.pkT Z R R R R) R ((u true (oi hm).symm).sub [] R)))))))
     · refine .know (d:=33) R hc ?_;exact .op (O.faP ya8 (Gu.mk R R) R R) R (.op (O.ld nag32 (Gu.mk R R) R (.B R) R R) R (.op (O.faP ya8 (Gu.mk R R) R R) R (.op (O.ld nag32 (Gu.mk R R) R (.B R) R R) R (bS hm fun T J hm=> .op (O.ca0 (y4l J) cf59 R R (Gu.mk R R) R R R) R (.op (O.not (Gu.mk R R) R R) R (.op (O.pkF Z R R R R) R ((u (!T) (oi hm).symm).sub [] R)))))))
def y2n(p0:PbT)(p1:List Int)(a:Int):Option (Int⊕(Unit⊕Int)):=
 if decide (a<(p1.length:Int)) then
  (idx p1 a).bind fun b=>
  (yd p0.1.1 b).bind fun c=>
  if(!c) then
   some (.inr (.inr (9)))
  else
   (yd p0.2.2 b).bind fun d=>
   if d then
    some (.inr (.inr (13)))
   else
    (slc p1 0 a).bind fun f=>
    (yd f b).bind fun e=>
    if e then
     some (.inr (.inr (8)))
    else
     some (.inl (W (a+1)))
 else
  some (.inr (.inl ()))
def y1Y(p0:PbT)(p1:List Int):Option Int:=
 (iter (y2n p0 p1) 0).bind fun b=>
 match b with
 | .inl c=>
  some 0
 | .inr (a)=>
  some a
theorem y8v{p0:PbT}{p1:List Int}{r:Int}(hm:y1Y p0 p1=some r):
  F0 133 [.a (lx37 p0),.f qI p1] [] (.i r) []:=by
 unfold y1Y at hm;refine Fw.mk2 Tryz.func133 Tryz.ntmps133 R (fun C=>?_) R;refine .sr (.bo 0 R (.an R (.seq (.sr (.mv R (.ln sl32 R (.mv R (.ns (.block (bS hm fun s o hm=>?_))))))))));refine .cutU (z:= .exit 0) (fun e=> .inl e=s) (fun (e:Unit)=>⟨[],[],0⟩) ?_ fun n=>?_
 ·rintro e rfl;dsimp only at hm;refine .blkE (.seqN (.sr (.an R (.ret ?_))));cases hm;exact .rr [] Tryz.results133 (.tmp R .nil) R I3 trivial
 refine .cutU (z:= .ret) (fun c=> .inr (c)=s) (fun (c:Int)=>⟨[(4,.i c)],[],0⟩) ?_ fun d=>?_
 ·rintro c rfl;dsimp only at hm;refine .blkR (.seqR ?_);cases hm;exact .rr [] Tryz.results133 (.tmp R .nil) R I3 trivial
 refine .iter (fun (g:Int)=>⟨[(9,.i g),(8,.i (p1.length:Int)),(7,.f qI p1),(2,.q 0 0),(1,.f qI p1)],[(0,.bx 37 (lx37 p0))],1⟩) o [] R ?_;intro g t hm p b;unfold y2n at hm;refine .sr (.bi R (.ns (.seq ?_)));refine .cc hm R (fun hm=>?_) fun hm=> .exit (.seqX (.seqX ((n _ (b _ (oi hm).symm)).sub [] R)));refine .skip (.seqN (.seq (.block (.sr (.mv R (bS hm fun x l hm=> .ix sl32 l R (.le nag3 lv3 R (.sa R (.an R (.block (.sr (.fa y3u R (.fa yO R (.lb nag32 R (.mv R (bS hm fun u h hm=> .c0 (yg h) cf104 R (.op (O.not Z R R) R (.an R ?_))))))))))))))))));refine .cc hm R (fun hm=> .sr (.an R (.ret (.blkR (.blkR (.seqR (.seqR ((d _ (b _ (oi hm).symm)).sub [] R)))))))) fun hm=>?_;refine .sr (.fa y7N R (.lb nag32 R (.mv R (bS hm fun v j hm=> .c0 (yg j) cf104 R (.an R ?_)))));refine .cc hm R (fun hm=> .sr (.an R (.ret (.blkR (.blkR (.seqR (.seqR ((d _ (b _ (oi hm).symm)).sub [] R)))))))) fun hm=>?_;refine .sr (.mv R (.mv R (bS hm fun y m hm=> .op (O.sh sl32 Z R R m R) R (.mv R (bS hm fun w k hm=> .c0 (yg k) cf104 R (.an R ?_))))));exact .cc hm R (fun hm=> .sr (.an R (.ret (.blkR (.blkR (.seqR (.seqR ((d _ (b _ (oi hm).symm)).sub [] R)))))))) fun hm=> .skip (.blkN (.blkN (.seqN (.reg (.bi R (.mv R (.nil ((p _ (oi hm).symm).sub [] R))))))))
def y2W(a:List Int)(p0:Int→Option Bool):Option Int:=
 (y4i a p0).bind fun b=>
 if decide (b≥0) then
  (idx a b).bind fun c=>
  some c
 else
  some (-1)
theorem y8w{d:List Int}{p0:Int→Option Bool}{r:Int}(hm:y2W d p0=some r):
    F0 135 [.o (lW Tryz.prog (fun (x:Int)=> [.i x]) (fun (r:Bool)=> .b r) p0),.o (lQ 32 [lF qI d] 0)] [] (.i r) []:=by
  unfold y2W at hm;refine Fw.mk2 Tryz.func135 Tryz.ntmps135 R (fun C=>?_) R;refine .sr (.an R (.seq (.sr (.lq nag32 R (.mv R (bS hm fun e a hm=> .c0 (y6Z a) cf136 R (.an R (.sr (.mv R (.bi R (.ns ?_)))))))))));refine .cc hm R (fun hm=>?_) fun hm=>?_
  ·refine .sr (.lq nag32 R (.mv R (bS hm fun f c hm=> .ix sl32 c R (.le nag3 lv3 R (.an R (.ret (.seqR ?_)))))));cases hm;exact .rr [] Tryz.results135 (.tmp R .nil) R I3 trivial
  ·refine .skip (.seqN (.sr (.an R (.ret ?_))));cases hm;exact .rr [] Tryz.results135 (.tmp R .nil) R I3 trivial
def y2D(a:List Int)(p0:CycT):Option ((Int→Option Bool)→Option Int):=
 some (y2W a)
theorem y8S{c:List Int}{p0:CycT}{r:((Int→Option Bool)→Option Int)}(hm:y2D c p0=some r):
  F0 134 [.a [lF qI p0.1,lF qI p0.2.1,lI p0.2.2],.o (lQ 32 [lF qI c] 0)] [] (.o (lW Tryz.prog (fun (x:(Int→Option Bool))=> [.o (lW Tryz.prog (fun (x:Int)=> [.i x]) (fun (r:Bool)=> .b r) x)]) (fun (r:Int)=> .i r) r)) []:=by
 unfold y2D at hm;refine Fw.mk2 Tryz.func134 Tryz.ntmps134 R (fun C=>?_) R;refine .sr (.bo 0 R (.an R (.sr (.op (O.mf (args:=(fun (x:(Int→Option Bool))=> [.o (lW Tryz.prog (fun (x:Int)=> [.i x]) (fun (r:Bool)=> .b r) x)])) (res:=(fun (r:Int)=> .i r)) (m:=(y2W c)) cf135 (fun x r h=>y8w h) (fun _=>R) R Z R R) R (.an R (.ret ?_))))));cases hm;exact .rr [] Tryz.results134 (.tmp R .nil) R I3 trivial
def y6k(p0:PbT)(p1:List Int)(p2:List CycT):Option ((List StpT)×Int):=
 (y1y p0 p2).bind fun a=>
 if(a != 0) then
  some (([]:List StpT),a)
 else
  (y1Y p0 p1).bind fun b=>
  if(b != 0) then
   some (([]:List StpT),b)
  else
   (y5p p0 p2 (y2D p1)).bind fun c=>
   some c
def y7G(p1:List CycT)(p2:CycT→Option ((Int→Option Bool)→Option Int))(a:Int×(List StpT)×BenT):Option ((Int×(List StpT)×BenT)⊕((List StpT)⊕Int)):=
 if decide (a.1<(p1.length:Int)) then
  (idx p1 a.1).bind fun c=>
  (p2 c).bind fun d=>
  (y2C a.2.2 c d).bind fun b=>
  if(b.2.1 != 0) then
   some (.inr (.inr (b.2.1)))
  else
   (app a.2.1 ([b.1]:List StpT)).bind fun e=>
   some (.inl (W (a.1+1),e,b.2.2))
 else
  some (.inr (.inl a.2.1))
def y7d(p0:PbT)(p1:List CycT)(p2:CycT→Option ((Int→Option Bool)→Option Int)):Option ((List StpT)×Int):=
 (y4J p0).bind fun a=>
 if(a.2 != 0) then
  some (([]:List StpT),a.2)
 else
  a.1.bind fun e=>
  (iter (y7G p1 p2) (0,([]:List StpT),e)).bind fun b=>
  match b with
  | .inl c=>
   some (c,0)
  | .inr (d)=>
   some (([]:List StpT),d)
theorem yaz{p0:PbT}{p1:List CycT}{p2:CycT→Option ((Int→Option Bool)→Option Int)}{r:(List StpT)×Int}(hm:y7d p0 p1 p2=some r):
    Fw Tryz.prog 128 ⟨1,[]⟩ [.a (lx37 p0),.h 0,.o (lW Tryz.prog (fun (x:CycT)=> [.a [lF qI x.1,lF qI x.2.1,lI x.2.2]]) (fun (r:(Int→Option Bool)→Option Int)=> .o (lW Tryz.prog (fun (x:(Int→Option Bool))=> [.o (lW Tryz.prog (fun (x:Int)=> [.i x]) (fun (r:Bool)=> .b r) x)]) (fun (r:Int)=> .i r) r)) p2)] [ROW rE114 114 p1] (.tp [.h 1,.i r.2]) [ROW rE114 114 p1,ROW rE100 100 r.1]:=by
  unfold y7d at hm;refine Fw.mk2 Tryz.func128 Tryz.ntmps128 R (fun C=>?_) R;refine .sr (.bo 1 R (.sa R (.an R (.sr (.op (O.lg (l':=(lx37 p0)) ag37 Z R (.B R) R R R) R (bS hm fun J H hm=> .op (O.ca (r':= .tp [.o (lH 2),.i J.2]) [2] [(0,OBX rE199 199 J.1)] (some 3) (y7Q H) cf191 R R Z R R R R ⟨⟨_,R,I4⟩,trivial⟩ I3 R) R (.mv R (.ex R (.ex R (.sa R (.an R (.seq (.sr (.mv R (.bi R (.ns ?_))))))))))))))));refine .cc hm R (fun hm=>?_) fun hm=>?_
  ·refine .sr (.mv R (.sa R (.an R (.ret (.seqR (.nlg rE100 100 6 0 R R ?_))))));cases hm;exact .rr [0,3] Tryz.results128 (.tmp R (.tmp R .nil)) R I3 ⟨⟨_,R,I4⟩,⟨_,R,I4⟩,trivial⟩
  ·refine .skip (.seqN (.sr (.an R (.seq (.sr (.mv R (.op (O.lenH sl94 Z R R R) R (.mv R (.ns (.block (bS hm fun N I hm=> .opn 2 R I lv199 R (.hp 8 R R (.hp 18 R R (bS hm fun t u hm=>?_))))))))))))));refine .cutU (z:= .exit 0) (fun g=> .inl g=t) (fun (g:(List StpT))=>⟨[(10,.h 1)],[(0,ROW rE114 114 p1),(1,ROW rE100 100 g)],2⟩) ?_ fun F=>?_
   · rintro g rfl;dsimp only at hm;refine .blkE (.seqN (.sr (.mv R (.sa R (.an R (.ret ?_))))));cases hm;exact .rr [0,1] Tryz.results128 (.tmp R (.tmp R .nil)) R I3 ⟨⟨_,R,I4⟩,⟨_,R,I4⟩,trivial⟩
   refine .cutU (z:= .ret) (fun j=> .inr (j)=t) (fun (j:Int)=>⟨[(7,.i j),(6,.o (lN))],[(0,ROW rE114 114 p1)],1⟩) ?_ fun G=>?_
   · rintro j rfl;dsimp only at hm;refine .blkR (.seqR (.nlg rE100 100 6 0 R R ?_));cases hm;exact .rr [0,1] Tryz.results128 (.tmp R (.tmp R .nil)) R I3 ⟨⟨_,R,I4⟩,⟨_,R,I4⟩,trivial⟩
   refine .nlg rE100 100 10 0 R R (.iter (fun (f:Int×(List StpT)×BenT)=>⟨[(25,.i f.1),(24,.i (p1.length:Int)),(23,.h 0),(10,.h 1),(8,.q 2 0),(2,.o (lW Tryz.prog (fun (x:CycT)=> [.a [lF qI x.1,lF qI x.2.1,lI x.2.2]]) (fun (r:(Int→Option Bool)→Option Int)=> .o (lW Tryz.prog (fun (x:(Int→Option Bool))=> [.o (lW Tryz.prog (fun (x:Int)=> [.i x]) (fun (r:Bool)=> .b r) x)]) (fun (r:Int)=> .i r) r)) p2))],[(0,ROW rE114 114 p1),(1,ROW rE100 100 f.2.1),(2,.bx 199 (lx199 f.2.2))],3⟩) u [(1,3)] R ?_);intro f K hm E s;unfold y7G at hm;refine .sr (.bi R (.ns (.seq ?_)));refine .cc hm R (fun hm=>?_) fun hm=> .exit (.seqX (.seqX ((F _ (s _ (oi hm).symm)).sub [] R)));refine .skip (.seqN (.seq (.block (.sr (bS hm fun e m hm=> .op (O.ir sl94 Z R R R m R) R (.op (O.lg (l':=[lF qI e.1,lF qI e.2.1,lI e.2.2]) ag114 Z R (.R R m lv114) R R R) R (.al 3 zz114 R (.st ag114.sz R (.ns (.seq ?_))))))))));refine .sub (τ:=⟨[(12,.q 3 0),(25,.i f.1),(24,.i (p1.length:Int)),(23,.h 0),(10,.h 1),(8,.q 2 0),(2,.o (lW Tryz.prog (fun (x:CycT)=> [.a [lF qI x.1,lF qI x.2.1,lI x.2.2]]) (fun (r:(Int→Option Bool)→Option Int)=> .o (lW Tryz.prog (fun (x:(Int→Option Bool))=> [.o (lW Tryz.prog (fun (x:Int)=> [.i x]) (fun (r:Bool)=> .b r) x)]) (fun (r:Int)=> .i r) r)) p2))],[(0,ROW rE114 114 p1),(3,.bx 114 [lF qI e.1,lF qI e.2.1,lI e.2.2]),(1,ROW rE100 100 f.2.1),(2,.bx 199 (lx199 f.2.2))],4⟩) ?_ [] R;refine bS hm fun L v hm=>bS hm fun d w hm=>?_;refine .drz 6 [(9,5)] [(4,[],[],[]),(4,[],[],[]),(4,[],[],[]),(4,[],[],[]),(4,[oF,oF,oT,oT],[],[]),(4,[oT,oT,oT,oT,oT],[],[]),(5,[oT,oT,oT,oT,oT,oT],[],[]),(5,[oT,oT,oT,oT,oT,oT,oT],[],[]),(5,[oT,oT,oT,oT,oT,oT,oT],[],[]),(4,[],[2],[]),(6,[oT,oT,oT,oT,oT,oT,oT,oT,oF,oT],[],[]),(6,[oT,oT,oT,oT,oT,oT,oT,oT,oT,oT,oT],[],[(9,5)])] [_,_,_,_,_,_,_,_,_,_,_,_] ⟨[(14,.i d.2.1),(13,.q 5 0),(25,.i f.1),(24,.i (p1.length:Int)),(23,.h 0),(10,.h 1),(8,.q 2 0),(2,.o (lW Tryz.prog (fun (x:CycT)=> [.a [lF qI x.1,lF qI x.2.1,lI x.2.2]]) (fun (r:(Int→Option Bool)→Option Int)=> .o (lW Tryz.prog (fun (x:(Int→Option Bool))=> [.o (lW Tryz.prog (fun (x:Int)=> [.i x]) (fun (r:Bool)=> .b r) x)]) (fun (r:Int)=> .i r) r)) p2))],[(0,ROW rE114 114 p1),(5,.bx 100 [lF qI d.1.1,lF qI d.1.2.1,lH 4,lI d.1.2.2.2.1,lB d.1.2.2.2.2.1,lI d.1.2.2.2.2.2.1,lB d.1.2.2.2.2.2.2]),(4,ROW qI 3 d.1.2.2.1),(1,ROW rE100 100 f.2.1),(2,.bx 199 (lx199 d.2.2))],6⟩ ⟨O.mv Z R R,O.lg (l':=[lF qI e.1,lF qI e.2.1,lI e.2.2]) ag114 Z R (.B R) R R R,O.mv Z R R,O.lg (l':=[lF qI e.1,lF qI e.2.1,lI e.2.2]) ag114 Z R (.B R) R R R,O.fv (y:=e) R R R Z R v R R,O.ca (r':= .tp [.a [lF qI d.1.1,lF qI d.1.2.1,lH 4,lI d.1.2.2.2.1,lB d.1.2.2.2.2.1,lI d.1.2.2.2.2.2.1,lB d.1.2.2.2.2.2.2],.i d.2.1]) [2,4] [(0,.bx 199 (lx199 d.2.2)),(1,ROW qI 3 d.1.2.2.1)] (some 5) (y6G w) cf192 R R Z R R R R ⟨⟨_,R,I4⟩,⟨_,R,I4⟩,trivial⟩ I3 R,O.mv Z R R,O.ex Z R R R,O.ex Z R R R,O.al 5 R zz100 R Z R,O.st ag100.sz Z R R R R R,O.as Z R R,trivial⟩ (by kernel_rfl) R ?_;refine .seqN (.seq (.sr (.mv R (.bi R (.ns ?_)))));exact .cc hm R (fun hm=> .sr (.mv R (.sa R (.an R (.ret (.seqR (.blkR (.seqR (.seqR ((G _ (s _ (oi hm).symm)).sub [] R)))))))))) fun hm=> .skip (.seqN (.reg (.mv R (.op (O.lg (l':=[lF qI d.1.1,lF qI d.1.2.1,lH 4,lI d.1.2.2.2.1,lB d.1.2.2.2.2.1,lI d.1.2.2.2.2.2.1,lB d.1.2.2.2.2.2.2]) ag100 Z R (.B R) R R R) R (.fz 4 [42] [5] R R fR R R (.op (O.bsF (r:=rE100) (zs:=([d.1]:List StpT)) bs91 R R Z R R R (.c (.p .l (.p .l (.p .l (.p .k (.p .b (.p .k .b)))))) .n) R R R) R (bS hm fun M D hm=> .op (O.ap 6 Tryz.underlying91 el100 R R Z R R (.fr R) D R) R (.sa R (.nil (.blkN (.seqN (.reg (.bi R (.mv R (.nil ((E _ (oi hm).symm).sub [(1,6)] R))))))))))))))))
def y5a(p0:PbT)(p1:List Int)(p2:List CycT):Option ((List StpT)×Int):=
 (y1y p0 p2).bind fun a=>
 if(a != 0) then
  some (([]:List StpT),a)
 else
  (y1Y p0 p1).bind fun b=>
  if(b != 0) then
   some (([]:List StpT),b)
  else
   (y7d p0 p2 (y2D p1)).bind fun c=>
   some c
theorem y8T{p0:PbT}{p1:List Int}{p2:List CycT}{r:(List StpT)×Int}(hm:y5a p0 p1 p2=some r):
    Fw Tryz.prog 64 ⟨1,[]⟩ [.a (lx37 p0),.f qI p1,.h 0] [ROW rE114 114 p2] (.tp [.h 1,.i r.2]) [ROW rE114 114 p2,ROW rE100 100 r.1]:=by
  unfold y5a at hm;refine Fw.mk2 Tryz.func64 Tryz.ntmps64 R (fun C=>?_) R;refine .sr (.bo 1 R (.bo 2 R (.sa R (.an R (.seq (.sr (.op (O.lg (l':=(lx37 p0)) ag37 Z R (.B R) R R R) R (.mv R (bS hm fun j c hm=> .op (O.caZ (y6E c) cf65 R R Z R ⟨⟨R,LnL.rf⟩,⟨R,.hr R,trivial⟩,trivial⟩ (fun _ _ _ _ _ h=>h) R) R (.an R (.sr (.mv R (.bi R (.ns ?_))))))))))))));refine .cc hm R (fun hm=>?_) fun hm=>?_
  ·refine .sr (.mv R (.sa R (.an R (.ret (.seqR (.nlg rE100 100 6 0 R R ?_))))));cases hm;exact .rr [0,3] Tryz.results64 (.tmp R (.tmp R .nil)) R I3 ⟨⟨_,R,I4⟩,⟨_,R,I4⟩,trivial⟩
  ·refine .skip (.seqN (.seq (.sr (.op (O.lg (l':=(lx37 p0)) ag37 Z R (.B R) R R R) R (.lb nag32 R (bS hm fun k d hm=> .c0 (y8v d) cf133 R (.an R (.sr (.mv R (.bi R (.ns ?_)))))))))));refine .cc hm R (fun hm=>?_) fun hm=>?_
   ·refine .sr (.mv R (.sa R (.an R (.ret (.seqR (.nlg rE100 100 6 0 R R ?_))))));cases hm;exact .rr [0,3] Tryz.results64 (.tmp R (.tmp R .nil)) R I3 ⟨⟨_,R,I4⟩,⟨_,R,I4⟩,trivial⟩
   ·refine .skip (.seqN (.sr (.op (O.lg (l':=(lx37 p0)) ag37 Z R (.B R) R R R) R (.mv R (.fz 2 [4] [] R R fB R R (.op (O.mf (args:=(fun (x:CycT)=> [.a [lF qI x.1,lF qI x.2.1,lI x.2.2]])) (res:=(fun (r:(Int→Option Bool)→Option Int)=> .o (lW Tryz.prog (fun (x:(Int→Option Bool))=> [.o (lW Tryz.prog (fun (x:Int)=> [.i x]) (fun (r:Bool)=> .b r) x)]) (fun (r:Int)=> .i r) r))) (m:=(y2D p1)) cf134 (fun x r h=>y8S h) (fun _=>R) R Z R R) R (bS hm fun g e hm=> .op (O.ca (r':= .tp [.h 3,.i g.2]) [0,3] [(1,ROW rE100 100 g.1)] (some 4) (yaz e) cf128 R R Z R R R R ⟨⟨_,R,I4⟩,trivial⟩ I3 R) R (.ex R (.ex R (.sa R (.an R (.ret ?_))))))))))));cases hm;exact .rr [0,3] Tryz.results64 (.tmp R (.tmp R .nil)) R I3 ⟨⟨_,R,I4⟩,⟨_,R,I4⟩,trivial⟩
def yx(b:(List StpT)×Int)(a:Int×(List CycT)):Option ((Int×(List CycT))⊕(List CycT)):=
 if decide (a.1<(b.1.length:Int)) then
  (idx b.1 a.1).bind fun d=>
  (idx a.2 a.1).bind fun c=>
  (upd a.2 a.1 (c.1,c.2.1,d.2.2.2.1)).bind fun e=>
  some (.inl (W (a.1+1),e))
 else
  some (.inr a.2)
def yy(a:Int×List Int)(b:List Int):Option ((Int×List Int)⊕(List Int)):=
 some (.inl (W (a.1+1),b))
def yz(p2:Int)(b:PbT)(a:Int×List Int):Option ((Int×List Int)⊕(List Int)):=
 if decide (a.1<(b.1.1.length:Int)) then
  (nz (b.1.1.length:Int)).bind fun _=>
  (idx b.1.1 ((W (a.1+(W p2))).tmod (b.1.1.length:Int))).bind fun c=>
  (y2o b.2.2 c).bind fun d=>
  if(!d) then
   (app a.2 ([c]:List Int)).bind fun e=>
   yy a e
  else
   yy a a.2
 else
  some (.inr a.2)
def y2k(p0:((Int×y1w)×(Int×y1w)×Int)×Bool)(p1:List (Int×Int×Int×Int))(p2:Int):Option Bool:=
 (y5F).bind fun j=>
 if(!j) then
  some false
 else
  (y3k p0).bind fun c=>
  (iter (yz p2 c) (0,([]:List Int))).bind fun f=>
  (y2V p1 c).bind fun b=>
  (y5a c f b).bind fun a=>
  if(a.2 != 0) then
   (yD c).bind fun h=>
   some ((h==a.2)&&((a.1.length:Int)==0))
  else
   if((a.1.length:Int) != (b.length:Int)) then
    some false
   else
    (iter (yx a) (0,b)).bind fun g=>
    (y4x c g).bind fun d=>
    (if (d.2==0) then
     (y4Z a.1 d.1).bind fun i=>
     some i
    else
     some false).bind fun e=>
    some e
theorem y6Q{p0:((Int×y1w)×(Int×y1w)×Int)×Bool}{p1:List (Int×Int×Int×Int)}{p2:Int}{r:Bool}(hm:y2k p0 p1 p2=some r):
    F0 12 [.a (lx84 p0),.f rE209 p1,.o (lV (.int .u8 p2))] [] (.b r) []:=by
  unfold y2k at hm;refine Fw.mk2 Tryz.func12 Tryz.ntmps12 R (fun C=>?_) R;refine .sr (.bo 0 R (.an R (.seq (.sr (bS hm fun r1 a8 hm=> .c0 (y9F a8) cf46 R (.op (O.not Z R R) R (.ns ?_)))))));refine .cc hm R (fun hm=>?_) fun hm=>?_
  ·refine .sr (.an R (.ret (.seqR ?_)));cases hm;exact .rr [] Tryz.results12 (.tmp R .nil) R I3 trivial
  ·refine .skip (.seqN (.sr (.op (O.lg (l':=(lx84 p0)) ag84 Z R (.B R) R R R) R (bS hm fun e a9 hm=> .op (O.ca (r':= .g [lF qI e.1.1,lI e.1.2.1,lF qI e.1.2.2.1,lF qT e.1.2.2.2,lH 1,lI e.2.1.2.1,lH 2,lH 3,lH 4]) [1,2,3,4] [(0,ROW qI 3 e.2.1.1),(1,ROW qI 3 e.2.1.2.2.1),(2,ROW qT 124 e.2.1.2.2.2),(3,ROW qI 3 e.2.2)] (some 5) (y8J a9) cf47 R R Z R R R R ⟨⟨_,R,I4⟩,⟨_,R,I4⟩,⟨_,R,I4⟩,⟨_,R,I4⟩,trivial⟩ I3 R) R (.al 5 zz37 R (.st ag37.sz R (.nr (.an R (.seq (.sr (.an R (.block (bS hm fun x N hm=>?_)))))))))))));refine .cut1 (z:= .exit 0) x (fun (x:List Int)=>⟨[(8,.h 0),(7,.q 1 0),(1,.f rE209 p1)],[(0,ROW qI 3 x),(1,.bx 37 [lF qI e.1.1,lI e.1.2.1,lF qI e.1.2.2.1,lF qT e.1.2.2.2,lH 2,lI e.2.1.2.1,lH 3,lH 4,lH 5]),(2,ROW qI 3 e.2.1.1),(3,ROW qI 3 e.2.1.2.2.1),(4,ROW qT 124 e.2.1.2.2.2),(5,ROW qI 3 e.2.2)],6⟩) ?_ fun a5=>?_
   · skip
     refine .blkE (.seqN (.sr (.mv R (.op (O.lg (l':=[lF qI e.1.1,lI e.1.2.1,lF qI e.1.2.2.1,lF qT e.1.2.2.2,lH 2,lI e.2.1.2.1,lH 3,lH 4,lH 5]) ag37 Z R (.B R) R R R) R (.fz 2 [53] [1] R R fR R R (.fz 3 [53] [1] R R fR R R (.fz 4 [53] [1] R R fR R R (.fz 5 [53] [1] R R fR R R (bS hm fun b0 Q hm=> .op (O.ca (r':= .h 6) [6] [(0,ROW rE114 114 b0)] (some 7) (y8u Q) cf52 R R Z R R R R ⟨⟨_,R,I4⟩,trivial⟩ I3 R) R (.an R (.sr (.op (O.lg (l':=(lx37 e)) ag37 Z R (.B R) R R R) R (.mv R (.mv R (.fz 0 [57] [] R R fR R R (bS hm fun m S hm=> .op (O.ca (r':= .tp [.h 7,.i m.2]) [6,7] [(1,ROW rE100 100 m.1)] (some 8) (y8T S) cf64 R R Z R R R R ⟨⟨_,R,I4⟩,trivial⟩ I3 R) R (.mv R (.ex R (.ex R (.sa R (.an R (.seq (.sr (.mv R (.bi R (.ns ?_))))))))))))))))))))))))));refine .cc hm R (fun hm=>?_) fun hm=>?_
     ·refine .sr (.op (O.lg (l':=(lx37 e)) ag37 Z R (.B R) R R R) R (bS hm fun J T hm=> .c0 (y6x T) cf62 R (.mv R (.bi R (.mv R ?_)))));refine .cut 4 (fun (D:Bool)=>((J==m.2)&&((m.1.length:Int)==0))=D) (fun D=>⟨[(72,.b D)],[],8⟩) ?_ ?_
      · rintro _ rfl;refine .an R (.ret (.seqR ?_));cases hm;exact .rr [] Tryz.results12 (.tmp R .nil) R I3 trivial
      · intro H;rcases Bool.eq_false_or_eq_true (J==m.2) with hc|hc
        · refine .know (d:=68) R hc ?_;exact .op (O.mv (Gu.mk R R) R R) R (.op (O.lenH sl91 (Gu.mk R R) R R R) R (.op (O.bi (Gu.mk R R) R R R R) R (.op (O.pkT Z R R R R) R ((H ((m.1.length:Int)==0) (andT hc).symm).sub [] R))))
        · refine .know (d:=68) R hc ?_;exact .sk R (.sk R (.sk R (.op (O.pkF Z R R R R) R ((H false (andF hc).symm).sub [] R))))
     ·refine .skip (.seqN (.seq (.sr (.mv R (.op (O.lenH sl91 Z R R R) R (.mv R (.op (O.lenH sl94 Z R R R) R (.bi R (.ns ?_)))))))));refine .cc hm R (fun hm=>?_) fun hm=>?_
      ·refine .sr (.an R (.ret (.seqR ?_)));cases hm;exact .rr [] Tryz.results12 (.tmp R .nil) R I3 trivial
      ·refine .skip (.seqN (.seq (.sr (.an R (.block (bS hm fun y P hm=>?_))))));refine .cut1 (z:= .exit 2) y (fun (y:(List CycT))=>⟨[(12,.h 0),(11,.h 1),(7,.q 2 0)],[(0,ROW rE100 100 m.1),(1,ROW rE114 114 y),(2,.bx 37 (lx37 e))],3⟩) ?_ fun a6=>?_
       · skip
         refine .blkE (.seqN (.sr (.op (O.lg (l':=(lx37 e)) ag37 Z R (.B R) R R R) R (.mv R (.fz 1 [95] [] R R fR R R (bS hm fun K U hm=> .op (O.ca (r':= .tp [.h 3,.i K.2]) [3] [(0,ROW rE100 100 K.1)] (some 4) (y7b U) cf57 R R Z R R R R ⟨⟨_,R,I4⟩,trivial⟩ I3 R) R (.mv R (.ex R (.ex R (.sa R (.an R (.sr (.mv R (.bi R (.mv R (bS hm fun a7 eb32 hm=>?_))))))))))))))));refine .cut 4 (fun (F:Bool)=>a7=F) (fun F=>⟨[(105,.b F)],[],4⟩) ?_ ?_
         · rintro _ rfl;refine .an R (.ret ?_);cases hm;exact .rr [] Tryz.results12 (.tmp R .nil) R I3 trivial
         · intro I;rcases ifS eb32 with ⟨hc,hm⟩|⟨hc,hm⟩
           · refine .know (d:=101) R hc ?_;exact .op (O.mv (Gu.mk R R) R R) R (.op (O.mv (Gu.mk R R) R R) R (bS hm fun b1 V hm=> .op (O.caZ (y9N V) cf58 R R (Gu.mk R R) R ⟨⟨R,.hr R,trivial⟩,⟨R,.hr R,trivial⟩,trivial⟩ (fun _ _ _ _ _ h=>h) R) R (.op (O.pkT Z R R R R) R ((I b1 (oi hm).symm).sub [] R))))
           · refine .know (d:=101) R hc ?_;exact .sk R (.sk R (.sk R (.op (O.pkF Z R R R R) R ((I false (oi hm).symm).sub [] R))))
       refine .iter (fun (s:Int×(List CycT))=>⟨[(14,.i s.1),(12,.h 0),(11,.h 1),(7,.q 2 0)],[(0,ROW rE100 100 m.1),(1,ROW rE114 114 s.2),(2,.bx 37 (lx37 e))],3⟩) P [(0,7),(1,6),(2,1)] R ?_;intro s b4 hm a4 a2;unfold yx at hm;refine .seq (.sr (.mv R (.mv R (.op (O.lenH sl91 Z R R R) R (.bi R (.ns ?_))))));exact .cc hm R (fun hm=> .skip (.seqN (.seq (.block (.reg (.mv R (.mv R (.mv R (.mv R (bS hm fun b2 v hm=> .op (O.ir sl91 Z R R R v R) R (.op (O.faR y7l Z R R) R (.op (O.ld nag3 Z R (.R R v lv100) R R) R (bS hm fun L w hm=> .op (O.ir sl94 Z R R R w R) R (.op (O.faR y7D Z R R) R (bS hm fun b6 X hm=> .op (O.su (z:=(L.1,L.2.1,b2.2.2.2.1)) nag3.sz Z R R w X R R R lv114 R (.p .l (.p .l .k))) R (.nil (.blkN (.seqN (.reg (.mv R (.bi R (.sa R (.nil ((a4 _ (oi hm).symm).sub [] R)))))))))))))))))))))))) fun hm=> .exit (.seqX (.seqX ((a6 _ (a2 _ (oi hm).symm)).sub [] R)))
   refine .nlg qI 3 8 0 R R (.iter (fun (j:Int×List Int)=>⟨[(9,.i j.1),(8,.h 0),(7,.q 1 0),(1,.f rE209 p1),(2,.o (lV (.int .u8 p2)))],[(0,ROW qI 3 j.2),(1,.bx 37 [lF qI e.1.1,lI e.1.2.1,lF qI e.1.2.2.1,lF qT e.1.2.2.2,lH 2,lI e.2.1.2.1,lH 3,lH 4,lH 5]),(2,ROW qI 3 e.2.1.1),(3,ROW qI 3 e.2.1.2.2.1),(4,ROW qT 124 e.2.1.2.2.2),(5,ROW qI 3 e.2.2)],6⟩) N [(0,6),(1,5),(2,1),(3,2),(4,3),(5,4)] R ?_);intro j G hm a3 a1;unfold yz at hm;refine .seq (.sr (.mv R (.fa y3u R (.fa yO R (.lb nag32 R (.ln sl32 R (.bi R (.ns ?_))))))));refine .cc hm R (fun hm=>?_) fun hm=> .exit (.seqX (.seqX ((a5 _ (a1 _ (oi hm).symm)).sub [] R)));refine .skip (.seqN ?_);refine .join1 (fun (t:List Int)=>yy j t=some G) (fun t=>⟨[(8,.h 0),(9,.i j.1),(7,.q 1 0),(1,.f rE209 p1),(2,.o (lV (.int .u8 p2)))],[(0,ROW qI 3 t),(1,.bx 37 [lF qI e.1.1,lI e.1.2.1,lF qI e.1.2.2.1,lF qT e.1.2.2.2,lH 2,lI e.2.1.2.1,lH 3,lH 4,lH 5]),(2,ROW qI 3 e.2.1.1),(3,ROW qI 3 e.2.1.2.2.1),(4,ROW qT 124 e.2.1.2.2.2),(5,ROW qI 3 e.2.2)],6⟩) ?_ ?_
   · intro t hm;unfold yy at hm;exact .reg (.mv R (.bi R (.sa R (.nil ((a3 _ (oi hm).symm).sub [] R)))))
   · intro u;refine .block (.seq ?_);refine .sub (τ:=⟨[(9,.i j.1),(8,.h 0),(7,.q 1 0),(1,.f rE209 p1),(2,.o (lV (.int .u8 p2)))],[(0,ROW qI 3 j.2),(1,.bx 37 [lF qI e.1.1,lI e.1.2.1,lF qI e.1.2.2.1,lF qT e.1.2.2.2,lH 2,lI e.2.1.2.1,lH 3,lH 4,lH 5]),(2,ROW qI 3 e.2.1.1),(3,ROW qI 3 e.2.1.2.2.1),(4,ROW qT 124 e.2.1.2.2.2),(5,ROW qI 3 e.2.2)],6⟩) ?_ [] R;refine bS hm fun _ b3 hm=>bS hm fun M Y hm=>?_;refine .drw [(6,[]),(6,[oT]),(6,[oT,oT]),(6,[]),(6,[]),(6,[oF,oF,oF,oF,oT]),(6,fA 3 (tT 3)),(6,[]),(6,[oF,oF,oF,oF,oF,oF,oF,oT]),(6,[oF,oF,oF,oF,oF,oF,oF,oT,oT]),(6,fA 7 (tT 3)),(6,fA 3 (tT 8)),(6,tT 12),(6,tT 13),(6,tT 14)] [_,_,_,_,_,_,_,_,_,_,_,_,_,_,_] ⟨[(10,.i M),(9,.i j.1),(8,.h 0),(7,.q 1 0),(1,.f rE209 p1),(2,.o (lV (.int .u8 p2)))],[(0,ROW qI 3 j.2),(1,.bx 37 [lF qI e.1.1,lI e.1.2.1,lF qI e.1.2.2.1,lF qT e.1.2.2.2,lH 2,lI e.2.1.2.1,lH 3,lH 4,lH 5]),(2,ROW qI 3 e.2.1.1),(3,ROW qI 3 e.2.1.2.2.1),(4,ROW qT 124 e.2.1.2.2.2),(5,ROW qI 3 e.2.2)],6⟩ ⟨O.faP y3u Z R R,O.faP yO Z R R,O.ld nag32 Z R (.B R) R R,O.mv Z R R,O.mv Z R R,O.cv Tryz.underlying5 Tryz.underlying3 Z R R,O.bi Z R R R R,O.faP y3u Z R R,O.faP yO Z R R,O.ld nag32 Z R (.B R) R R,O.len sl32 Z R R,O.rem Z R R (yef b3) R,O.ix sl32 Z R R Y R,O.ld nag3 Z R (.E lv3) R R,O.as Z R R,trivial⟩ (by kernel_rfl) R ?_;refine .seqN (.sr (.fa y7N R (.lb nag32 R (.mv R (bS hm fun b5 W hm=> .op (O.caZ (y6t W) cf54 R R Z R ⟨⟨R,.hr R,trivial⟩,⟨R,LnL.rf⟩,trivial⟩ (fun _ _ _ _ _ h=>h) R) R (.op (O.not Z R R) R (.ns ?_)))))));exact .cc hm R (fun hm=> .reg (.mv R (.mv R (.op (O.bsF (r:=qI) (zs:=([M]:List Int)) bs32 R R Z R R R (.c .k .n) R R R) R (bS hm fun b7 a0 hm=> .op (O.ap 6 Tryz.underlying32 el3 R R Z R R (.fr R) a0 R) R (.sa R (.nil (.blkN ((u _ hm).sub [(0,6)] R))))))))) fun hm=> .skip (.blkN ((u _ hm).sub [] R))
end
end Go.Proofs.YtecmobjeeonmaaaGreatDoor
namespace Go.Proofs.YtecmobjeeonmaaaGreatDoor
open Go.RowKit Go.Shelf
structure St where
 s:Int
 p:Int
 e:Int
def St.cells(x:St):List Value:=[.int .i64 x.s,.int .i64 x.p,.int .i64 x.e]
end Go.Proofs.YtecmobjeeonmaaaGreatDoor
namespace Go.Proofs.YtecmobjeeonmaaaGreatDoor
def wval(u:List Int):Int:=u.foldl (fun acc e=>33*acc+e+1) 0
theorem yb7(u:List Int)(e:Int):wval (u++[e])=33*wval u+e+1:=by simp [wval,List.foldl_append]
def Evs(u:List Int):Prop:=∀e∈u,0≤e∧e<32
theorem Evs.nil :Evs []:=fun e h=>by cases h
theorem Evs.snoc{u:List Int}{e:Int}(h:Evs u)(h0:0≤e)(h1:e<32):Evs (u++[e]):=by
 intro x hx;rcases List.mem_append.1 hx with h2|h2
 ·exact h x h2
 ·rw [List.mem_singleton.1 h2];exact⟨h0,h1⟩
theorem Evs.of_snoc{u:List Int}{e:Int}(h:Evs (u++[e])):Evs u∧0≤e∧e<32:=
 ⟨fun x hx=>h x (List.mem_append_left _ hx),h e (by simp)⟩
theorem ygy{α:Type}{P:List α→Prop}(h0:P [])(h1:∀u e,P u→P (u++[e]))(u:List α):P u:=by
 have h2:∀n (u:List α),u.length=n→P u:=by
  intro n
  induction n with
  | zero=>intro u hu;rw [List.eq_nil_of_length_eq_zero hu];exact h0
  | succ n ih=>
   intro u hu;rcases List.eq_nil_or_concat u with rfl|⟨l,b,rfl⟩
   ·cases hu
   ·have hl:l.length=n:=by simpa using hu
    simpa using h1 l b (ih l hl)
 exact h2 _ u rfl
theorem ye1(u:List Int):Evs u→0≤wval u:=by
 refine ygy (P:=fun u=>Evs u→0≤wval u) (fun _=>Int.le_refl 0) (fun u e ih h=>?_) u;have h1:=h.of_snoc;have:=ih h1.1;rw [yb7];omega
def Leads(es:List Ed)(perm:Ed→Bool)(s:Int):List Int→Int→Prop
 | [],t=>s=t
 | e::u,t=>∃x∈es,x.f=s∧x.e=e∧perm x=true∧Leads es perm x.t u t
theorem Leads.snoc{es:List Ed}{perm:Ed→Bool}:∀{u:List Int} {s t:Int},Leads es perm s u t→∀{x:Ed},x∈es→x.f=t→perm x=true→Leads es perm s (u++[x.e]) x.t
 | [],s,t,h,x,hx,hf,hp=>⟨x,hx,by rw [hf];exact h.symm,rfl,hp,rfl⟩
 | e::u,s,t,⟨y,hy,h1,h2,h3,h4⟩,x,hx,hf,hp=>⟨y,hy,h1,h2,h3,h4.snoc hx hf hp⟩
theorem Leads.of_snoc{es:List Ed}{perm:Ed→Bool}{e:Int}:∀{u:List Int} {s t:Int},Leads es perm s (u++[e]) t→∃x∈es,Leads es perm s u x.f∧x.e=e∧x.t=t∧perm x=true
 | [],s,t,⟨y,hy,h1,h2,h3,h4⟩=>⟨y,hy,h1.symm,h2,h4,h3⟩
 | a::u,s,t,⟨y,hy,h1,h2,h3,h4⟩=>by
  obtain⟨x,hx,g1,g2,g3,g4⟩:=Leads.of_snoc (u:=u) h4;exact⟨x,hx,⟨y,hy,h1,h2,h3,g1⟩,g2,g3,g4⟩
def EvEs(es:List Ed):Prop:=∀x∈es,0≤x.e∧x.e<32
structure Found (es:List Ed) (perm:Ed→Bool) (s:Int) (L:List (List Int×Int)) (b:Int):Prop where
 lead:∀r∈L,Leads es perm s r.1 r.2
 sorted:∀j k:Nat,j<k→∀r r':List Int×Int,L[j]? =some r→L[k]? =some r'→wval r.1<wval r'.1
 bd:∀r∈L,wval r.1≤b
section
variable{es:List Ed}{perm:Ed→Bool}{s:Int}{L:List (List Int×Int)}{b:Int}{m i:Nat}
theorem Found.mono(h:Found es perm s L b){j k:Nat}(hjk:j≤k){r r':List Int×Int}(hj:L[j]? =some r)(hk:L[k]? =some r'):wval r.1≤wval r'.1:=by
 by_cases e:j=k
 ·subst e;rw [hj] at hk;cases hk;exact Int.le_refl _
 ·exact Int.le_of_lt (h.sorted j k (by omega) r r' hj hk)
end
def edLt(x y:Ed):Prop:=x.f<y.f∨(x.f=y.f∧x.e<y.e)
def yca(es:List Ed):Prop:=es.Pairwise edLt
def ybm(es:List Ed)(tg:List Int):Nat→Int→Prop
 | 0,s=>s∈tg
 | k+1,s=>∃x∈es,x.f=s∧ybm es tg k x.t
end Go.Proofs.YtecmobjeeonmaaaGreatDoor
namespace Go.Proofs.YtecmobjeeonmaaaGreatDoor
open Go Go.RowKit
theorem W_of{x:Int}(h0: -9223372036854775808≤x)(h1:x<9223372036854775808):W x=x:=IntWalk.i64_in _ (by omega)
theorem W_nat{k:Nat}(h:k<9223372036854775808):W (k:Int)=k:=W_of (by omega) (by omega)
theorem ya{α:Type}{xs:List α}{i:Nat}(h:i<xs.length):idx xs (i:Int)=some xs[i]:=by rw [yba,yGe h]
theorem y4L{S O:Type}{f:S→Option (S⊕O)}{s:S}{o:O}{n:Nat}(hn:n≤18446744073709551616)(h:iterF f n s=some o):iter f s=some o:=by
 have mono:∀(n m:Nat) (s:S),n≤m→iterF f n s=some o→iterF f m s=some o:=by
  intro n
  induction n with
  | zero=>intro m s _ h;cases h
  | succ n ih=>
   intro m s hm h;obtain⟨k,rfl⟩:∃k,m=k+1:=⟨m-1,by omega⟩;rw [yc] at h ⊢;split at h
   ·cases h
   ·rename_i h1;exact ih k _ (by omega) h
   ·rename_i h1;exact h
 exact mono n _ s hn h
theorem ye{S O:Type}{f:S→Option (S⊕O)}(P:Nat→S→Prop)(Q:O→Prop):∀(n i:Nat),n<i+18446744073709551616→(∀i s,i<n→P i s→(∃s',f s=some (.inl s')∧P (i+1) s')∨∃o,f s=some (.inr o)∧Q o)→(∀s,P n s→∃o,f s=some (.inr o)∧Q o)→i≤n→
  ∀s,P i s→∃o,iter f s=some o∧Q o:=by
 have key:∀(n:Nat),(∀i s,i<n→P i s→(∃s',f s=some (.inl s')∧P (i+1) s')∨∃o,f s=some (.inr o)∧Q o)→(∀s,P n s→∃o,f s=some (.inr o)∧Q o)→∀(j i:Nat),i+j=n→∀s,P i s→∃o,iterF f (j+1) s=some o∧Q o:=by
  intro n step fin j
  induction j with
  | zero=>
   intro i hi s h;obtain rfl:i=n:=by omega
   obtain⟨o,h1,h2⟩:=fin s h;exact⟨o,by rw [yc,h1],h2⟩
  | succ j ih=>
   intro i hi s h;rcases step i s (by omega) h with ⟨s',h1,h2⟩|⟨o,h1,h2⟩
   ·obtain ⟨o,h3,h4⟩:=ih (i+1) (by omega) s' h2;exact⟨o,by rw [yc,h1];exact h3,h4⟩
   ·exact ⟨o,by rw [yc,h1],h2⟩
 intro n i hn step fin hi s h;obtain⟨o,h1,h2⟩:=key n step fin (n-i) i (by omega) s h;exact⟨o,y4L (by omega) h1,h2⟩
theorem nxt{i:Nat}(h:i<4611686018427387904):W ((i:Int)+1)=((i+1:Nat):Int):=by rw [show (i:Int)+1=((i+1:Nat):Int) by omega,W_nat (by omega)]
theorem ct_lt{i n:Nat}(h:i<n):decide ((i:Int)<(n:Int))=true:=by simp;omega
theorem ct_ge{n:Nat}:¬decide ((n:Int)<(n:Int))=true:=by simp
theorem y7T{α:Type}{xs:List α}{i:Nat}{y:α}(h:i<xs.length):upd xs (i:Int) y=some (xs.set i y):=by
 unfold upd;rw [if_pos ⟨by omega,by omega⟩,Int.toNat_natCast]
theorem y9x{xs:List Int}(h:xs.length≤4294967296):y2b xs=some xs:=by
 rw [y2b,yo (by simpa using h)];rfl
def errO(e:Int):Unit⊕Int:=if e=0 then .inl () else .inr e
theorem ye2{xs:List Int}{n:Int}(hl:xs.length<4611686018427387904):∀(j i:Nat),i+j=xs.length→
  iterF (y2J xs n) (j+1) (i:Int)=some (errO (yB n (y6T xs i) (xs.drop i))):=by
 intro j
 induction j with
 | zero=>
  intro i hi;have e:xs.drop i= []:=List.drop_of_length_le (by omega);rw [yc,y2J,if_neg (by simp;omega),e];rfl
 | succ j ih=>
  intro i hi;have hlt:i<xs.length:=by omega
  rw [yc,y2J,if_pos (by simp;omega),ya hlt,yOb];by_cases h1:xs[i]<0∨n≤xs[i]
  ·rw [if_pos (by simpa using h1),ygm hlt h1];rfl
  ·rw [if_neg (by simpa using h1)];by_cases h0:0<i
   ·rw [if_pos (by simp;omega),show(i:Int)-1=((i-1:Nat):Int) by omega,W_nat (by omega),ya (show i-1<xs.length by omega),yOb,yOb];by_cases h2:xs[i]≤xs[i-1]
    ·rw [if_pos (by simpa using h2),ygn hlt h1 h0 h2];rfl
    ·rw [if_neg (by simpa using h2),show(i:Int)+1=((i+1:Nat):Int) by omega,W_nat (by omega),ybx hlt h1 (fun _=>by omega)];exact ih (i+1) (by omega)
   ·rw [if_neg (by simp;omega),yOb,if_neg (by simp),show(i:Int)+1=((i+1:Nat):Int) by omega,W_nat (by omega),ybx hlt h1 (fun h=>absurd h h0)];exact ih (i+1) (by omega)
theorem y8x{xs:List Int}{n:Int}(hl:xs.length<4611686018427387904):y1Z xs n=some (yB n none xs):=by
 have h:iter (y2J xs n) 0=some (errO (yB n none xs)):=y4L (by omega) (ye2 (n:=n) hl xs.length 0 (by omega));rw [y1Z,h,yOb];by_cases h0:yB n none xs=0
 ·rw [h0];rfl
 ·rw [errO,if_neg h0]
theorem ygz{xs:List Int}{x:Int}(hl:xs.length<4611686018427387904):∀(j i:Nat),i+j=xs.length→
  ∃o,iterF (y3m xs x) (j+1) (i:Int)=some o∧((o= .inl ()∧x∉xs.drop i)∨∃k:Nat,i≤k∧o= .inr (k:Int)∧x∈xs.drop i):=by
 intro j
 induction j with
 | zero=>
  intro i hi;have e:xs.drop i= []:=List.drop_of_length_le (by omega);refine⟨.inl (),?_,.inl ⟨rfl,by rw [e];simp⟩⟩;rw [yc,y3m,if_neg (by simp;omega)]
 | succ j ih=>
  intro i hi;have hlt:i<xs.length:=by omega
  rw [yc,y3m,if_pos (by simp;omega),ya hlt,yOb];by_cases h1:x=xs[i]
  ·rw [if_pos (by simpa using h1)];exact⟨_,rfl,.inr ⟨i,Nat.le_refl _,rfl,by rw [List.drop_eq_getElem_cons hlt,h1];exact List.mem_cons_self⟩⟩
  ·rw [if_neg (by simpa using h1),show(i:Int)+1=((i+1:Nat):Int) by omega,W_nat (by omega)];obtain⟨o,h2,h3⟩:=ih (i+1) (by omega);refine⟨o,h2,?_⟩;rw [List.drop_eq_getElem_cons hlt];rcases h3 with ⟨h4,h5⟩|⟨k,h4,h5,h6⟩
   ·exact .inl ⟨h4,fun hc=>(List.mem_cons.1 hc).elim h1 h5⟩
   ·exact .inr ⟨k,by omega,h5,List.mem_cons_of_mem _ h6⟩
theorem y1P{xs:List Int}{x:Int}(hl:xs.length<4611686018427387904):yd xs x=some (hasB xs x):=by
 obtain⟨o,h1,h2⟩:=ygz (x:=x) hl xs.length 0 (by omega);have h:iter (y3m xs x) 0=some o:=y4L (by omega) h1;rw [yd,y6g,h,yOb];rcases h2 with ⟨rfl,h4⟩|⟨k,_,rfl,h4⟩
 ·rw [y8X.2 (by simpa using h4)];rfl
 ·rw [yb.2 (by simpa using h4)];show some (decide ((k:Int)≥0))=some true;simp
def edP(x:Ed):Int×Int×Int:=(x.f,x.e,x.t)
def autP(a:Aut):List Int×Int×List Int×List (Int×Int×Int):=(a.al,a.n,a.ms,a.es.map edP)
def prevE(es:List Ed)(k:Nat):Option Ed:=if k=0 then none else es[k-1]?
theorem ye3{al:List Int}{n:Int}{es:List Ed}{k:Nat}(hk:k<es.length):edErr al n (prevE es k) (es.drop k)=
  if(es[k].f<0∨n≤es[k].f∨es[k].t<0∨n≤es[k].t) then 2 else if hasB al es[k].e=false then 9 else if(∃q,prevE es k=some q∧(es[k].f<q.f∨(es[k].f=q.f∧es[k].e≤q.e))) then 5 else edErr al n (prevE es (k+1)) (es.drop (k+1)):=by
 rw [List.drop_eq_getElem_cons hk,edErr];congr 3;simp [prevE,yGe hk]
theorem ygA{a:Aut}(hl:a.es.length<4611686018427387904)(hal:a.al.length<4611686018427387904):∀(j i:Nat),i+j=a.es.length→
  iterF (y2h (autP a)) (j+1) (i:Int)=some (errO (edErr a.al a.n (prevE a.es i) (a.es.drop i))):=by
 have hlen:(autP a).2.2.2.length=a.es.length:=by simp [autP]
 have hat:∀(i:Nat) (h:i<a.es.length),idx (autP a).2.2.2 (i:Int)=some (edP a.es[i]):=fun i h=>by
  rw [ya (by rw [hlen];exact h)];simp [autP]
 intro j
 induction j with
 | zero=>
  intro i hi;have e:a.es.drop i= []:=List.drop_of_length_le (by omega);rw [yc,y2h,if_neg (by rw [hlen];simp;omega),e];rfl
 | succ j ih=>
  intro i hi;have hlt:i<a.es.length:=by omega
  have hnext:y2g (i:Int)=some (.inl ((i+1:Nat):Int)):=by
   rw [y2g,show(i:Int)+1=((i+1:Nat):Int) by omega,W_nat (by omega)]
  rw [yc,y2h,if_pos (by rw [hlen];simp;omega),hat i hlt,yOb,ye3 hlt];by_cases h1:a.es[i].f<0∨a.n≤a.es[i].f∨a.es[i].t<0∨a.n≤a.es[i].t
  ·rw [if_pos (by simp only [Bool.or_eq_true,decide_eq_true_eq];show((a.es[i].f<0∨a.es[i].f≥a.n)∨a.es[i].t<0)∨a.es[i].t≥a.n;omega),if_pos h1];rfl
  ·rw [if_neg (by simp only [Bool.or_eq_true,decide_eq_true_eq];show ¬(((a.es[i].f<0∨a.es[i].f≥a.n)∨a.es[i].t<0)∨a.es[i].t≥a.n);omega),if_neg h1];rw [show yd (autP a).1 (edP a.es[i]).2.1=some (hasB a.al a.es[i].e) from y1P hal,yOb];cases h2:hasB a.al a.es[i].e with
   | false=>rfl
   | true=>
    rw [if_neg (show ¬(!true)=true by simp),if_neg (show ¬(true=false) by simp)];by_cases h0:i=0
    ·subst h0;rw [if_pos (by simp),hnext,if_neg (by rintro⟨q,hq,_⟩;simp [prevE] at hq)];exact ih 1 (by omega)
    ·have hp:prevE a.es i=some a.es[i-1]:=by rw [prevE,if_neg h0,yGe (by omega)]
     rw [if_neg (by simp;omega),show(i:Int)-1=((i-1:Nat):Int) by omega,W_nat (by omega),hat (i-1) (by omega),yOb];by_cases h3:a.es[i].f<a.es[i-1].f∨(a.es[i].f=a.es[i-1].f∧a.es[i].e≤a.es[i-1].e)
     ·rw [if_pos (by simp only [Bool.or_eq_true,Bool.and_eq_true,decide_eq_true_eq,beq_iff_eq];exact h3),if_pos ⟨_,hp,h3⟩];rfl
     ·rw [if_neg (by simp only [Bool.or_eq_true,Bool.and_eq_true,decide_eq_true_eq,beq_iff_eq];exact h3),hnext,if_neg (by rintro⟨q,hq,h4⟩;rw [hp] at hq;cases hq;exact h3 h4)];exact ih (i+1) (by omega)
theorem yaA{a:Aut}(hl:a.es.length<4611686018427387904)(hal:a.al.length<4611686018427387904)(hms:a.ms.length<4611686018427387904):y1N (autP a)=some a.err:=by
 have h:iter (y2h (autP a)) 0=some (errO (edErr a.al a.n none a.es)):=y4L (by omega) (ygA hl hal a.es.length 0 (by omega));have he:y4h (autP a)=some (edErr a.al a.n none a.es):=by
  rw [y4h,h,yOb];by_cases h0:edErr a.al a.n none a.es=0
  ·rw [h0];rfl
  ·rw [errO,if_neg h0]
 rw [y1N,show y1Z (autP a).1 32=some (yB 32 none a.al) from y8x hal,yOb,Aut.err];by_cases h1:(yB 32 none a.al != 0)=true
 ·rw [if_pos h1,if_pos h1]
 ·rw [if_neg h1,if_neg h1];by_cases h2:a.n<0
  ·rw [if_pos (show decide ((autP a).2.1<0)=true from decide_eq_true h2),if_pos h2]
  ·rw [if_neg (show ¬decide ((autP a).2.1<0)=true from fun e=>h2 (of_decide_eq_true e)),if_neg h2];by_cases h3:4096<a.n
   ·rw [if_pos (show decide ((autP a).2.1>4096)=true from decide_eq_true h3),if_pos h3]
   ·rw [if_neg (show ¬decide ((autP a).2.1>4096)=true from fun e=>h3 (of_decide_eq_true e)),if_neg h3,show y1Z (autP a).2.2.1 (autP a).2.1=some (yB a.n none a.ms) from y8x hms,yOb];by_cases h4:(yB a.n none a.ms != 0)=true
    ·rw [if_pos h4,if_pos h4]
    ·rw [if_neg h4,if_neg h4,he];rfl
abbrev Inc(xs:List Int):Prop:=xs.Pairwise (· < ·)
theorem yhI{i j:Nat}(h:i+j<9223372036854775808):W ((IntKind.u64.wrap (W ((i:Int)+(j:Int)))).fdiv (2 ^ (min (1:Int).toNat 64)))=(((i+j)/2:Nat):Int):=by
 rw [W_of (x:=(i:Int)+j) (by omega) (by omega),IntWalk.u64_in _ (by omega),show(2:Int) ^ (min (1:Int).toNat 64)=2 from rfl,Int.fdiv_eq_ediv_of_nonneg _ (by omega),W_of (by omega) (by omega)];omega
theorem yhJ(x y:Int):y6r x y=some (decide (x<y)):=by
 rw [y6r,show y5D x=some false by rw [y5D];simp,yOb,if_neg (by simp),yOb,Bool.false_or]
theorem yii{xs:List Int}{t:Int}(hl:xs.length<4294967296)(hs:Inc xs):∀(f i j:Nat),j≤i+f→i≤j→j≤xs.length→(∀k (h:k<xs.length),k<i→xs[k]<t)→(∀k (h:k<xs.length),j≤k→t≤xs[k])→
  ∃p:Nat,iterF (y1q xs t) (f+1) ((j:Int),(i:Int))=some (p:Int)∧p≤xs.length∧(∀k (h:k<xs.length),k<p→xs[k]<t)∧(∀k (h:k<xs.length),p≤k→t≤xs[k]):=by
 intro f
 induction f with
 | zero=>
  intro i j h1 h2 h3 h4 h5;refine⟨i,?_,by omega,h4,fun k h hk=>h5 k h (by omega)⟩;rw [yc,y1q,if_neg (by simp;omega)]
 | succ f ih=>
  intro i j h1 h2 h3 h4 h5;rw [yc,y1q];dsimp only;by_cases hij:i<j
  ·have hm:(i+j)/2<xs.length:=by omega
   rw [if_pos (by simp;omega),yhI (by omega),ya hm,yOb,yhJ,yOb];have mono:∀(a b:Nat) (ha:a<xs.length) (hb:b<xs.length),a≤b→xs[a]≤xs[b]:=fun a b ha hb hab=>by
    rcases Nat.lt_or_ge a b with h|h
    ·exact Int.le_of_lt (List.pairwise_iff_getElem.1 hs a b ha hb h)
    ·have:a=b:=by omega
     subst this;exact Int.le_refl _
   by_cases hc:xs[(i+j)/2]<t
   ·rw [if_pos (decide_eq_true hc),show(((i+j)/2:Nat):Int)+1=(((i+j)/2+1:Nat):Int) by omega,W_nat (by omega)];exact ih _ j (by omega) (by omega) h3 (fun k h hk=>by have:=mono k _ h hm (by omega);omega) h5
   ·rw [if_neg (by simpa using hc)];exact ih i _ (by omega) (by omega) (by omega) h4 (fun k h hk=>by have:=mono _ k hm h hk;omega)
  ·rw [if_neg (by simp;omega)];exact⟨i,rfl,by omega,h4,fun k h hk=>h5 k h (by omega)⟩
theorem y7e{xs:List Int}{t:Int}(hl:xs.length<4294967296)(hs:Inc xs):y3h xs t=some (hasB xs t):=by
 obtain⟨p,hp,hle,hlo,hhi⟩:=yii (t:=t) hl hs xs.length 0 xs.length (by omega) (by omega) (by omega) (fun k h hk=>absurd hk (by omega)) (fun k h hk=>absurd hk (by omega));have hi:iter (y1q xs t) ((xs.length:Int),0)=some (p:Int):=y4L (by omega) hp;rw [y3h,y4M,hi,yOb];by_cases hlt:p<xs.length
 ·rw [if_pos (by simpa using hlt),ya hlt,yOb];by_cases he:xs[p]=t
  ·rw [if_pos (by simpa using he)];show some true=_;rw [yb.2 (he▸List.getElem_mem hlt)]
  ·rw [if_neg (by simpa using he),yOb,show y4E xs[p]=some false by rw [y4E];simp,yOb,if_neg (by simp)];show some false=_;rw [y8X.2];intro hm;obtain⟨k,hk,hk2⟩:=List.getElem_of_mem hm;rcases Nat.lt_trichotomy k p with h|h|h
   ·have:=hlo k hk h;omega
   ·subst h;exact he hk2
   ·have:=hhi p hlt (Nat.le_refl _);have:=List.pairwise_iff_getElem.1 hs p k hlt hk h;omega
 ·rw [if_neg (by simpa using hlt)];show some false=_;rw [y8X.2];intro hm;obtain⟨k,hk,hk2⟩:=List.getElem_of_mem hm;have:=hlo k hk (by omega);omega
theorem y6u{n:Int}:∀{p:Option Int} {xs:List Int},xs.Pairwise (· < ·)→(∀x∈xs,0≤x∧x<n)→(∀q,p=some q→∀x∈xs,q<x)→yB n p xs=0
 | _,[],_,_,_=>rfl
 | p,x::xs,h,hr,hp=>by
  obtain⟨h1,h2⟩:=List.pairwise_cons.1 h;have h3:=hr x (List.mem_cons_self ..);rw [yB,if_neg (by omega),if_neg ?_]
  ·exact y6u h2 (fun y hy=>hr y (List.mem_cons_of_mem _ hy)) (fun q hq y hy=>by cases hq;exact h1 y hy)
  ·rintro ⟨q,hq,hle⟩;have:=hp q hq x (List.mem_cons_self ..);omega
theorem ydJ{al:List Int}{n:Int}:∀{p:Option Ed} {es:List Ed},yca es→(∀x∈es,0≤x.f∧x.f<n∧0≤x.t∧x.t<n∧hasB al x.e=true)→(∀q,p=some q→∀x∈es,edLt q x)→edErr al n p es=0
 | _,[],_,_,_=>rfl
 | p,x::xs,h,hr,hp=>by
  obtain⟨h1,h2⟩:=List.pairwise_cons.1 h;have h3:=hr x (List.mem_cons_self ..);rw [edErr,if_neg (by omega),if_neg (by rw [h3.2.2.2.2];simp),if_neg ?_]
  ·exact ydJ h2 (fun y hy=>hr y (List.mem_cons_of_mem _ hy)) (fun q hq y hy=>by cases hq;exact h1 y hy)
  ·rintro ⟨q,hq,hle⟩;have:=hp q hq x (List.mem_cons_self ..);unfold edLt at this;omega
theorem y9b(a:AutT):autP (toAut a)=a:=by
 obtain⟨x,y,z,es⟩:=a;simp only [autP,toAut,List.map_map];rw [show (edP∘toEd)=id from rfl,List.map_id]
structure Right (a:AutT) (n:Nat):Prop where
 nn:a.2.1=(n:Int)
 nl:n≤4096
 ali:Inc a.1
 alr:∀x∈a.1,0≤x∧x<32
 msi:Inc a.2.2.1
 msr:∀x∈a.2.2.1,0≤x∧x<(n:Int)
 es:∀x∈a.2.2.2,0≤x.1∧x.1<(n:Int)∧0≤x.2.2∧x.2.2<(n:Int)∧x.2.1∈a.1
 so:a.2.2.2.Pairwise fun x y=>x.1<y.1∨(x.1=y.1∧x.2.1<y.2.1)
 l1:a.1.length≤1000000
 l2:a.2.2.1.length≤1000000
 l3:a.2.2.2.length≤1000000
namespace Right
variable{a:AutT}{n:Nat}
theorem sorted(h:Right a n):yca (a.2.2.2.map toEd):=by
 unfold yca;rw [List.pairwise_map];exact h.so
theorem ein(h:Right a n):∀x∈a.2.2.2.map toEd,0≤x.f∧x.f<(n:Int)∧0≤x.t∧x.t<(n:Int):=fun x hx=>by
 obtain⟨y,hy,rfl⟩:=List.mem_map.1 hx;have:=h.es y hy;exact⟨this.1,this.2.1,this.2.2.1,this.2.2.2.1⟩
theorem evs(h:Right a n):EvEs (a.2.2.2.map toEd):=fun x hx=>by
 obtain⟨y,hy,rfl⟩:=List.mem_map.1 hx;exact h.alr _ (h.es y hy).2.2.2.2
theorem err(h:Right a n):(toAut a).err=0:=by
 have h1:yB 32 none (toAut a).al=0:=y6u h.ali h.alr (fun q hq=>by cases hq);have hn:(toAut a).n=n:=h.nn;have h2:yB (toAut a).n none (toAut a).ms=0:=by rw [hn];exact y6u h.msi h.msr (fun q hq=>by cases hq)
 have h3:edErr (toAut a).al (toAut a).n none (toAut a).es=0:=by
  rw [hn];refine ydJ h.sorted (fun x hx=>?_) (fun q hq=>by cases hq);obtain⟨y,hy,rfl⟩:=List.mem_map.1 hx;have:=h.es y hy;exact⟨this.1,this.2.1,this.2.2.1,this.2.2.2.1,yb.2 this.2.2.2.2⟩
 have:=h.nl;unfold Aut.err;rw [h1,if_neg (by decide),if_neg (by rw [hn];omega),if_neg (by rw [hn];omega),h2,if_neg (by decide),h3]
theorem check(h:Right a n):y1N a=some 0:=by
 have h1:=h.l1;have h2:=h.l2;have h3:=h.l3;have:=yaA (a:=toAut a) (by simp [toAut];omega) (by simp [toAut];omega) (by simp [toAut];omega);rwa [y9b,h.err] at this
end Right
theorem y5q{n:Nat}:∀{xs:List Int} {lo:Int},Inc xs→(∀x∈xs,lo≤x∧x<(n:Int))→0≤lo→xs.length≤n-lo.toNat
 | [],_,_,_,_=>Nat.zero_le _
 | x::xs,lo,h,hr,h0=>by
  obtain⟨h1,h2⟩:=List.pairwise_cons.1 h;have hx:=hr x (List.mem_cons_self ..);have:=y5q (n:=n) (lo:=x+1) h2 (fun y hy=>⟨by have:=h1 y hy;omega,(hr y (List.mem_cons_of_mem _ hy)).2⟩) (by omega);rw [List.length_cons];omega
theorem y1Q{α:Type}(a:α)(us:List α):idx (a::us) 0=some a:=rfl
theorem y5l{α:Type}(a:α)(us:List α):slc (a::us) 1 ((a::us).length:Int)=some us:=by
 rw [slc,if_pos ⟨by omega,by simp;omega,by omega⟩];simp
structure Mrg (out us vs:List Int):Prop where
 o:Inc out
 u:Inc us
 v:Inc vs
 ou:∀x∈out,∀y∈us,x<y
 ov:∀x∈out,∀y∈vs,x<y
 ro:∀x∈out,0≤x∧x<32
 ru:∀x∈us,0≤x∧x<32
 rv:∀x∈vs,0≤x∧x<32
theorem Mrg.swap{out us vs:List Int}(h:Mrg out us vs):Mrg out vs us:=⟨h.o,h.v,h.u,h.ov,h.ou,h.ro,h.rv,h.ru⟩
theorem Mrg.push{out us vs:List Int}{a:Int}(h:Mrg out (a::us) vs)(hv:∀y∈vs,a<y):Mrg (out++[a]) us vs:=by
 obtain⟨u1,u2⟩:=List.pairwise_cons.1 h.u;refine⟨?_,u2,h.v,?_,?_,?_,fun x hx=>h.ru x (List.mem_cons_of_mem _ hx),h.rv⟩
 ·unfold Inc;rw [List.pairwise_append];exact⟨h.o,List.pairwise_singleton _ _,fun x hx y hy=>by rw [List.mem_singleton.1 hy];exact h.ou x hx a (List.mem_cons_self ..)⟩
 ·intro x hx y hy;rcases List.mem_append.1 hx with hx|hx
  ·exact h.ou x hx y (List.mem_cons_of_mem _ hy)
  ·rw [List.mem_singleton.1 hx];exact u1 y hy
 ·intro x hx y hy;rcases List.mem_append.1 hx with hx|hx
  ·exact h.ov x hx y hy
  ·rw [List.mem_singleton.1 hx];exact hv y hy
 ·intro x hx;rcases List.mem_append.1 hx with hx|hx
  ·exact h.ro x hx
  ·rw [List.mem_singleton.1 hx];exact h.ru a (List.mem_cons_self ..)
theorem Mrg.tailv{out us vs:List Int}{a:Int}(h:Mrg out us (a::vs)):Mrg out us vs:=
 ⟨h.o,h.u,(List.pairwise_cons.1 h.v).2,h.ou,fun x hx y hy=>h.ov x hx y (List.mem_cons_of_mem _ hy),h.ro,h.ru,fun x hx=>h.rv x (List.mem_cons_of_mem _ hx)⟩
theorem Mrg.len{out us vs:List Int}(h:Mrg out us vs):out.length≤32:=by
 have:=y5q (n:=32) (lo:=0) h.o h.ro (Int.le_refl _);simpa using this
theorem Mrg.lt{out us vs:List Int}{a b:Int}(h:Mrg out us (b::vs))(hab:a<b):∀y∈b::vs,a<y:=fun y hy=>by
 rcases List.mem_cons.1 hy with rfl|hy
 ·exact hab
 ·have:=(List.pairwise_cons.1 h.v).1 y hy;omega
theorem yeW{out us vs:List Int}(h:Mrg out us vs)(hne:0<us.length+vs.length):
  ∃o u v,yf yC (out,us,vs)=some (.inl (o,u,v))∧Mrg o u v∧u.length+v.length+1≤us.length+vs.length:=by
 have hl:=h.len;have ho:∀a:Int,app out ([a]:List Int)=some (out++[a]):=fun a=>yo (by simp;omega);cases us with
 | nil=>
  cases vs with
  | nil=>simp at hne
  | cons b vs=>
   refine⟨out++[b],[],vs,?_,(h.swap.push (fun y hy=>by cases hy)).swap,by simp⟩;rw [yf];dsimp only;rw [if_pos (by simp),if_neg (by simp),yr];dsimp only;rw [if_pos (by simp),if_pos (by simp),yk,if_neg (by simp),yi,if_pos rfl];dsimp only;rw [y1Q,yOb,y5l,yOb,yn,show yC false true=some true from rfl,yOb,if_pos rfl];dsimp only;rw [ho,yOb]
 | cons a us=>
  cases vs with
  | nil=>
   refine⟨out++[a],us,[],?_,h.push (fun y hy=>by cases hy),by simp⟩;rw [yf];dsimp only;rw [if_pos (by simp),if_pos (by simp),if_pos (by simp),yr];dsimp only;rw [if_neg (by simp),yk,if_pos rfl];dsimp only;rw [y1Q,yOb,y5l,yOb,yi,if_neg (by simp),yn,show yC true false=some true from rfl,yOb,if_pos rfl];dsimp only;rw [ho,yOb]
  | cons b vs=>
   have e0:yf yC (out,a::us,b::vs)=yk yC (out,a::us,b::vs) (decide (a≤b)) (decide (b≤a)):=by
    rw [yf];dsimp only;rw [if_pos (by simp),if_pos (by simp),if_neg (by simp;omega),y1Q,yOb,y1Q,yOb,yr];dsimp only;rw [if_pos (by simp),if_neg (by simp;omega),y1Q,yOb,y1Q,yOb]
   rw [e0,yk];dsimp only;by_cases h1:a<b
   ·refine ⟨out++[a],us,b::vs,?_,h.push (h.lt h1),by simp;omega⟩;rw [if_pos (show decide (a≤b)=true by simp;omega),y1Q,yOb,y5l,yOb,yi,if_neg (by simp;omega),yn,show decide (a≤b)=true by simp;omega,show decide (b≤a)=false by simp;omega,
     show yC true false=some true from rfl,yOb,if_pos rfl]
    dsimp only;rw [ho,yOb]
   ·by_cases h2:b<a
    ·refine ⟨out++[b],a::us,vs,?_,(h.swap.push (h.swap.lt h2)).swap,by simp;omega⟩;rw [if_neg (show ¬decide (a≤b)=true by simp;omega),yi,if_pos (show decide (b≤a)=true by simp;omega)];dsimp only;rw [y1Q,yOb,y5l,yOb,yn,show decide (a≤b)=false by simp;omega,show decide (b≤a)=true by simp;omega,
      show yC false true=some true from rfl,yOb,if_pos rfl]
     dsimp only;rw [ho,yOb]
    ·obtain rfl:a=b:=by omega
     refine⟨out++[a],us,vs,?_,h.tailv.push ((List.pairwise_cons.1 h.v).1),by simp;omega⟩;rw [if_pos (show decide (a≤a)=true by simp),y1Q,yOb,y5l,yOb,yi,if_pos (show decide (a≤a)=true by simp)];dsimp only;rw [y1Q,yOb,y5l,yOb,yn,show decide (a≤a)=true by simp,
      show yC true true=some true from rfl,yOb,if_pos rfl]
     dsimp only;rw [ho,yOb]
def Alp(xs:List Int):Prop:=Inc xs∧∀x∈xs,0≤x∧x<32
theorem Alp.nil :Alp []:=⟨List.Pairwise.nil,fun x hx=>by cases hx⟩
theorem Alp.len{xs:List Int}(h:Alp xs):xs.length≤32:=by
 have:=y5q (n:=32) (lo:=0) h.1 h.2 (Int.le_refl _);simpa using this
theorem ygB{us vs:List Int}(hu:Alp us)(hv:Alp vs):∃o,y4v us vs=some o∧Alp o:=by
 have h0:Mrg [] us vs:=⟨List.Pairwise.nil,hu.1,hv.1,fun x hx=>(by cases hx),fun x hx=>(by cases hx),fun x hx=>(by cases hx),hu.2,hv.2⟩;have l1:=hu.len;have l2:=hv.len;obtain⟨o,h1,h2⟩:=ye (f:=yf yC) (fun i s=>Mrg s.1 s.2.1 s.2.2∧s.2.1.length+s.2.2.length+i≤us.length+vs.length) (fun o=>Alp o) (us.length+vs.length) 0 (by omega) (fun i s hi ⟨g1,g2⟩=>by
   obtain⟨out,u,v⟩:=s;dsimp only at g1 g2;by_cases hne:0<u.length+v.length
   ·obtain ⟨o,u',v',e,g3,g4⟩:=yeW g1 hne;exact .inl ⟨_,e,g3,by dsimp only;omega⟩
   ·have e1:u= []:=List.eq_nil_of_length_eq_zero (by omega);have e2:v= []:=List.eq_nil_of_length_eq_zero (by omega);subst e1;subst e2;exact .inr ⟨out,rfl,g1.o,g1.ro⟩) (fun s ⟨g1,g2⟩=>by
   obtain⟨out,u,v⟩:=s;dsimp only at g1 g2;have e1:u= []:=List.eq_nil_of_length_eq_zero (by omega);have e2:v= []:=List.eq_nil_of_length_eq_zero (by omega);subst e1;subst e2;exact⟨out,rfl,g1.o,g1.ro⟩) (Nat.zero_le _) ([],us,vs) ⟨h0,by dsimp only;omega⟩
 exact⟨o,by rw [y4v,y2P,h1];rfl,h2⟩
theorem yfG{l:List AutT}(hl:l.length≤1000)(h:∀a∈l,Alp a.1):∃ev,y4w l=some ev∧Alp ev:=by
 obtain⟨o,h1,h2⟩:=ye (f:=y1B l) (fun i s=>s.1=(i:Int)∧Alp s.2) (fun o=>Alp o) l.length 0 (by omega) (fun i s hi ⟨e1,g1⟩=>by
   obtain⟨k,out⟩:=s;dsimp only at e1 g1;subst e1;obtain⟨o,e,g2⟩:=ygB g1 (h _ (List.getElem_mem hi));refine .inl ⟨(((i+1:Nat):Int),o),?_,rfl,g2⟩;rw [y1B];dsimp only;rw [if_pos (ct_lt hi),ya hi,yOb,e,yOb,nxt (by omega)]) (fun s ⟨e1,g1⟩=>by
   obtain⟨k,out⟩:=s;dsimp only at e1 g1;subst e1;refine⟨out,?_,g1⟩;rw [y1B];dsimp only;rw [if_neg ct_ge]) (Nat.zero_le _) (0,[]) ⟨rfl,Alp.nil⟩
 exact⟨o,by rw [y4w,h1];rfl,h2⟩
section
variable{κ β:Type}[BEq κ]
theorem ygC{m:List (κ×β)}{k:κ}{v:β}(h:kget m k=some v):∃e∈m,e.2=v:=by
 unfold kget at h;rw [Option.map_eq_some_iff] at h;obtain⟨e,h1,h2⟩:=h;exact⟨e,List.mem_of_find?_eq_some h1,h2⟩
theorem y9y{m:List (κ×β)}{k:κ}{v:β}{e:κ×β}(h:e∈kput m k v):e∈m∨e=(k,v):=by
 unfold kput at h;split at h
 ·exact List.mem_or_eq_of_mem_set h
 ·rcases List.mem_append.1 h with h|h
  ·exact .inl h
  ·exact .inr (List.mem_singleton.1 h)
theorem ybA{m:List (κ×β)}{k:κ}:(kget m k).isSome=m.any fun p=>k==p.1:=by
 unfold kget
 induction m with
 | nil=>rfl
 | cons p m ih=>
  rw [List.any_cons];cases h:k==p.1 with
  | true=>rw [List.find?_cons_of_pos (by simpa using h)];rfl
  | false=>rw [List.find?_cons_of_neg (by simp [h])];simpa using ih
end
theorem beqB(k:ByteArray):(k==k)=true:=by rw [beq_toListBytes];simp
theorem yd0{β:Type}{m:List (ByteArray×β)}{k:ByteArray}{v:β}:(kget (kput m k v) k).isSome=true:=by
 rw [ybA,List.any_eq_true];refine⟨(k,v),?_,beqB k⟩;unfold kput;split
 ·rename_i h;exact List.mem_set h _
 ·exact List.mem_append_right _ (List.mem_singleton.2 rfl)
theorem yfH{β:Type}{m:List (ByteArray×β)}{k q:ByteArray}{v:β}(h:(kget m q).isSome=true):(kget (kput m k v) q).isSome=true:=by
 rw [ybA,List.any_eq_true] at h ⊢;obtain⟨e,h1,h2⟩:=h;have hq:=eqS h2;unfold kput;split
 ·rename_i hlt;obtain⟨i,hi,rfl⟩:=List.getElem_of_mem h1;by_cases e:kidx (m.map (·.1)) k=i
  ·refine ⟨(k,v),List.mem_set hlt _,?_⟩;have hk:(fun p=>k==p) ((m.map (·.1))[kidx (m.map (·.1)) k]'(by rw [List.length_map];exact hlt))=true:=List.findIdx_getElem (p:=fun p=>k==p) (w:=by rw [List.length_map];exact hlt);rw [List.getElem_map] at hk;have hk:=eqS hk;subst e;rw [hq,←hk];exact beqB k
  ·refine ⟨m[i],?_,h2⟩;have:=List.getElem_set_ne (l:=m) e (a:=(k,v)) (by rw [List.length_set];exact hi);rw [←this];exact List.getElem_mem _
 ·exact ⟨e,List.mem_append_left _ h1,h2⟩
def InT(l:List AutT)(t:List Int):Prop:=t.length=l.length∧∀i (h:i<l.length) (h':i<t.length),0≤t[i]∧t[i]<l[i].2.1
theorem InT.set{l:List AutT}{t:List Int}(h:InT l t){i:Nat}(hi:i<l.length){v:Int}(h0:0≤v)(h1:v<l[i].2.1):InT l (t.set i v):=by
 refine⟨by rw [List.length_set];exact h.1,fun k hk hk'=>?_⟩;rw [List.getElem_set];split
 ·rename_i e;subst e;exact⟨h0,h1⟩
 ·exact h.2 k hk _
structure MOk (l:List AutT) (m:List AutT×List Int×List (List ((Int×Int)×Int))):Prop where
 ml:m.1=l
 ev:Alp m.2.1
 len:m.2.2.length=l.length
 edge:∀i (h:i<l.length) (h':i<m.2.2.length),∀e∈m.2.2[i],0≤e.2∧e.2<l[i].2.1
theorem yhK{a:AutT}{n:Nat}(hr:Right a n):∃o,iter (y1O a) (0,([]:List ((Int×Int)×Int)))=some o∧∀e∈o,0≤e.2∧e.2<(n:Int):=by
 have hl:=hr.l3;refine ye (f:=y1O a) (fun i s=>s.1=(i:Int)∧∀e∈s.2,0≤e.2∧e.2<(n:Int)) (fun o=>∀e∈o,0≤e.2∧e.2<(n:Int)) a.2.2.2.length 0 (by omega) (fun i s hi ⟨e1,g1⟩=>?_) (fun s ⟨e1,g1⟩=>?_) (Nat.zero_le _) _ ⟨rfl,fun e he=>(by cases he)⟩
 ·obtain ⟨k,out⟩:=s;dsimp only at e1 g1;subst e1;have hx:=hr.es _ (List.getElem_mem hi);refine .inl ⟨(((i+1:Nat):Int),kput out (a.2.2.2[i].1,a.2.2.2[i].2.1) a.2.2.2[i].2.2),?_,rfl,fun e he=>?_⟩
  ·rw [y1O];dsimp only;rw [if_pos (ct_lt hi),ya hi,yOb,nxt (by omega)]
  ·rcases y9y he with he|he
   ·exact g1 e he
   ·rw [he];exact⟨hx.2.2.1,hx.2.2.2.1⟩
 ·obtain ⟨k,out⟩:=s;dsimp only at e1 g1;subst e1;refine⟨out,?_,g1⟩;rw [y1O];dsimp only;rw [if_neg ct_ge]
def keyK(t:List Int):ByteArray:=⟨(keyB t).toArray⟩
theorem y7H :∀(N:Nat) (l:List Nat),l.Nodup→(∀x∈l,x<N)→l.length≤N
 | 0,[],_,_=>Nat.le_refl _
 | 0,x::l,_,h=>absurd (h x (List.mem_cons_self ..)) (by omega)
 | N+1,l,hn,h=>by
  by_cases hm:N∈l
  ·have h1:=y7H N (l.erase N) (hn.erase N) (fun x hx=>by
    have h2:=(hn.mem_erase_iff).1 hx;have:=h x h2.2;omega)
   rw [List.length_erase_of_mem hm] at h1;omega
  ·have h1:=y7H N l hn (fun x hx=>by
    have:=h x hx;have:x≠N:=fun e=>hm (e▸hx);omega)
   omega
abbrev Kno :=List (ByteArray×Int)
structure SI (l:List AutT) (ev:List Int) (i j:Nat) (kn:Kno) (T:List (List Int)) (E:List (Int×Int×Int)):Prop where
 pos:0<T.length
 nd:T.Nodup
 inT:∀t∈T,InT l t
 key:∀t∈T,(kget kn (keyK t)).isSome=true
 val:∀e∈kn,0≤e.2∧e.2<(T.length:Int)
 er:∀x∈E,0≤x.1∧x.1≤(i:Int)∧0≤x.2.2∧x.2.2<(T.length:Int)∧x.2.1∈ev
 es:∀x∈E,x.1=(i:Int)→x.2.1∈ev.take j
 so:E.Pairwise fun x y=>x.1<y.1∨(x.1=y.1∧x.2.1<y.2.1)
 el:E.length≤32*i+j
 lk:∀k:Nat,0<k→k<T.length→∃x∈E,x.2.2=(k:Int)∧0≤x.1∧x.1<(k:Int)
section
variable{l:List AutT}{ev:List Int}{i j:Nat}{kn:Kno}{T:List (List Int)}{E:List (Int×Int×Int)}
theorem SI.skip(h:SI l ev i j kn T E):SI l ev i (j+1) kn T E:=
 ⟨h.pos,h.nd,h.inT,h.key,h.val,h.er,fun x hx e=>(List.take_subset_take_left ev (Nat.le_succ j)) (h.es x hx e),h.so,by have:=h.el;omega,h.lk⟩
theorem SI.next(h:SI l ev i j kn T E)(hj:j≤32):SI l ev (i+1) 0 kn T E:=
 ⟨h.pos,h.nd,h.inT,h.key,h.val,fun x hx=>by have:=h.er x hx;exact⟨this.1,by omega,this.2.2⟩,fun x hx e=>by have:=h.er x hx;omega,h.so,by have:=h.el;omega,h.lk⟩
theorem yeD(he:Inc ev)(hj:j<ev.length):∀x∈ev.take j,x<ev[j]:=fun x hx=>by
 obtain⟨k,hk,rfl⟩:=List.getElem_of_mem hx;rw [List.length_take] at hk;rw [List.getElem_take];exact List.pairwise_iff_getElem.1 he k j (by omega) hj (by omega)
theorem SI.edge(h:SI l ev i j kn T E)(he:Inc ev)(hi:i<T.length)(hj:j<ev.length){q:Int}(h0:0≤q)(h1:q<T.length):SI l ev i (j+1) kn T (E++[((i:Int),ev[j],q)]):=by
 refine⟨h.pos,h.nd,h.inT,h.key,h.val,fun x hx=>?_,fun x hx e=>?_,?_,by have:=h.el;rw [List.length_append,List.length_singleton];omega,fun k h2 h3=>?_⟩
 ·rcases List.mem_append.1 hx with hx|hx
  ·exact h.er x hx
  ·rw [List.mem_singleton.1 hx];exact⟨by dsimp only;omega,by dsimp only;omega,h0,h1,List.getElem_mem _⟩
 ·rcases List.mem_append.1 hx with hx|hx
  ·exact (List.take_subset_take_left ev (Nat.le_succ j)) (h.es x hx e)
  ·rw [List.mem_singleton.1 hx,yaZ ev j hj];exact List.mem_append_right _ (List.mem_singleton.2 rfl)
 ·rw [List.pairwise_append];refine⟨h.so,List.pairwise_singleton _ _,fun a ha b hb=>?_⟩;rw [List.mem_singleton.1 hb];have h2:=h.er a ha;by_cases e:a.1=(i:Int)
  ·exact .inr ⟨e,yeD he hj _ (h.es a ha e)⟩
  ·exact .inl (by dsimp only;omega)
 ·obtain ⟨x,hx,h4⟩:=h.lk k h2 h3;exact⟨x,List.mem_append_left _ hx,h4⟩
theorem SI.new(h:SI l ev i j kn T E)(he:Inc ev)(hi:i<T.length)(hj:j<ev.length){t:List Int}(ht:InT l t)(hk:(kget kn (keyK t)).isSome=false):SI l ev i (j+1) (kput kn (keyK t) (T.length:Int)) (T++[t]) (E++[((i:Int),ev[j],(T.length:Int))]):=by
 have hlen:(T++[t]).length=T.length+1:=by simp
 have h0:SI l ev i j (kput kn (keyK t) (T.length:Int)) T E∨True:= .inr trivial;refine⟨by omega,?_,fun s hs=>?_,fun s hs=>?_,fun e hx=>?_,fun x hx=>?_,fun x hx e=>?_,?_,by have:=h.el;rw [List.length_append,List.length_singleton];omega,fun k h2 h3=>?_⟩
 ·rw [List.nodup_append];refine⟨h.nd,by simp,fun a ha b hb=>?_⟩;rw [List.mem_singleton.1 hb];intro e;subst e;rw [h.key a ha] at hk;cases hk
 ·rcases List.mem_append.1 hs with hs|hs
  ·exact h.inT s hs
  ·rw [List.mem_singleton.1 hs];exact ht
 ·rcases List.mem_append.1 hs with hs|hs
  ·exact yfH (h.key s hs)
  ·rw [List.mem_singleton.1 hs];exact yd0
 ·rw [hlen];rcases y9y hx with hx|hx
  ·have:=h.val e hx;omega
  ·rw [hx];dsimp only;omega
 ·rw [hlen];rcases List.mem_append.1 hx with hx|hx
  ·have:=h.er x hx;exact⟨this.1,this.2.1,this.2.2.1,by omega,this.2.2.2.2⟩
  ·rw [List.mem_singleton.1 hx];exact⟨by dsimp only;omega,by dsimp only;omega,by dsimp only;omega,by dsimp only;omega,List.getElem_mem _⟩
 ·rcases List.mem_append.1 hx with hx|hx
  ·exact (List.take_subset_take_left ev (Nat.le_succ j)) (h.es x hx e)
  ·rw [List.mem_singleton.1 hx,yaZ ev j hj];exact List.mem_append_right _ (List.mem_singleton.2 rfl)
 ·rw [List.pairwise_append];refine⟨h.so,List.pairwise_singleton _ _,fun a ha b hb=>?_⟩;rw [List.mem_singleton.1 hb];have h2:=h.er a ha;by_cases e:a.1=(i:Int)
  ·exact .inr ⟨e,yeD he hj _ (h.es a ha e)⟩
  ·exact .inl (by dsimp only;omega)
 ·by_cases h4:k<T.length
  ·obtain ⟨x,hx,h5⟩:=h.lk k h2 h4;exact⟨x,List.mem_append_left _ hx,h5⟩
  ·have:k=T.length:=by omega
   subst this;exact⟨_,List.mem_append_right _ (List.mem_singleton.2 rfl),rfl,by dsimp only;omega,by dsimp only;omega⟩
end
theorem ybm.snoc{es:List Ed}:∀{k:Nat} {x:Int} {e:Ed},e∈es→ybm es [e.f] k x→ybm es [e.t] (k+1) x
 | 0,x,e,he,h=>⟨e,he,(List.mem_singleton.1 h).symm,List.mem_singleton.2 rfl⟩
 | k+1,x,e,he,⟨y,hy,h1,h2⟩=>⟨y,hy,h1,h2.snoc he⟩
abbrev edsOf(p:AutT):List Ed:=p.2.2.2.map toEd
theorem yfI{κ β:Type}[BEq κ]{m:List (κ×β)}{k:κ}{v:β}(h:kget m k=some v):∃e∈m,e.2=v∧(k==e.1)=true:=by
 unfold kget at h;rw [Option.map_eq_some_iff] at h;obtain⟨e,h1,h2⟩:=h;exact⟨e,List.mem_of_find?_eq_some h1,h2,List.find?_some (p:=fun p:κ×β=>k==p.1) h1⟩
section
variable{κ β:Type}[DecidableEq κ][BEq κ][LawfulBEq κ]
theorem y8K(p:κ×β)(m:List (κ×β))(q:κ):kget (p::m) q=if q=p.1 then some p.2 else kget m q:=by
 unfold kget;by_cases h:q=p.1
 ·rw [if_pos h,List.find?_cons_of_pos (by simp [h])];rfl
 ·rw [if_neg h,List.find?_cons_of_neg (by simp [h])]
omit [DecidableEq κ] [LawfulBEq κ] in
theorem ygD(k:κ)(v:β):kput [] k v= [(k,v)]:=by
 unfold kput;rw [if_neg (by simp)];rfl
theorem yfJ(p:κ×β)(m:List (κ×β))(k:κ)(v:β):kput (p::m) k v=if k=p.1 then(k,v)::m else p::kput m k v:=by
 unfold kput;rw [List.map_cons,y8A];by_cases h:k=p.1
 ·subst h;rw [if_pos (by simp),if_pos (by simp),if_pos rfl];rfl
 ·have e:(if (k==p.1)=true then 0 else kidx (m.map (·.1)) k+1)=kidx (m.map (·.1)) k+1:=if_neg (by simp [h]);rw [e,if_neg h];by_cases h2:kidx (m.map (·.1)) k<m.length
  ·rw [if_pos h2,if_pos (by rw [List.length_cons];omega),List.set_cons_succ]
  ·rw [if_neg h2,if_neg (by rw [List.length_cons];omega)];rfl
theorem y5B{k q:κ}{v:β}:∀(m:List (κ×β)),kget (kput m k v) q=if q=k then some v else kget m q
 | []=>by rw [ygD,y8K]
 | p::m=>by
  rw [yfJ];by_cases h:k=p.1
  ·rw [if_pos h,y8K,y8K];by_cases h2:q=k
   ·rw [if_pos h2,if_pos h2]
   ·rw [if_neg h2,if_neg h2,if_neg (by rw [←h];exact h2)]
  ·rw [if_neg h,y8K,y8K,y5B m];by_cases h2:q=p.1
   ·rw [if_pos h2,if_neg (by rw [h2];exact fun e=>h e.symm),if_pos h2]
   ·rw [if_neg h2,if_neg h2]
end
structure LOkB (B:Nat) (l:List AutT):Prop where
 len:l.length≤3
 right:∀a∈l,∃n:Nat,1≤n∧n≤B∧Right a n
 b99:B≤99
 pw:B ^ l.length≤4000
theorem yeX{l:List AutT}{B:Nat}(h:LOkB B l):y4Q l=some 0:=by
 have hl:=h.len;have hb99:=h.b99;obtain⟨o,h1,rfl⟩:=ye (f:=y2a l) (fun i s=>s=(i:Int)) (fun o=>o= .inl ()) l.length 0 (by omega) (fun i s hi e1=>by
   subst e1;obtain⟨n,_,_,hr⟩:=h.right _ (List.getElem_mem hi);refine .inl ⟨((i+1:Nat):Int),?_,rfl⟩;rw [y2a,if_pos (ct_lt hi),ya hi,yOb,hr.check,yOb,if_neg (by simp),nxt (by omega)]) (fun s e1=>by
   subst e1;exact⟨_,by rw [y2a,if_neg ct_ge],rfl⟩) (Nat.zero_le _) 0 rfl
 rw [y4Q,if_neg (by simp;omega),h1];rfl
theorem ygE{l:List AutT}{B:Nat}(h:LOkB B l):∃m,y4D l=some m∧MOk l m:=by
 have hl:=h.len;have hb99:=h.b99;obtain⟨ev,he,hev⟩:=yfG (l:=l) (by omega) (fun a ha=>by
  obtain⟨n,_,_,hr⟩:=h.right a ha;exact⟨hr.ali,hr.alr⟩)
 obtain⟨o,h1,h2⟩:=ye (f:=y2p l) (fun i s=>i≤l.length∧s.1=(i:Int)∧s.2.length=i∧∀k (h:k<l.length) (h':k<s.2.length),∀e∈s.2[k],0≤e.2∧e.2<l[k].2.1) (fun o=>o.length=l.length∧∀k (h:k<l.length) (h':k<o.length),∀e∈o[k],0≤e.2∧e.2<l[k].2.1) l.length 0 (by omega) (fun i s hi ⟨_,e1,g1,g2⟩=>by
   obtain⟨k,out⟩:=s;dsimp only at e1 g1 g2;subst e1;obtain⟨n,_,_,hr⟩:=h.right _ (List.getElem_mem hi);obtain⟨o,e,g3⟩:=yhK hr;refine .inl ⟨(((i+1:Nat):Int),out++[o]),?_,by omega,rfl,by simp [g1],fun k hk hk' x hx=>?_⟩
   ·rw [y2p];dsimp only;rw [if_pos (ct_lt hi),ya hi,yOb,e,yOb,yo (by simp;omega),yOb,nxt (by omega)]
   ·dsimp only at hx;by_cases hki:k<out.length
    ·rw [List.getElem_append_left hki] at hx;exact g2 k hk hki x hx
    ·have hk2:k=i:=by simp at hk';omega
     subst hk2;rw [List.getElem_append_right (by omega)] at hx;simp only [g1,Nat.sub_self,List.getElem_cons_zero] at hx;rw [hr.nn];exact g3 x hx) (fun s ⟨_,e1,g1,g2⟩=>by
   obtain⟨k,out⟩:=s;dsimp only at e1 g1 g2;subst e1;refine⟨out,?_,g1,g2⟩;rw [y2p];dsimp only;rw [if_neg ct_ge]) (Nat.zero_le _) (0,[]) ⟨Nat.zero_le _,rfl,rfl,fun k hk hk'=>(by simp at hk')⟩
 exact⟨(l,ev,o),by rw [y4D,he,yOb,h1];rfl,rfl,hev,h2.1,h2.2⟩
theorem ye4{l:List AutT}{B:Nat}(h:LOkB B l){m:List AutT×List Int×List (List ((Int×Int)×Int))}(hm:MOk l m):∃t,yt m=some (t,true)∧InT l t:=by
 have hl:=h.len;have hb99:=h.b99;obtain⟨m1,m2,m3⟩:=m;obtain⟨rfl,hev,hlen,_⟩:=hm;dsimp only at *;obtain⟨o,h1,rfl⟩:=ye (f:=yj (m1,m2,m3)) (fun i s=>s=(i:Int)) (fun o=>o= .inl ()) m1.length 0 (by omega) (fun i s hi e1=>by
   subst e1;obtain⟨n,hn,_,hr⟩:=h.right _ (List.getElem_mem hi);refine .inl ⟨((i+1:Nat):Int),?_,rfl⟩;rw [yj];dsimp only;rw [if_pos (ct_lt hi),ya hi,yOb,hr.nn,if_neg (by simp;omega),nxt (by omega)]) (fun s e1=>by
   subst e1;refine⟨_,?_,rfl⟩;rw [yj];dsimp only;rw [if_neg ct_ge]) (Nat.zero_le _) 0 rfl
 have hmk:mkL (m1.length:Int) (0:Int)=some (List.replicate m1.length 0):=by unfold mkL;rw [if_pos ⟨by omega,by omega⟩,Int.toNat_natCast]
 refine⟨List.replicate m1.length 0,?_,by simp,fun i hi hi'=>?_⟩
 ·rw [yt,h1,yOb];dsimp only;rw [hmk,yOb]
 ·obtain ⟨n,hn,_,hr⟩:=h.right _ (List.getElem_mem hi);rw [List.getElem_replicate,hr.nn];omega
theorem ygF{l:List AutT}{B:Nat}(h:LOkB B l){m:List AutT×List Int×List (List ((Int×Int)×Int))}(hm:MOk l m){t:List Int}(ht:InT l t)(e:Int):∃r,yY m t e=some r∧(r.2=true→InT l r.1):=by
 have hl:=h.len;have hb99:=h.b99;obtain⟨m1,m2,m3⟩:=m;obtain⟨rfl,hev,hlen,hed⟩:=hm;dsimp only at *;obtain⟨o,h1,h2⟩:=ye (f:=ym (m1,m2,m3) t e) (fun i s=>s.1=(i:Int)∧InT m1 s.2) (fun o=>∀u,o= .inl u→InT m1 u) m1.length 0 (by omega) (fun i s hi ⟨e1,g1⟩=>by
   obtain⟨k,out⟩:=s;dsimp only at e1 g1;subst e1;obtain⟨n,hn,_,hr⟩:=h.right _ (List.getElem_mem hi);have ha:m1[i].1.length<4294967296:=by have:=hr.l1;omega
   have hj:∀u:List Int,yu ((i:Int),out) u=some (.inl (((i+1:Nat):Int),u)):=fun u=>by
    rw [yu];dsimp only;rw [nxt (by omega)]
   rw [ym];dsimp only;rw [if_pos (ct_lt hi),ya hi,yOb,y7e ha hr.ali,yOb];cases hb:hasB m1[i].1 e with
   | false=>
    rw [if_pos (by simp),hj];exact .inl ⟨_,rfl,rfl,g1⟩
   | true=>
    rw [if_neg (by simp),ya (by omega),yOb,ya (by have:=ht.1;omega),yOb];cases hg:kget m3[i] (t[i]'(by have:=ht.1;omega),e) with
    | none=>
     rw [if_pos (by simp)];exact .inr ⟨_,rfl,fun u hu=>by cases hu⟩
    | some v=>
     obtain⟨x,hx,rfl⟩:=ygC hg;have hv:=hed i hi (by omega) x hx;rw [if_neg (by simp),ya (by have:=g1.1;omega),yOb,y7T (by have:=g1.1;omega),yOb,hj];exact .inl ⟨_,rfl,rfl,g1.set hi hv.1 hv.2⟩) (fun s ⟨e1,g1⟩=>by
   obtain⟨k,out⟩:=s;dsimp only at e1 g1;subst e1;refine⟨.inl out,?_,fun u hu=>by cases hu;exact g1⟩;rw [ym];dsimp only;rw [if_neg ct_ge]) (Nat.zero_le _) (0,t) ⟨rfl,ht⟩
 rw [yY,y9x (by have:=ht.1;omega),yOb,h1,yOb];cases o with
 | inl u=>exact⟨_,rfl,fun _=>h2 u rfl⟩
 | inr u=>exact⟨_,rfl,fun hb=>by cases hb⟩
theorem yeY{l:List AutT}{B:Nat}(h:LOkB B l){m:List AutT×List Int×List (List ((Int×Int)×Int))}(hm:MOk l m){t:List Int}(ht:InT l t):∃b,yG m t=some b:=by
 have hl:=h.len;have hb99:=h.b99;obtain⟨m1,m2,m3⟩:=m;obtain⟨rfl,hev,hlen,hed⟩:=hm;dsimp only at *;obtain⟨o,h1,h2⟩:=ye (f:=y2E (m1,m2,m3) t) (fun i s=>s=(i:Int)) (fun _=>True) m1.length 0 (by omega) (fun i s hi e1=>by
   subst e1;obtain⟨n,hn,_,hr⟩:=h.right _ (List.getElem_mem hi);have ha:m1[i].2.2.1.length<4294967296:=by have:=hr.l2;omega
   rw [y2E];dsimp only;rw [if_pos (ct_lt hi),ya hi,yOb,ya (by have:=ht.1;omega),yOb,y7e ha hr.msi,yOb];cases hb:hasB m1[i].2.2.1 (t[i]'(by have:=ht.1;omega)) with
   | false=>rw [if_pos (by simp)];exact .inr ⟨_,rfl,trivial⟩
   | true=>rw [if_neg (by simp),nxt (by omega)];exact .inl ⟨_,rfl,rfl⟩) (fun s e1=>by
   subst e1;refine⟨.inl (),?_,trivial⟩;rw [y2E];dsimp only;rw [if_neg ct_ge]) (Nat.zero_le _) 0 rfl
 rw [yG,h1,yOb];cases o with
 | inl u=>exact⟨_,rfl⟩
 | inr u=>exact⟨_,rfl⟩
theorem yeE{l:List AutT}{B:Nat}(h:LOkB B l){t:List Int}(ht:InT l t):y5e t=some (keyK t):=by
 have hl:=h.len;have hb99:=h.b99;have hc:(t.all fun x=>decide (0≤x∧x<100))=true:=by
  rw [List.all_eq_true];intro x hx;obtain⟨i,hi,rfl⟩:=List.getElem_of_mem hx;have hi':i<l.length:=by have:=ht.1;omega
  obtain⟨n,hn,hn6,hr⟩:=h.right _ (List.getElem_mem hi');have:=ht.2 i hi' hi;rw [hr.nn] at this;simp;omega
 rw [y5e,if_pos ⟨hc,by have:=ht.1;omega⟩];rfl
def y7f(B:Nat):List Int→Nat
 | []=>0
 | x::t=>x.toNat+B*y7f B t
theorem ycb{B:Nat}:∀{s t:List Int},s.length=t.length→(∀x∈s,0≤x∧x<B)→(∀x∈t,0≤x∧x<B)→y7f B s=y7f B t→s=t
 | [],[],_,_,_,_=>rfl
 | [],_::_,h,_,_,_=>by simp at h
 | _::_,[],h,_,_,_=>by simp at h
 | x::s,y::t,h,hs,ht,e=>by
  have h1:=hs x (List.mem_cons_self ..);have h2:=ht y (List.mem_cons_self ..);simp only [y7f] at e;have e2:x.toNat=y.toNat:=by
   have h3:=congrArg (· % B) e;simp only [Nat.add_mul_mod_self_left] at h3;rwa [Nat.mod_eq_of_lt (by omega),Nat.mod_eq_of_lt (by omega)] at h3
  have hxy:x=y:=by omega
  subst hxy;have e3:B*y7f B s=B*y7f B t:=by omega
  rw [ycb (s:=s) (t:=t) (by simpa using h) (fun z hz=>hs z (List.mem_cons_of_mem _ hz)) (fun z hz=>ht z (List.mem_cons_of_mem _ hz)) (Nat.eq_of_mul_eq_mul_left (by omega) e3)]
theorem yd1{B:Nat}:∀{t:List Int},(∀x∈t,0≤x∧x<B)→y7f B t<B ^ t.length
 | [],_=>by simp [y7f]
 | x::t,h=>by
  have h1:=h x (List.mem_cons_self ..);have h2:=yd1 (t:=t) (fun z hz=>h z (List.mem_cons_of_mem _ hz));rw [List.length_cons,Nat.pow_succ,y7f];have h3:B*(y7f B t+1)≤B*B ^ t.length:=Nat.mul_le_mul_left B h2;rw [Nat.mul_add,Nat.mul_one] at h3;rw [Nat.mul_comm (B ^ t.length) B];omega
theorem InT.smallB{l:List AutT}{B:Nat}(h:LOkB B l){t:List Int}(ht:InT l t):∀x∈t,0≤x∧x<B:=by
 intro x hx;obtain⟨i,hi,rfl⟩:=List.getElem_of_mem hx;have hi':i<l.length:=by have:=ht.1;omega
 obtain⟨n,hn,hn6,hr⟩:=h.right _ (List.getElem_mem hi');have:=ht.2 i hi' hi;rw [hr.nn] at this;omega
theorem y8y{l:List AutT}{B:Nat}(h:LOkB B l){T:List (List Int)}(hn:T.Nodup)(hT:∀t∈T,InT l t):T.length≤4000:=by
 have h1:=y7H (B ^ l.length) (T.map (y7f B)) ?_ ?_
 ·rw [List.length_map] at h1;have h2:=h.pw;omega
 ·rw [List.Nodup,List.pairwise_map];refine List.Pairwise.imp_of_mem (fun {a b} ha hb hab e=>hab ?_) hn;exact ycb ((hT a ha).1.trans (hT b hb).1.symm) ((hT a ha).smallB h) ((hT b hb).smallB h) e
 ·intro x hx;obtain⟨t,ht,rfl⟩:=List.mem_map.1 hx;rw [←(hT t ht).1];exact yd1 ((hT t ht).smallB h)
end Go.Proofs.YtecmobjeeonmaaaGreatDoor
