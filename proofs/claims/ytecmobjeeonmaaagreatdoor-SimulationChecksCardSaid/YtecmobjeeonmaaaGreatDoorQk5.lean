/- Parts of the proof, without what nothing here names. -/
import Derived.Test.YtecmobjeeonmaaaGreatDoorProg
import Derived.Lib.AppendZeros
import Derived.Test.YtecmobjeeonmaaaGreatDoorQk4
set_option maxRecDepth 100000
set_option maxRecDepth 100000
set_option maxHeartbeats 8000000
namespace Go.Proofs.YtecmobjeeonmaaaGreatDoor
open Go Go.RowKit
noncomputable section
variable{p0:PbT}{p1:Int}{p2:List Int}
def y1L(p0:BenT)(p1:Int):Option Int:=
 (y2f p0.1.1.2.2.2 (y2l (some p0) p1)).bind fun a=>
 if decide (a<0) then
  some (-1)
 else
  (some p0).bind fun b=>
  (idx b.1.1.2.2.2 a).bind fun c=>
  some c.2.2
theorem y6h{p0:BenT}{r:Int}(hm:y1L p0 p1=some r):
    F0 219 [.o (lQ 199 (lx199 p0) 0),.i p1] [] (.i r) []:=by
  unfold y1L at hm;refine Fw.mk2 Tryz.func219 Tryz.ntmps219 R (fun C=>?_) R;refine .sr (.bo 0 R (.bo 1 R (.an R (.sr (.lb y5m R (.op (O.nc .Q Z R R) R (.fq y7E R (.fq y3A R (.fq y1J R (.lq nag33 R (.fz 0 [2] [] R R fB R R (.fz 1 [3] [] R R fB R R (.cnt 2 R (.c (.q (.c (.pk (r:=rE199) (.p (.p (.p .l (.p .k (.p .l .l))) (.p (.p .l (.p .k (.p .l .l))) .l)) (.p (.p (.p .k (.p .k (.p .k (.p .l .l)))) (.p .l (.p .l .k))) (.p .k (.p .l .l))))) .n)) .n) R (.op (O.mf (args:=(fun (x:(Int×Int×Int))=> [.a [lI x.1,lI x.2.1,lI x.2.2]])) (res:=(fun (r:Bool)=> .b r)) (m:=(y2l (some p0) p1)) cf242 (fun x r h=>y8R h) (fun _=>R) R Z R R) R (bS hm fun g d hm=> .c0 (y6o d) cf140 R (.an R (.seq (.sr (.mv R (.bi R (.ns ?_)))))))))))))))))))));refine .cc hm R (fun hm=>?_) fun hm=>?_
  ·refine .sr (.an R (.ret (.seqR ?_)));cases hm;exact .rr [] Tryz.results219 (.tmp R .nil) R I3 trivial
  ·refine .skip (.seqN (.sr (.lq y5m R (bS hm fun j e hm=> .cnt 16 R (.c (.pd e lv199) .n) R (.op (O.nc .Q Z R R) R (.fq y7E R (.fq y3A R (.fq y1J R (.lq nag33 R (.mv R (bS hm fun s f hm=> .ix sl33 f R (.fe y4Y R (.le nag3 lv124 R (.an R (.ret ?_)))))))))))))));cases hm;exact .rr [] Tryz.results219 (.tmp R .nil) R I3 trivial
def y2y(p0:BenT)(b:Int)(a:Int):Option (Bool×BenT):=
 some (decide (b≥0),p0.1,p0.2.1,a,p0.2.2.2)
def y2u(p0:BenT)(p1:Int):Option (Bool×BenT):=
 (y1L p0 p1).bind fun a=>
 if decide (a≥0) then
  y2y p0 a a
 else
  y2y p0 a p0.2.2.1
theorem y6t{p0:BenT}{r:Bool×BenT}(hm:y2u p0 p1=some r):
  Fw Tryz.prog 186 ⟨1,[0]⟩ [.o (lP 0 0),.i p1] [.bx 199 (lx199 p0)] (.b r.1) [.bx 199 (lx199 r.2)]:=by
 unfold y2u at hm;refine Fw.mk2 Tryz.func186 Tryz.ntmps186 R (fun C=>?_) R;refine .sr (.an R (.sr (.mv R (.mv R (bS hm fun e d hm=> .op (O.caZ (y6h d) cf219 R R Z R ⟨⟨R,(.q R LnL.rf),trivial⟩,⟨R,LnL.rf⟩,trivial⟩ (fun _ _ _ _ _ h=>h) R) R (.an R ?_))))));refine .join1 (fun (a:Int)=>y2y p0 e a=some r) (fun a=>⟨[(5,.i e)],[(0,.bx 199 [lF qI p0.1.1.1,lI p0.1.1.2.1,lF qI p0.1.1.2.2.1,lF qT p0.1.1.2.2.2,lF qI p0.1.2.1.1,lI p0.1.2.1.2.1,lF qI p0.1.2.1.2.2.1,lF qT p0.1.2.1.2.2.2,lF qI p0.1.2.2,lI p0.2.1.1.1,lI p0.2.1.1.2.1,lI p0.2.1.1.2.2.1,lF rB p0.2.1.1.2.2.2.1,lF rE302 p0.2.1.1.2.2.2.2,lF qI p0.2.1.2.1,lF qI p0.2.1.2.2.1,lI p0.2.1.2.2.2,lI a,lF rB p0.2.2.2.1,lF rB p0.2.2.2.2])],1⟩) ?_ ?_
 ·intro a hm;unfold y2y at hm;refine .sr (.mv R (.bi R (.an R (.ret ?_))));cases hm;exact .rr [0] Tryz.results186 (.tmp R .nil) R I3 ⟨⟨_,R,I4⟩,trivial⟩
 ·intro c;refine .sr (.mv R (.bi R (.ns ?_)));exact .cc hm R (fun hm=> .reg (.mv R (.mv R (.op (O.nc .B Z R R) R (.fa ybN R (.st nag3.sz R (.nil ((c _ hm).sub [] R)))))))) fun hm=> .skip ((c _ hm).sub [] R)
def y6u(p0:List Int)(p1:List Int):Option Int:=
 (y1M p0 32).bind fun a=>
 if(a != 0) then
  some a
 else
  (y1c p0 p1).bind fun b=>
  if(!b) then
   some 9
  else
   some 0
theorem ybD{p0:List Int}{p1:List Int}{r:Int}(hm:y6u p0 p1=some r):
    F0 295 [.f qI p0,.f qI p1] [] (.i r) []:=by
  unfold y6u at hm;refine Fw.mk2 Tryz.func295 Tryz.ntmps295 R (fun C=>?_) R;refine .sr (.an R (.seq (.sr (.mv R (bS hm fun c a hm=> .c0 (y4Z a) cf25 R (.an R (.sr (.mv R (.bi R (.ns ?_))))))))));refine .cc hm R (fun hm=>?_) fun hm=>?_
  ·refine .sr (.mv R (.an R (.ret (.seqR ?_))));cases hm;exact .rr [] Tryz.results295 (.tmp R .nil) R I3 trivial
  ·refine .skip (.seqN (.seq (.sr (.mv R (.mv R (bS hm fun d b hm=> .c0 (y7i b) cf26 R (.op (O.not Z R R) R (.ns ?_))))))));refine .cc hm R (fun hm=>?_) fun hm=>?_
   ·refine .sr (.an R (.ret (.seqR ?_)));cases hm;exact .rr [] Tryz.results295 (.tmp R .nil) R I3 trivial
   ·refine .skip (.seqN (.sr (.an R (.ret ?_))));cases hm;exact .rr [] Tryz.results295 (.tmp R .nil) R I3 trivial
def y4g(p0:CodT)(p1:List Int)(a:Int×List Bool):Option ((Int×List Bool)⊕(List Bool)):=
 if decide (a.1<(p0.2.1.length:Int)) then
  (idx p0.2.1 a.1).bind fun c=>
  (y3z p1 c).bind fun b=>
  (idx a.2 a.1).bind fun e=>
  (upd a.2 a.1 b).bind fun d=>
  some (.inl (W (a.1+1),d))
 else
  some (.inr a.2)
def y6m(p0:CodT)(p1:List Int):Option (List Bool×Int):=
 (y6u p1 p0.2.1).bind fun b=>
 if(b != 0) then
  some (([]:List Bool),b)
 else
  (mkL (p0.2.1.length:Int) false).bind fun c=>
  (iter (y4g p0 p1) (0,c)).bind fun a=>
  some (a,0)
theorem ybj{p0:CodT}{p1:List Int}{r:List Bool×Int}(hm:y6m p0 p1=some r):
    F0 271 [.a (lx193 p0),.f qI p1] [] (.tp [.h 0,.i r.2]) [ROW rB 4 r.1]:=by
  unfold y6m at hm;refine Fw.mk2 Tryz.func271 Tryz.ntmps271 R (fun C=>?_) R;refine .sr (.bo 0 R (.sa R (.an R (.seq (.sr (.mv R (.fa yd7 R (.lb nag32 R (bS hm fun x p hm=> .c0 (ybD p) cf295 R (.an R (.sr (.mv R (.bi R (.ns ?_))))))))))))));refine .cc hm R (fun hm=>?_) fun hm=>?_
  ·refine .sr (.mv R (.sa R (.an R (.ret (.seqR (.nlg rB 4 4 0 R R ?_))))));cases hm;exact .rr [1] Tryz.results271 (.tmp R (.tmp R .nil)) R I3 ⟨⟨_,R,I4⟩,trivial⟩
  ·refine .skip (.seqN (.sr (.fa yd7 R (.lb nag32 R (.ln sl32 R (bS hm fun y q hm=> .op (O.mk (z:=false) 1 Tryz.underlying144 zr4 R R Z R R q R) R (.an R (.seq (.sr (.fa yd7 R (.lb nag32 R (.ln sl32 R (.mv R (.ns (.block (bS hm fun e g hm=>?_))))))))))))))));refine .cut1 (z:= .exit 0) e (fun (e:List Bool)=>⟨[(7,.h 0)],[(0,ROW rB 4 e)],1⟩) ?_ fun o=>?_
   · skip
     refine .blkE (.seqN (.sr (.mv R (.sa R (.an R (.ret ?_))))));cases hm;exact .rr [0] Tryz.results271 (.tmp R (.tmp R .nil)) R I3 ⟨⟨_,R,I4⟩,trivial⟩
   refine .iter (fun (c:Int×List Bool)=>⟨[(24,.i c.1),(23,.i (p0.2.1.length:Int)),(22,.f qI p0.2.1),(7,.h 0),(1,.f qI p1)],[(0,ROW rB 4 c.2)],1⟩) g [(0,1)] R ?_;intro c t hm n m;unfold y4g at hm;refine .sr (.bi R (.ns (.seq ?_)));exact .cc hm R (fun hm=> .skip (.seqN (.seq (.block (.sr (.mv R (bS hm fun u k hm=> .ix sl32 k R (.le nag3 lv3 R (.sa R (.an R (.reg (.mv R (.mv R (.mv R (.mv R (bS hm fun s j hm=> .c0 (y6Q j) cf94 R (bS hm fun v d hm=> .op (O.ir sl144 Z R R R d R) R (bS hm fun w l hm=> .op (O.su (z:=s) nag4.sz Z R R d l R R R lv4 R .b) R (.nil (.blkN (.seqN (.reg (.bi R (.mv R (.nil ((n _ (oi hm).symm).sub [] R)))))))))))))))))))))))))) fun hm=> .exit (.seqX (.seqX ((o _ (m _ (oi hm).symm)).sub [] R)))
def y5V(p0:List Bool)(p1:Int):Option (List Bool):=if p0= []∧0≤p1∧p1≤100000 then some [] else none
theorem Row.as_at{w:World}{B k':Nat}{tag tag':Nat→Nat}{k:Nat}{t:TypeId}{sz:Nat}{v:Value}{n:Nat}{cs:List Value}(h:Row w B tag k t sz v n cs)(ht:∀b,B≤b→b<w.heap.size→tag' b=k'):Row w 0 tag' k' t sz v n cs:=
 ⟨h.1,h.2.imp id fun⟨b,off,cap,cur,h1,h2,h3⟩=>⟨b,off,cap,cur,h1,⟨h2.heap,ht b h2.base h2.lt,Nat.zero_le _⟩,h3⟩⟩
theorem Tryz.ginfo_bool :(Tryz.prog.info? 4).map (fun i=>(i.zero,i.size,i.bytes))=some (some (.bool false),1,1):=by kernel_rfl
theorem yh3(n:Nat)(w:World)(hn:n≤100000):
  Calls Tryz.prog 321 #[.slice none 0 0,.int .i64 n] w (Ret w fun u w'=>Row w' w.heap.size (fun _=>1) 1 4 1 u 0 []):=by
 obtain⟨i0,hi,hz0,hz1,hz2⟩:=info_parts Tryz.ginfo_bool
 go_enter Tryz.func321,Tryz.ntmps321
 by_cases h0:n=0
 ·subst h0
  go_wp2
  go_ret
  exact⟨_,rfl,Row.nil _ _ _ _ _ _,Below.refl _ _⟩
 ·have h1:(0:Int)<(n:Int):=by omega
  have hge:=grownCap_ge w n 0 4;have hcm:=grownCap_le_maxLen w n 0 4 (by unfold maxLen;omega);have hr:=fun ty=>Lib.run_append_nil_zeros (P:=Tryz.prog) w 144 3 ty 4 i0 (.bool false) .i64 .i64 Tryz.underlying144 Tryz.underlying3 hi hz0 n (by omega) (by rw [hz1];decide) (by omega) (by rw [hz2];omega);have hsz:(Builtin.zeroCells (Value.bool false).cells n++Builtin.zeroCells (Value.bool false).cells (grownCap w n 0 4-n)).size=grownCap w n 0 4:=by
   rw [Array.size_append,size_zeroCells,size_zeroCells];simp [Value.cells];omega
  generalize Builtin.zeroCells (Value.bool false).cells n++Builtin.zeroCells (Value.bool false).cells (grownCap w n 0 4-n)=cs at *;generalize grownCap w n 0 4=cap at *
  go_wp2_with (at_builtin;refine Lib.wpList_append_run _ rfl _ _ 144 3 rfl _ _ rfl rfl _ _ (hr _) ?_)
  go_ret
  refine⟨_,rfl,⟨by simp,.inr ⟨w.heap.size,0,cap,cs,rfl,⟨heap_alloc_new _ _,rfl,Nat.le_refl _⟩,Nat.zero_le _,hcm,by omega,by simp⟩⟩,(by (repeat (first | with_reducible exact Below.refl _ _|with_reducible exact Below.refl _ _|(with_reducible refine yeL ?_ Below.refl _ _ (by first | omega|(simp;done)|(simp;omega)|(simp at *;omega)))|(with_reducible refine Below.alloc ?_ (by first | omega|(simp;done)|(simp;omega)|(simp at *;omega)) _)|(with_reducible refine Below.drew ?_)|(with_reducible refine Below.setCell ?_ (by first | omega|(simp;done)|(simp;omega)|(simp at *;omega)) _))))⟩
theorem yaZ{s:Sig}{p0:List Bool}{u0:Nat}{r:List Bool}(hm:y5V p0 p1=some r):
  Calls Tryz.prog 321 #[.slice none 0 0,.int .i64 p1] s.w (RetS No s fun v s'=>∃(a1:Option Addr) (c1:Nat),v= .slice a1 r.length c1∧RowT rB s' u0 4 a1 c1 r):=by
 unfold y5V at hm;split at hm
 ·rename_i hc;cases hm;obtain⟨_,h1,h2⟩:=hc;obtain⟨n,rfl⟩:∃n:Nat,p1=n:=⟨p1.toNat,by omega⟩;have hn:n≤100000:=by omega
  have hg:Calls Tryz.prog 321 #[.slice none 0 0,.int .i64 n] s.w (Ret s.w fun u w'=>Row w' s.w.heap.size (fun _=>1) 1 4 1 u 0 []):=yh3 n s.w hn;refine hg.mono fun en w' hh=>?_;obtain⟨u,rfl,hrow,hbel⟩:=hh;obtain⟨a1,c1,rfl⟩:=hrow.val;refine⟨_,⟨w',fun b=>if b<s.w.heap.size then s.tag b else u0⟩,rfl,rfl,Below.mv hbel (fun b hb=>if_pos hb),a1,c1,rfl,[],hrow.as_at fun b h3 h4=>if_neg (by omega),rfl⟩
 ·cases hm
def y6J(p0:List Int)(p1:Int):Option (List Int):=if p0= []∧0≤p1∧p1≤100000 then some [] else none
theorem Tryz.ginfo_int :(Tryz.prog.info? 3).map (fun i=>(i.zero,i.size,i.bytes))=some (some (.int .i64 0),1,8):=by kernel_rfl
theorem ygc(n:Nat)(w:World)(hn:n≤100000):
  Calls Tryz.prog 218 #[.slice none 0 0,.int .i64 n] w (Ret w fun u w'=>Row w' w.heap.size (fun _=>1) 1 3 1 u 0 []):=by
 obtain⟨i0,hi,hz0,hz1,hz2⟩:=info_parts Tryz.ginfo_int
 go_enter Tryz.func218,Tryz.ntmps218
 by_cases h0:n=0
 ·subst h0
  go_wp2
  go_ret
  exact⟨_,rfl,Row.nil _ _ _ _ _ _,Below.refl _ _⟩
 ·have h1:(0:Int)<(n:Int):=by omega
  have hge:=grownCap_ge w n 0 3;have hcm:=grownCap_le_maxLen w n 0 3 (by unfold maxLen;omega);have hr:=fun ty=>Lib.run_append_nil_zeros (P:=Tryz.prog) w 32 3 ty 3 i0 (.int .i64 0) .i64 .i64 Tryz.underlying32 Tryz.underlying3 hi hz0 n (by omega) (by rw [hz1];decide) (by omega) (by rw [hz2];omega);have hsz:(Builtin.zeroCells (Value.int .i64 0).cells n++Builtin.zeroCells (Value.int .i64 0).cells (grownCap w n 0 3-n)).size=grownCap w n 0 3:=by
   rw [Array.size_append,size_zeroCells,size_zeroCells];simp [Value.cells];omega
  generalize Builtin.zeroCells (Value.int .i64 0).cells n++Builtin.zeroCells (Value.int .i64 0).cells (grownCap w n 0 3-n)=cs at *;generalize grownCap w n 0 3=cap at *
  go_wp2_with (at_builtin;refine Lib.wpList_append_run _ rfl _ _ 32 3 rfl _ _ rfl rfl _ _ (hr _) ?_)
  go_ret
  refine⟨_,rfl,⟨by simp,.inr ⟨w.heap.size,0,cap,cs,rfl,⟨heap_alloc_new _ _,rfl,Nat.le_refl _⟩,Nat.zero_le _,hcm,by omega,by simp⟩⟩,(by (repeat (first | with_reducible exact Below.refl _ _|with_reducible exact Below.refl _ _|(with_reducible refine yeL ?_ Below.refl _ _ (by first | omega|(simp;done)|(simp;omega)|(simp at *;omega)))|(with_reducible refine Below.alloc ?_ (by first | omega|(simp;done)|(simp;omega)|(simp at *;omega)) _)|(with_reducible refine Below.drew ?_)|(with_reducible refine Below.setCell ?_ (by first | omega|(simp;done)|(simp;omega)|(simp at *;omega)) _))))⟩
theorem ybk{s:Sig}{p0:List Int}{u0:Nat}{r:List Int}(hm:y6J p0 p1=some r):
  Calls Tryz.prog 218 #[.slice none 0 0,.int .i64 p1] s.w (RetS No s fun v s'=>∃(a1:Option Addr) (c1:Nat),v= .slice a1 r.length c1∧RowT (rK .i64) s' u0 3 a1 c1 r):=by
 unfold y6J at hm;split at hm
 ·rename_i hc;cases hm;obtain⟨_,h1,h2⟩:=hc;obtain⟨n,rfl⟩:∃n:Nat,p1=n:=⟨p1.toNat,by omega⟩;have hn:n≤100000:=by omega
  have hg:Calls Tryz.prog 218 #[.slice none 0 0,.int .i64 n] s.w (Ret s.w fun u w'=>Row w' s.w.heap.size (fun _=>1) 1 3 1 u 0 []):=ygc n s.w hn;refine hg.mono fun en w' hh=>?_;obtain⟨u,rfl,hrow,hbel⟩:=hh;obtain⟨a1,c1,rfl⟩:=hrow.val;refine⟨_,⟨w',fun b=>if b<s.w.heap.size then s.tag b else u0⟩,rfl,rfl,Below.mv hbel (fun b hb=>if_pos hb),a1,c1,rfl,[],hrow.as_at fun b h3 h4=>if_neg (by omega),rfl⟩
 ·cases hm
theorem yb0{p0:List Bool}{r:List Bool}(hm:y5V p0 p1=some r):Fw Tryz.prog 321 ⟨0,[]⟩ [.o (lV (.slice none 0 0)),.i p1] [] (.h 0) [ROW rB 4 r]:=
 ⟨fun ts β s vs ht _ _ _ ⟨v,us,h,⟨v2,us2,h2,hu,e3⟩,e2⟩ _=>by
  have hu:us2= []:=hu;have h:v= .slice none 0 0:=h.1;have h2:v2= .int .i64 p1:=h2.1;subst hu e3 e2 h h2;obtain⟨t,rfl⟩:∃t,ts= [t]:=by
   match ts,ht with
   | [t],_=>exact⟨t,rfl⟩
  exact Calls.mono (yaZ (u0:=t) hm) fun en w' ⟨v,s',e1,e2,m,a,c,hv,hr⟩=>⟨v,s',e1,e2,m.no,fun _=>v,fun i hi=>(by cases hi),⟨rfl,by rw [hv];rfl⟩,fun i o ho=>by
   match i,ho with
   | 0,ho=>cases ho;exact⟨a,c,hv,hr⟩⟩⟩
theorem ybl{p0:List Int}{r:List Int}(hm:y6J p0 p1=some r):Fw Tryz.prog 218 ⟨0,[]⟩ [.o (lV (.slice none 0 0)),.i p1] [] (.h 0) [ROW qI 3 r]:=
 ⟨fun ts β s vs ht _ _ _ ⟨v,us,h,⟨v2,us2,h2,hu,e3⟩,e2⟩ _=>by
  have hu:us2= []:=hu;have h:v= .slice none 0 0:=h.1;have h2:v2= .int .i64 p1:=h2.1;subst hu e3 e2 h h2;obtain⟨t,rfl⟩:∃t,ts= [t]:=by
   match ts,ht with
   | [t],_=>exact⟨t,rfl⟩
  exact Calls.mono (ybk (u0:=t) hm) fun en w' ⟨v,s',e1,e2,m,a,c,hv,hr⟩=>⟨v,s',e1,e2,m.no,fun _=>v,fun i hi=>(by cases hi),⟨rfl,by rw [hv];rfl⟩,fun i o ho=>by
   match i,ho with
   | 0,ho=>cases ho;exact⟨a,c,hv,hr⟩⟩⟩
theorem ybm{p0:List Int}{r:List Int}(hm:y5x p0=some r):Fw Tryz.prog 206 ⟨1,[0]⟩ [.h 0] [ROW qI 3 p0] (.tp []) [ROW qI 3 r]:=
 ⟨fun ts β s vs ht _ _ hp ⟨v,us,h,hu,e2⟩ ho=>by
  have hu:us= []:=hu;subst hu;subst e2;obtain⟨t,rfl⟩:∃t,ts= [t]:=by
   match ts,ht with
   | [t],_=>exact⟨t,rfl⟩
  obtain⟨a,c,e,h2⟩:=ho 0 _ rfl;have hv:v= .slice a p0.length c:=h.1.trans e;subst hv;have hl:r.length=p0.length:=by
   unfold y5x at hm;split at hm
   ·rw [←Option.some.inj hm];exact(y9S _).length_eq
   ·cases hm
  exact Calls.mono (ybg (hp t (.head _)) h2 hm) fun en w' ⟨v,s',e1,e2,m,hv,hr⟩=>⟨v,s',e1,e2,m.weak fun t' ht'=>⟨0,.head _,by rw [show t'=t from ht'];rfl⟩,β,fun _ _=>rfl,⟨[],rfl,hv⟩,fun i o ho=>by
   match i,ho with
   | 0,ho=>cases ho;exact⟨a,c,by rw [e,hl],hr⟩⟩⟩
def y2i(p0:List (List Bool))(a:Int×List Bool):Option ((Int×List Bool)⊕(List Bool)):=
 if decide (a.1<(p0.length:Int)) then
  (idx p0 a.1).bind fun b=>
  (app a.2 b).bind fun c=>
  some (.inl (W (a.1+1),c))
 else
  some (.inr a.2)
def y5A(b:Int×Int)(a:Int):Option ((Int×Int)⊕Int):=
 some (.inl (W (b.1+1),a))
def y2j(p0:List (List Bool))(a:Int×Int):Option ((Int×Int)⊕Int):=
 if decide (a.1<(p0.length:Int)) then
  (idx p0 a.1).bind fun b=>
  if decide ((W (a.2+(b.length:Int)))<0) then
   none
  else
   y5A a (W (a.2+(b.length:Int)))
 else
  some (.inr a.2)
def y5t(p0:List (List Bool)):Option (List Bool):=
 (iter (y2j p0) (0,0)).bind fun c=>
 (y5V ([]:List Bool) c).bind fun b=>
 (iter (y2i p0) (0,b)).bind fun a=>
 some a
theorem yag{p0:List (List Bool)}{r:List Bool}(hm:y5t p0=some r):
  F0 319 [.f (rL rB) p0] [] (.h 0) [ROW rB 4 r]:=by
 unfold y5t at hm;refine Fw.mk2 Tryz.func319 Tryz.ntmps319 R (fun C=>?_) R;refine .sr (.an R (.sr (.an R (.seq (.sr (.mv R (.ln sl387 R (.mv R (.ns (.block (bS hm fun p u hm=>?_)))))))))));refine .cut1 (z:= .exit 0) p (fun (p:Int)=>⟨[(3,.i p),(0,.f (rL rB) p0)],[],0⟩) ?_ fun s=>?_
 ·skip
  refine .blkE (.seqN (.sr (.mv R (bS hm fun x j hm=> .op (O.ca (r':= .h 0) [0] [(0,ROW rB 4 x)] (some 1) (yb0 j) cf321 R R Z R R R R ⟨⟨_,R,I4⟩,trivial⟩ I3 R) R (.an R (.seq (.sr (.mv R (.ln sl387 R (.mv R (.ns (.block (bS hm fun d g hm=>?_)))))))))))));refine .cut1 (z:= .exit 2) d (fun (d:List Bool)=>⟨[(6,.h 0)],[(0,ROW rB 4 d)],1⟩) ?_ fun t=>?_
  ·skip
   refine .blkE (.seqN (.sr (.mv R (.an R (.ret ?_)))));cases hm;exact .rr [0] Tryz.results319 (.tmp R .nil) R I3 ⟨⟨_,R,I4⟩,trivial⟩
  refine .iter (fun (b:Int×List Bool)=>⟨[(27,.i b.1),(26,.i (p0.length:Int)),(25,.f (rL rB) p0),(6,.h 0)],[(0,ROW rB 4 b.2)],1⟩) g [] R ?_;intro b y hm o n;unfold y2i at hm;refine .sr (.bi R (.ns (.seq ?_)));exact .cc hm R (fun hm=> .skip (.seqN (.seq (.block (.sr (bS hm fun B k hm=> .ix sl387 k R (.le y3i lv144 R (.an R (.reg (.mv R (.mv R (bS hm fun D l hm=> .op (O.ap 1 Tryz.underlying144 el4 R R Z R R (.fr R) l R) R (.sa R (.nil (.blkN (.seqN (.reg (.bi R (.mv R (.nil ((o _ (oi hm).symm).sub [(0,1)] R))))))))))))))))))))) fun hm=> .exit (.seqX (.seqX ((t _ (n _ (oi hm).symm)).sub [] R)))
 refine .iter (fun (a:Int×Int)=>⟨[(11,.i a.1),(10,.i (p0.length:Int)),(9,.f (rL rB) p0),(3,.i a.2),(0,.f (rL rB) p0)],[],0⟩) u [] R ?_;intro a q hm w v;unfold y2j at hm;refine .sr (.bi R (.ns (.seq ?_)));refine .cc hm R (fun hm=>?_) fun hm=> .exit (.seqX (.seqX ((s _ (v _ (oi hm).symm)).sub [] R)));refine .skip (.seqN ?_);refine .join1 (fun (c:Int)=>y5A a c=some q) (fun c=>⟨[(3,.i c),(11,.i a.1),(10,.i (p0.length:Int)),(9,.f (rL rB) p0),(0,.f (rL rB) p0)],[],0⟩) ?_ ?_
 ·intro c hm;unfold y5A at hm;exact .reg (.bi R (.mv R (.nil ((w _ (oi hm).symm).sub [] R))))
 ·intro e;refine .block (.sr (bS hm fun E m hm=> .ix sl387 m R (.le y3i lv144 R (.an R (.sr (.mv R (.mv R (.ln sl144 R (.bi R (.an R (.sr (.mv R (.bi R (.ns ?_))))))))))))));refine .cc hm R (fun hm=>?_) fun hm=> .skip (.blkN ((e _ hm).sub [] R));refine .reg ?_;cases hm
def y5D(p0:Int×Int×Int×List Bool×(List (Int×Int)))(p1:List Bool×List Bool)(p2:List Bool):Option (List Bool×Int):=
 (y4x p0).bind fun a=>
 if(a != 0) then
  some (([]:List Bool),a)
 else
  if((((p2.length:Int) != p0.1)||((p1.1.length:Int) != p0.2.1))||((p1.2.length:Int) != p0.2.2.1)) then
   some (([]:List Bool),4)
  else
   (y5t ([p2,p1.1,p1.2]:List (List Bool))).bind fun b=>
   some (b,0)
theorem yaH{p0:Int×Int×Int×List Bool×(List (Int×Int))}{p1:List Bool×List Bool}{p2:List Bool}{r:List Bool×Int}(hm:y5D p0 p1 p2=some r):
    F0 296 [.a (lx191 p0),.a [lF rB p1.1,lF rB p1.2],.f rB p2] [] (.tp [.h 0,.i r.2]) [ROW rB 4 r.1]:=by
  unfold y5D at hm;refine Fw.mk2 Tryz.func296 Tryz.ntmps296 R (fun C=>?_) R;refine .sr (.bo 0 R (.bo 1 R (.sa R (.an R (.seq (.sr (.op (O.lg (l':=(lx191 p0)) ag191 Z R (.B R) R R R) R (bS hm fun s m hm=> .c0 (y8f m) cf243 R (.an R (.sr (.mv R (.bi R (.ns ?_)))))))))))));refine .cc hm R (fun hm=>?_) fun hm=>?_
  ·refine .sr (.mv R (.sa R (.an R (.ret (.seqR (.nlg rB 4 6 0 R R ?_))))));cases hm;exact .rr [2] Tryz.results296 (.tmp R (.tmp R .nil)) R I3 ⟨⟨_,R,I4⟩,trivial⟩
  ·refine .skip (.seqN (.seq (.sr (.mv R (.ln sl144 R (.fa y9M R (.lb nag3 R (.bi R (.mv R ?_)))))))));refine .cut 7 (fun (e:Bool)=>(((p2.length:Int) != p0.1)||((p1.1.length:Int) != p0.2.1))=e) (fun e=>⟨[(26,.b e),(4,.q 1 0),(3,.q 0 0),(2,.f rB p2)],[(1,.bx 197 [lF rB p1.1,lF rB p1.2]),(0,.bx 191 (lx191 p0))],2⟩) ?_ ?_
   · rintro _ rfl;refine .mv R ?_;refine .cut 7 (fun (g:Bool)=>((((p2.length:Int) != p0.1)||((p1.1.length:Int) != p0.2.1))||((p1.2.length:Int) != p0.2.2.1))=g) (fun g=>⟨[(34,.b g),(4,.q 1 0),(2,.f rB p2)],[(1,.bx 197 [lF rB p1.1,lF rB p1.2])],2⟩) ?_ ?_
     · rintro _ rfl;refine .ns ?_;refine .cc hm R (fun hm=>?_) fun hm=>?_
       ·refine .sr (.sa R (.an R (.ret (.seqR (.nlg rB 4 6 0 R R ?_)))));cases hm;exact .rr [2] Tryz.results296 (.tmp R (.tmp R .nil)) R I3 ⟨⟨_,R,I4⟩,trivial⟩
       ·refine .skip (.seqN (.sr (.mv R (.fa yaz R (.lb y3i R (.fa ybO R (.lb y3i R (.op (O.bsF (r:=(rL rB)) (zs:=([p2,p1.1,p1.2]:List (List Bool))) bs387 R R Z R R R (.c .l (.c .l (.c .l .n))) R R R) R (bS hm fun p o hm=> .op (O.ca (r':= .h 2) [2] [(0,ROW rB 4 p)] (some 3) (yag o) cf319 R R Z R R R R ⟨⟨_,R,I4⟩,trivial⟩ I3 R) R (.sa R (.an R (.ret ?_))))))))))));cases hm;exact .rr [2] Tryz.results296 (.tmp R (.tmp R .nil)) R I3 ⟨⟨_,R,I4⟩,trivial⟩
     · intro k;rcases Bool.eq_false_or_eq_true (((p2.length:Int) != p0.1)||((p1.1.length:Int) != p0.2.1)) with hc|hc
       · refine .know (d:=27) R hc ?_;exact .sk R (.sk R (.sk R (.sk R (.sk R (.sk R (.op (O.pkT Z R R R R) R ((k true (orT hc).symm).sub [] R)))))))
       · refine .know (d:=27) R hc ?_;exact .op (O.faP ybO (Gu.mk R R) R R) R (.op (O.ld y3i (Gu.mk R R) R (.B R) R R) R (.op (O.len sl144 (Gu.mk R R) R R) R (.op (O.faP yay (Gu.mk R R) R R) R (.op (O.ld nag3 (Gu.mk R R) R (.B R) R R) R (.op (O.bi (Gu.mk R R) R R R R) R (.op (O.pkF Z R R R R) R ((k ((p1.2.length:Int) != p0.2.2.1) (orF hc).symm).sub [] R)))))))
   · intro j;rcases Bool.eq_false_or_eq_true ((p2.length:Int) != p0.1) with hc|hc
     · refine .know (d:=19) R hc ?_;exact .sk R (.sk R (.sk R (.sk R (.sk R (.sk R (.op (O.pkT Z R R R R) R ((j true (orT hc).symm).sub [] R)))))))
     · refine .know (d:=19) R hc ?_;exact .op (O.faP yaz (Gu.mk R R) R R) R (.op (O.ld y3i (Gu.mk R R) R (.B R) R R) R (.op (O.len sl144 (Gu.mk R R) R R) R (.op (O.faP y9N (Gu.mk R R) R R) R (.op (O.ld nag3 (Gu.mk R R) R (.B R) R R) R (.op (O.bi (Gu.mk R R) R R R R) R (.op (O.pkF Z R R R R) R ((j ((p1.1.length:Int) != p0.2.1) (orF hc).symm).sub [] R)))))))
def y1U(p0:Int×Int×Int×List Bool×(List (Int×Int)))(n:(List (Int×ByteArray×(Option (Bool→Bool→Option Bool))×(Option (Bool→Bool→Option Bool))×(Option (Bool→Option Bool)))))(a:List Bool×Int×Bool×List Int):Option ((List Bool×Int×Bool×List Int)⊕(List Bool×List Int)):=
 if decide (a.2.1<(p0.2.2.2.2.length:Int)) then
  (app a.2.2.2 ([a.2.1]:List Int)).bind fun d=>
  (idx p0.2.2.2.2 a.2.1).bind fun b=>
  (idx n (W (b.1-1))).bind fun c=>
  if c.2.2.1.isSome then
   (idx a.1 b.2).bind fun k=>
   c.2.2.1.bind fun e=>
   (e a.2.2.1 k).bind fun h=>
   some (.inl (a.1,W (a.2.1+1),h,d))
  else
   if c.2.2.2.1.isSome then
    (idx a.1 b.2).bind fun l=>
    c.2.2.2.1.bind fun f=>
    (f a.2.2.1 l).bind fun i=>
    (idx a.1 b.2).bind fun o=>
    (upd a.1 b.2 i).bind fun m=>
    some (.inl (m,W (a.2.1+1),a.2.2.1,d))
   else
    c.2.2.2.2.bind fun g=>
    (g a.2.2.1).bind fun j=>
    if j then
     some (.inl (a.1,b.2,a.2.2.1,d))
    else
     some (.inl (a.1,W (a.2.1+1),a.2.2.1,d))
 else
  some (.inr (a.1,a.2.2.2))
def y5W(p0:Int×Int×Int×List Bool×(List (Int×Int)))(p1:List Bool):Option (List Int×List Bool):=
 (y1i).bind fun b=>
 (iter (y1U p0 b) (p1,0,false,([]:List Int))).bind fun a=>
 some (a.2,a.1)
theorem yb1{p0:Int×Int×Int×List Bool×(List (Int×Int))}{p1:List Bool}{r:List Int×List Bool}(hm:y5W p0 p1=some r):
    Fw Tryz.prog 297 ⟨1,[0]⟩ [.a (lx191 p0),.h 0] [ROW rB 4 p1] (.h 1) [ROW rB 4 r.2,ROW qI 3 r.1]:=by
  unfold y5W at hm;refine Fw.mk2 Tryz.func297 Tryz.ntmps297 R (fun C=>?_) R;refine .sr (.bo 1 R (.an R (.sr (bS hm fun w N hm=> .c0 (y7a N) cf293 R (.an R (.sr (.an R (.sr (.an R (.seq (.sr (.an R (.block (bS hm fun p x hm=>?_))))))))))))));refine .cut1 (z:= .exit 0) p (fun (p:List Bool×List Int)=>⟨[(6,.h 1)],[(0,ROW rB 4 p.1),(1,ROW qI 3 p.2)],2⟩) ?_ fun M=>?_
  · skip
    refine .blkE (.seqN (.sr (.mv R (.an R (.ret ?_)))));cases hm;exact .rr [0,1] Tryz.results297 (.tmp R .nil) R I3 ⟨⟨_,R,I4⟩,⟨_,R,I4⟩,trivial⟩
  refine .nlg qI 3 6 0 R R (.iter (fun (d:List Bool×Int×Bool×List Int)=>⟨[(8,.i d.2.1),(7,.b d.2.2.1),(6,.h 1),(5,.f rE372 w),(2,.q 2 0),(1,.h 0)],[(0,ROW rB 4 d.1),(1,ROW qI 3 d.2.2.2),(2,.bx 191 (lx191 p0))],3⟩) x [(1,2),(2,1)] R ?_);intro d V hm o L;unfold y1U at hm;refine .seq (.sr (.mv R (.fa y9O R (.lb y6Y R (.ln sl189 R (.bi R (.ns ?_)))))));refine .cc hm R (fun hm=>?_) fun hm=> .exit (.seqX (.seqX ((M _ (L _ (oi hm).symm)).sub [] R)));refine .skip (.seqN (.block (.sr (.mv R (.mv R (.op (O.bsF (r:=qI) (zs:=([d.2.1]:List Int)) bs32 R R Z R R R (.c .k .n) R R R) R (bS hm fun s H hm=> .op (O.ap 3 Tryz.underlying32 el3 R R Z R R (.fr R) H R) R (.an R (.sr (.fa y9O R (.lb y6Y R (.mv R (bS hm fun m I hm=> .ix sl189 I R (.op (O.lg (l':=[lI m.1,lI m.2]) ag302 Z R (.E lv302) R R R) R (.al 4 zz302 R (.st ag302.sz R (.nr (.mv R (.fa ybL R (.lb nag3 R (.bi R (bS hm fun e J hm=> .ix sl368 J R (.op (O.lg (l':=[lI e.1,lV (.string e.2.1),lF2 Tryz.prog (fun (g:Bool) (j:Bool)=> [.bool g,.bool j]) (fun (r:Bool)=> .bool r) e.2.2.1,lF2 Tryz.prog (fun (g:Bool) (j:Bool)=> [.bool g,.bool j]) (fun (r:Bool)=> .bool r) e.2.2.2.1,lF1 Tryz.prog (fun (g:Bool)=> [.bool g]) (fun (r:Bool)=> .bool r) e.2.2.2.2]) ag372 Z R (.E lv372) R R R) R (.al 5 zz372 R (.st ag372.sz R (.nr ?_))))))))))))))))))))))))));refine .mv R (.bi R (.an R (.block (.sr (.fa yf5 R (.lb ybA R (.op (O.fne2 Tryz.underlying135 Z R R R) R (.an R ?_))))))));refine .cc hm R (fun hm=>?_) fun hm=>?_
  ·refine .sub (τ:=⟨[(8,.i (W (d.2.1+1))),(10,.q 5 0),(9,.q 4 0),(6,.h 3),(7,.b d.2.2.1),(5,.f rE372 w),(2,.q 2 0),(1,.h 0)],[(0,ROW rB 4 d.1),(5,.bx 372 [lI e.1,lV (.string e.2.1),lF2 Tryz.prog (fun (g:Bool) (j:Bool)=> [.bool g,.bool j]) (fun (r:Bool)=> .bool r) e.2.2.1,lF2 Tryz.prog (fun (g:Bool) (j:Bool)=> [.bool g,.bool j]) (fun (r:Bool)=> .bool r) e.2.2.2.1,lF1 Tryz.prog (fun (g:Bool)=> [.bool g]) (fun (r:Bool)=> .bool r) e.2.2.2.2]),(4,.bx 302 [lI m.1,lI m.2]),(3,ROW qI 3 s),(2,.bx 191 (lx191 p0))],6⟩) ?_ [] R;refine bS hm fun S t hm=>bS hm fun X ef31 hm=>bS hm fun P D hm=>?_;refine .drg 6 [(6,[]),(6,[oT]),(6,[]),(6,[]),(6,[]),(6,[oF,oF,oF,oF,oT]),(6,fA 3 (tT 3)),(6,fA 3 (tT 4)),(6,tT 8),(6,tT 9)] [_,_,_,_,_,_,_,_,_,_] ⟨[(7,.b P),(8,.i (W (d.2.1+1))),(6,.h 3),(5,.f rE372 w),(2,.q 2 0),(1,.h 0)],[(0,ROW rB 4 d.1),(3,ROW qI 3 s),(2,.bx 191 (lx191 p0))],6⟩ ⟨O.faP yf5 Z R R,O.ld ybA Z R (.B R) R R,O.mv Z R R,O.mv Z R R,O.faP y7f Z R R,O.ld nag3 Z R (.B R) R R,O.ir sl144 Z R R R t R,O.ld nag4 Z R (.R R t lv4) R R,O.fh2 (y:=d.2.2.1) (z:=S) R R R Z R ef31 D R R,O.as Z R R,trivial⟩ (by kernel_rfl) R ?_;exact .blkN (.blkN ((o _ (oi hm).symm).sub [(1,3)] R))
  ·refine .sr (.fa yd6 R (.lb ybA R (.op (O.fne2 Tryz.underlying135 Z R R R) R (.an R ?_))));refine .cc hm R (fun hm=>?_) fun hm=>?_
   ·refine .sub (τ:=⟨[(8,.i (W (d.2.1+1))),(10,.q 5 0),(9,.q 4 0),(6,.h 3),(7,.b d.2.2.1),(5,.f rE372 w),(2,.q 2 0),(1,.h 0)],[(0,ROW rB 4 d.1),(5,.bx 372 [lI e.1,lV (.string e.2.1),lF2 Tryz.prog (fun (g:Bool) (j:Bool)=> [.bool g,.bool j]) (fun (r:Bool)=> .bool r) e.2.2.1,lF2 Tryz.prog (fun (g:Bool) (j:Bool)=> [.bool g,.bool j]) (fun (r:Bool)=> .bool r) e.2.2.2.1,lF1 Tryz.prog (fun (g:Bool)=> [.bool g]) (fun (r:Bool)=> .bool r) e.2.2.2.2]),(4,.bx 302 [lI m.1,lI m.2]),(3,ROW qI 3 s),(2,.bx 191 (lx191 p0))],6⟩) ?_ [] R;refine bS hm fun T u hm=>bS hm fun Y ef34 hm=>bS hm fun Q F hm=>bS hm fun a2 v hm=>bS hm fun U K hm=>?_;refine .drg 6 [(6,[]),(6,[]),(6,[oF,oT]),(6,[]),(6,[oF,oF,oF,oT]),(6,[]),(6,[]),(6,[]),(6,[oF,oF,oF,oF,oF,oF,oF,oT]),(6,fA 6 (tT 3)),(6,fA 6 (tT 4)),(6,fA 3 (tT 8)),(6,tT 12),(6,tT 13)] [_,_,_,_,_,_,_,_,_,_,_,_,_,_] ⟨[(8,.i (W (d.2.1+1))),(6,.h 3),(7,.b d.2.2.1),(5,.f rE372 w),(2,.q 2 0),(1,.h 0)],[(0,ROW rB 4 U),(3,ROW qI 3 s),(2,.bx 191 (lx191 p0))],6⟩ ⟨O.mv Z R R,O.faP y7f Z R R,O.ld nag3 Z R (.B R) R R,O.faP yd6 Z R R,O.ld ybA Z R (.B R) R R,O.mv Z R R,O.mv Z R R,O.faP y7f Z R R,O.ld nag3 Z R (.B R) R R,O.ir sl144 Z R R R u R,O.ld nag4 Z R (.R R u lv4) R R,O.fh2 (y:=d.2.2.1) (z:=T) R R R Z R ef34 F R R,O.ir sl144 Z R R R v R,O.su (z:=Q) nag4.sz Z R R v K R R R lv4 R .b,trivial⟩ (by kernel_rfl) R ?_;exact .blkN (.blkN ((o _ (oi hm).symm).sub [(1,3)] R))
   ·refine .sr (.fa yf4 R (.lb ygb R (.mv R (bS hm fun a0 ef38 hm=>bS hm fun a1 G hm=> .op (O.fh1 (y:=d.2.2.1) R R R Z R ef38 G R R) R (.an R ?_)))));exact .cc hm R (fun hm=> .reg (.fa y7f R (.lb nag3 R (.sa R (.nil (.blkN (.blkN ((o _ (oi hm).symm).sub [(1,3)] R)))))))) fun hm=> .skip (.blkN (.blkN ((o _ (oi hm).symm).sub [(1,3)] R)))
def y5E(p0:Int×Int×Int×List Bool×(List (Int×Int)))(p1:List Bool):Option (List Bool×List Bool):=
 (slc3 p1 p0.1 (W (p0.1+p0.2.1)) (W (p0.1+p0.2.1))).bind fun a=>
 (slc3 p1 (W (p0.1+p0.2.1)) (p1.length:Int) (p1.length:Int)).bind fun b=>
 some (a,b)
theorem yaI{p0:Int×Int×Int×List Bool×(List (Int×Int))}{p1:List Bool}{r:(List Bool×List Bool)}(hm:y5E p0 p1=some r):
  F0 298 [.a (lx191 p0),.f rB p1] [] (.g [lF rB r.1,lF rB r.2]) []:=by
 unfold y5E at hm;refine Fw.mk2 Tryz.func298 Tryz.ntmps298 R (fun C=>?_) R;refine .sr (.bo 0 R (.al 1 zz197 R (.nr (.fa y9M R (.lb nag3 R (.fa y9N R (.lb nag3 R (.bi R (.an R (.seq ?_))))))))));refine .sub (τ:=⟨[(5,.i (W (p0.1+p0.2.1))),(4,.q 1 0),(2,.q 0 0),(1,.f rB p1)],[(1,.bx 197 [lN,lN]),(0,.bx 191 (lx191 p0))],2⟩) ?_ [] R;refine bS hm fun d b hm=>bS hm fun e c hm=>?_;refine .drg 2 [(2,[]),(2,[]),(2,[oF,oT]),(2,[]),(2,[]),(2,tT 5),(2,[]),(2,[]),(2,[]),(2,[oF,oF,oF,oF,oF,oF,oF,oF,oT]),(2,[]),(2,[oF,oF,oF,oF,oF,oF,oF,oF,oF,oF,oT]),(2,fA 6 (tT 6)),(2,tT 13),(2,tT 14)] [_,_,_,_,_,_,_,_,_,_,_,_,_,_,_] ⟨[(4,.q 1 0)],[(1,.bx 197 [lF rB d,lF rB e])],2⟩ ⟨O.mv Z R R,O.faP y9M Z R R,O.ld nag3 Z R (.B R) R R,O.mv Z R R,O.mv Z R R,O.s3 sl144 Z R R R R b R,O.mv Z R R,O.mv Z R R,O.mv Z R R,O.len sl144 Z R R,O.mv Z R R,O.len sl144 Z R R,O.s3 sl144 Z R R R R c R,O.bu (l:=[lF rB d,lF rB e]) pl197 R Z R R R,O.st ag197.sz Z R R R R R,trivial⟩ (by kernel_rfl) R ?_;refine .seqN (.ret ?_);cases hm;exact .rr [] Tryz.results298 (.cell R R ag197 R .nil) R I3 trivial
def y5g(p0:Int×Int×Int×List Bool×(List (Int×Int)))(p1:List Bool×List Bool)(p2:List Bool):Option ((List Bool×List Bool)×Int):=
 (y5D p0 p1 p2).bind fun a=>
 if(a.2 != 0) then
  some ((([]:List Bool),([]:List Bool)),a.2)
 else
  (y5W p0 a.1).bind fun b=>
  (y5E p0 b.2).bind fun c=>
  some (c,0)
theorem yb2{p0:Int×Int×Int×List Bool×(List (Int×Int))}{p1:List Bool×List Bool}{p2:List Bool}{r:(List Bool×List Bool)×Int}(hm:y5g p0 p1 p2=some r):
    F0 272 [.a (lx191 p0),.a [lF rB p1.1,lF rB p1.2],.f rB p2] [] (.tp [.a [lF rB r.1.1,lF rB r.1.2],.i r.2]) []:=by
  unfold y5g at hm;refine Fw.mk2 Tryz.func272 Tryz.ntmps272 R (fun C=>?_) R;refine .sr (.bo 0 R (.bo 1 R (.al 2 zz197 R (.an R (.sr (.op (O.lg (l':=(lx191 p0)) ag191 Z R (.B R) R R R) R (.op (O.lg (l':=[lF rB p1.1,lF rB p1.2]) ag197 Z R (.B R) R R R) R (.mv R (bS hm fun g b hm=> .op (O.ca (r':= .tp [.h 3,.i g.2]) [3] [(0,ROW rB 4 g.1)] (some 4) (yaH b) cf296 R R Z R R R R ⟨⟨_,R,I4⟩,trivial⟩ I3 R) R (.mv R (.ex R (.ex R (.sa R (.an R (.seq (.sr (.mv R (.bi R (.ns ?_)))))))))))))))))));refine .cc hm R (fun hm=>?_) fun hm=>?_
  ·refine .sr (.op (O.bu (l:=[lN,lN]) pl197 R Z R R R) R (.mv R (.st ag197.sz R (.an R (.ret (.seqR (.cno 2 R (.c (.nf (r:=rB)) (.c (.nf (r:=rB)) .n)) R ?_)))))));cases hm;exact .rr [] Tryz.results272 (.cell R R ag197 R (.tmp R .nil)) R I3 trivial
  ·refine .skip (.seqN (.sr (.op (O.lg (l':=(lx191 p0)) ag191 Z R (.B R) R R R) R (.mv R (bS hm fun j d hm=> .op (O.ca (r':= .h 4) [3,4] [(0,ROW rB 4 j.2),(1,ROW qI 3 j.1)] (some 5) (yb1 d) cf297 R R Z R R R R ⟨⟨_,R,I4⟩,⟨_,R,I4⟩,trivial⟩ I3 R) R (.nr (.op (O.lg (l':=(lx191 p0)) ag191 Z R (.B R) R R R) R (.mv R (.fz 3 [25] [] R R fR R R (bS hm fun k e hm=> .c0 (yaI e) cf298 R (.st ag197.sz R (.an R (.ret ?_)))))))))))));cases hm;exact .rr [] Tryz.results272 (.cell R R ag197 R (.tmp R .nil)) R I3 trivial
def y6d(p0:CodT)(p1:List Bool×List Bool)(p2:List Int):Option ((List Bool×List Bool)×Int):=
 (y6m p0 p2).bind fun a=>
 if(a.2 != 0) then
  some ((([]:List Bool),([]:List Bool)),a.2)
 else
  (y5g p0.1 p1 a.1).bind fun b=>
  some b
theorem ybW{p0:CodT}{p1:List Bool×List Bool}{r:(List Bool×List Bool)×Int}(hm:y6d p0 p1 p2=some r):
    F0 244 [.a (lx193 p0),.a [lF rB p1.1,lF rB p1.2],.f qI p2] [] (.tp [.a [lF rB r.1.1,lF rB r.1.2],.i r.2]) []:=by
  unfold y6d at hm;refine Fw.mk2 Tryz.func244 Tryz.ntmps244 R (fun C=>?_) R;refine .sr (.bo 0 R (.bo 1 R (.al 2 zz197 R (.an R (.sr (.op (O.lg (l':=(lx193 p0)) ag193 Z R (.B R) R R R) R (.mv R (bS hm fun e b hm=> .op (O.ca (r':= .tp [.h 3,.i e.2]) [3] [(0,ROW rB 4 e.1)] (some 4) (ybj b) cf271 R R Z R R R R ⟨⟨_,R,I4⟩,trivial⟩ I3 R) R (.mv R (.ex R (.ex R (.sa R (.an R (.seq (.sr (.mv R (.bi R (.ns ?_))))))))))))))))));refine .cc hm R (fun hm=>?_) fun hm=>?_
  ·refine .sr (.op (O.bu (l:=[lN,lN]) pl197 R Z R R R) R (.mv R (.st ag197.sz R (.an R (.ret (.seqR (.cno 2 R (.c (.nf (r:=rB)) (.c (.nf (r:=rB)) .n)) R ?_)))))));cases hm;exact .rr [] Tryz.results244 (.cell R R ag197 R (.tmp R .nil)) R I3 trivial
  ·refine .skip (.seqN (.sr (.fa ybM R (.op (O.lg (l':=(lx191 p0.1)) ag191 Z R (.B R) R R R) R (.op (O.lg (l':=[lF rB p1.1,lF rB p1.2]) ag197 Z R (.B R) R R R) R (.mv R (.fz 3 [23] [] R R fR R R (bS hm fun g d hm=> .c0 (yb2 d) cf272 R (.ex R (.ex R (.st ag197.sz R (.an R (.ret ?_)))))))))))));cases hm;exact .rr [] Tryz.results244 (.cell R R ag197 R (.tmp R .nil)) R I3 trivial
def y2P(p0:BenT)(c:(List Bool×List Bool)×Int)(a:List Bool)(b:List Bool):Option (Int×BenT):=
 some (c.2,p0.1,p0.2.1,p0.2.2.1,a,b)
def y1A(a:Int×List Int)(b:List Int):Option ((Int×List Int)⊕(List Int)):=
 some (.inl (W (a.1+1),b))
def y1B(p0:BenT)(p1:List Int)(a:Int×List Int):Option ((Int×List Int)⊕(List Int)):=
 if decide (a.1<(p1.length:Int)) then
  (idx p1 a.1).bind fun b=>
  (ye p0.1.2.1.1 b).bind fun c=>
  if c then
   (app a.2 ([b]:List Int)).bind fun d=>
   y1A a d
  else
   y1A a a.2
 else
  some (.inr a.2)
def yV(p0:BenT)(p1:List Int):Option (Int×BenT):=
 (iter (y1B p0 p1) (0,([]:List Int))).bind fun b=>
 (y5x b).bind fun c=>
 (y6d p0.2.1 p0.2.2.2 c).bind fun a=>
 if(a.2==0) then
  y2P p0 a a.1.1 a.1.2
 else
  y2P p0 a p0.2.2.2.1 p0.2.2.2.2
theorem y5X{p0:BenT}{p1:List Int}{r:Int×BenT}(hm:yV p0 p1=some r):
  Fw Tryz.prog 221 ⟨1,[0]⟩ [.o (lP 0 0),.f qI p1] [.bx 199 (lx199 p0)] (.i r.1) [.bx 199 (lx199 r.2)]:=by
 unfold yV at hm;refine Fw.mk2 Tryz.func221 Tryz.ntmps221 R (fun C=>?_) R;refine .sr (.an R (.sr (.an R (.seq (.sr (.mv R (.ln sl32 R (.mv R (.ns (.block (bS hm fun p u hm=>?_)))))))))));refine .cut1 (z:= .exit 0) p (fun (p:List Int)=>⟨[(5,.h 1),(0,.q 0 0)],[(0,.bx 199 (lx199 p0)),(1,ROW qI 3 p)],2⟩) ?_ fun G=>?_
 ·skip
  refine .blkE (.seqN (.sr (.mv R (bS hm fun t v hm=> .op (O.ca (r':= .tp []) [1] [(0,ROW qI 3 t)] none (ybm v) cf206 R R Z R R R R ⟨⟨_,R,I4⟩,trivial⟩ I3 R) R (.ns (.seq (.fz 1 [29,5] [] R R fR R R ?_)))))));refine .sub (τ:=⟨[(5,.f qI t),(0,.q 0 0)],[(0,.bx 199 (lx199 p0))],2⟩) ?_ [] R;refine bS hm fun a w hm=>?_;refine .drz 3 [(13,2)] [(2,[],[],[]),(2,[oT],[],[]),(2,[oT,oT],[],[]),(2,[oT,oT,oT],[],[]),(2,[],[],[]),(2,[oF,oF,oF,oF,oT],[],[]),(2,[oF,oF,oF,oF,oT,oT],[],[]),(2,[oF,oF,oF,oF,oT,oT,oT],[],[]),(2,[],[],[]),(2,[oT,oT,oT,oT,oT,oT,oT,oT,oT],[],[]),(2,[oT,oT,oT,oT,oT,oT,oT,oT,oT,oT],[],[]),(2,[oT,oT,oT,oT,oT,oT,oT,oT,oT,oT,oT],[],[]),(2,[oT,oT,oT,oT,oT,oT,oT,oT,oT,oT,oT],[],[]),(2,[],[],[]),(3,[oT,oT,oT,oT,oT,oT,oT,oT,oT,oT,oT,oT,oF,oT],[],[]),(3,[oT,oT,oT,oT,oT,oT,oT,oT,oT,oT,oT,oT,oT,oT,oT],[],[(13,2)])] [_,_,_,_,_,_,_,_,_,_,_,_,_,_,_,_] ⟨[(9,.i a.2),(8,.q 2 0),(0,.q 0 0)],[(0,.bx 199 (lx199 p0)),(2,.bx 197 [lF rB a.1.1,lF rB a.1.2])],3⟩ ⟨O.mv Z R R,O.nc .B Z R R,O.faP ybP Z R R,O.lg (l':=(lx193 p0.2.1)) ag193 Z R (.B R) R R R,O.mv Z R R,O.nc .B Z R R,O.faP yaA Z R R,O.lg (l':=[lF rB p0.2.2.2.1,lF rB p0.2.2.2.2]) ag197 Z R (.B R) R R R,O.mv Z R R,O.ca0 (ybW w) cf244 R R Z R R R,O.mv Z R R,O.ex Z R R R,O.ex Z R R R,O.al 2 R zz197 R Z R,O.st ag197.sz Z R R R R R,O.as Z R R,trivial⟩ (by kernel_rfl) R ?_;refine .seqN ?_;refine .join2 (fun (d:List Bool) (e:List Bool)=>y2P p0 a d e=some r) (fun d e=>⟨[(9,.i a.2)],[(0,.bx 199 [lF qI p0.1.1.1,lI p0.1.1.2.1,lF qI p0.1.1.2.2.1,lF qT p0.1.1.2.2.2,lF qI p0.1.2.1.1,lI p0.1.2.1.2.1,lF qI p0.1.2.1.2.2.1,lF qT p0.1.2.1.2.2.2,lF qI p0.1.2.2,lI p0.2.1.1.1,lI p0.2.1.1.2.1,lI p0.2.1.1.2.2.1,lF rB p0.2.1.1.2.2.2.1,lF rE302 p0.2.1.1.2.2.2.2,lF qI p0.2.1.2.1,lF qI p0.2.1.2.2.1,lI p0.2.1.2.2.2,lI p0.2.2.1,lF rB d,lF rB e])],1⟩) ?_ ?_
  ·intro d e hm;unfold y2P at hm;refine .sr (.mv R (.an R (.ret ?_)));cases hm;exact .rr [0] Tryz.results221 (.tmp R .nil) R I3 ⟨⟨_,R,I4⟩,trivial⟩
  ·intro j;refine .sr (.mv R (.bi R (.ns ?_)));exact .cc hm R (fun hm=> .reg (.mv R (.op (O.lg (l':=[lF rB a.1.1,lF rB a.1.2]) ag197 Z R (.B R) R R R) R (.op (O.nc .B Z R R) R (.fa yaA R (.st ag197.sz R (.nil ((j _ _ hm).sub [] R)))))))) fun hm=> .skip ((j _ _ hm).sub [] R)
 refine .nlg qI 3 5 0 R R (.iter (fun (b:Int×List Int)=>⟨[(12,.i b.1),(11,.i (p1.length:Int)),(10,.f qI p1),(5,.h 1),(0,.q 0 0)],[(0,.bx 199 (lx199 p0)),(1,ROW qI 3 b.2)],2⟩) u [] R ?_);intro b s hm F E;unfold y1B at hm;refine .sr (.bi R (.ns (.seq ?_)));refine .cc hm R (fun hm=>?_) fun hm=> .exit (.seqX (.seqX ((G _ (E _ (oi hm).symm)).sub [] R)));refine .skip (.seqN ?_);refine .join1 (fun (g:List Int)=>y1A b g=some s) (fun g=>⟨[(5,.h 1),(12,.i b.1),(11,.i (p1.length:Int)),(10,.f qI p1),(0,.q 0 0)],[(0,.bx 199 (lx199 p0)),(1,ROW qI 3 g)],2⟩) ?_ ?_
 ·intro g hm;unfold y1A at hm;exact .reg (.bi R (.mv R (.nil ((F _ (oi hm).symm).sub [] R))))
 ·intro m;refine .block (.sr (bS hm fun H y hm=> .ix sl32 y R (.le nag3 lv3 R (.an R (.sr (.mv R (.op (O.nc .B Z R R) R (.fa y7E R (.fa y4B R (.fa yT R (.lb nag32 R (.mv R (bS hm fun I x hm=> .c0 (yg x) cf104 R (.ns ?_))))))))))))));exact .cc hm R (fun hm=> .reg (.mv R (.mv R (.op (O.bsF (r:=qI) (zs:=([H]:List Int)) bs32 R R Z R R R (.c .k .n) R R R) R (bS hm fun J D hm=> .op (O.ap 2 Tryz.underlying32 el3 R R Z R R (.fr R) D R) R (.sa R (.nil (.blkN ((m _ hm).sub [(1,2)] R))))))))) fun hm=> .skip (.blkN ((m _ hm).sub [] R))
def y5u(p0:CodT)(p1:List Bool×List Bool):Option Int:=
 if(((p1.1.length:Int) != p0.1.2.1)||((p1.2.length:Int) != p0.1.2.2.1)) then
  some 4
 else
  some 0
theorem y7K{p0:CodT}{p1:List Bool×List Bool}{r:Int}(hm:y5u p0 p1=some r):
    F0 245 [.a (lx193 p0),.a [lF rB p1.1,lF rB p1.2]] [] (.i r) []:=by
  unfold y5u at hm;refine Fw.mk2 Tryz.func245 Tryz.ntmps245 R (fun C=>?_) R;refine .sr (.bo 0 R (.bo 1 R (.an R (.seq (.sr (.fa yaz R (.lb y3i R (.ln sl144 R (.fa ybM R (.fa y9N R (.lb nag3 R (.bi R (.mv R ?_)))))))))))));refine .cut 8 (fun (c:Bool)=>(((p1.1.length:Int) != p0.1.2.1)||((p1.2.length:Int) != p0.1.2.2.1))=c) (fun c=>⟨[(20,.b c)],[],2⟩) ?_ ?_
  · rintro _ rfl;refine .ns ?_;refine .cc hm R (fun hm=>?_) fun hm=>?_
    ·refine .sr (.an R (.ret (.seqR ?_)));cases hm;exact .rr [] Tryz.results245 (.tmp R .nil) R I3 trivial
    ·refine .skip (.seqN (.sr (.an R (.ret ?_))));cases hm;exact .rr [] Tryz.results245 (.tmp R .nil) R I3 trivial
  · intro e;rcases Bool.eq_false_or_eq_true ((p1.1.length:Int) != p0.1.2.1) with hc|hc
    · refine .know (d:=12) R hc ?_;exact .sk R (.sk R (.sk R (.sk R (.sk R (.sk R (.sk R (.op (O.pkT Z R R R R) R ((e true (orT hc).symm).sub [] R))))))))
    · refine .know (d:=12) R hc ?_;exact .op (O.faP ybO (Gu.mk R R) R R) R (.op (O.ld y3i (Gu.mk R R) R (.B R) R R) R (.op (O.len sl144 (Gu.mk R R) R R) R (.op (O.faP ybM (Gu.mk R R) R R) R (.op (O.faP yay (Gu.mk R R) R R) R (.op (O.ld nag3 (Gu.mk R R) R (.B R) R R) R (.op (O.bi (Gu.mk R R) R R R R) R (.op (O.pkF Z R R R R) R ((e ((p1.2.length:Int) != p0.1.2.2.1) (orF hc).symm).sub [] R))))))))
def y3J(a:Int×List Int)(b:List Int):Option ((Int×List Int)⊕(List Int)):=
 some (.inl (W (a.1+1),b))
def y3K(p0:CodT)(p1:List Bool×List Bool)(a:Int×List Int):Option ((Int×List Int)⊕(List Int)):=
 if decide (a.1<(p0.2.2.1.length:Int)) then
  (idx p0.2.2.1 a.1).bind fun b=>
  (idx p1.1 a.1).bind fun c=>
  if c then
   (app a.2 ([b]:List Int)).bind fun d=>
   y3J a d
  else
   y3J a a.2
 else
  some (.inr a.2)
def y3V(p0:CodT)(p1:List Bool×List Bool):Option (List Int×Int):=
 (y5u p0 p1).bind fun b=>
 if(b != 0) then
  some (([]:List Int),b)
 else
  (iter (y3K p0 p1) (0,([]:List Int))).bind fun a=>
  some (a,0)
theorem yb3{p0:CodT}{p1:List Bool×List Bool}{r:List Int×Int}(hm:y3V p0 p1=some r):
    F0 222 [.a (lx193 p0),.a [lF rB p1.1,lF rB p1.2]] [] (.tp [.h 0,.i r.2]) [ROW qI 3 r.1]:=by
  unfold y3V at hm;refine Fw.mk2 Tryz.func222 Tryz.ntmps222 R (fun C=>?_) R;refine .sr (.bo 0 R (.bo 1 R (.sa R (.an R (.seq (.sr (.op (O.lg (l':=(lx193 p0)) ag193 Z R (.B R) R R R) R (.op (O.lg (l':=[lF rB p1.1,lF rB p1.2]) ag197 Z R (.B R) R R R) R (bS hm fun E w hm=> .c0 (y7K w) cf245 R (.an R (.sr (.mv R (.bi R (.ns ?_))))))))))))));refine .cc hm R (fun hm=>?_) fun hm=>?_
  ·refine .sr (.mv R (.sa R (.an R (.ret (.seqR (.nlg qI 3 4 0 R R ?_))))));cases hm;exact .rr [2] Tryz.results222 (.tmp R (.tmp R .nil)) R I3 ⟨⟨_,R,I4⟩,trivial⟩
  ·refine .skip (.seqN (.sr (.an R (.seq (.sr (.fa yf6 R (.lb nag32 R (.ln sl32 R (.mv R (.ns (.block (bS hm fun g m hm=>?_))))))))))));refine .cut1 (z:= .exit 0) g (fun (g:List Int)=>⟨[(7,.h 0)],[(0,ROW qI 3 g)],1⟩) ?_ fun v=>?_
   · skip
     refine .blkE (.seqN (.sr (.mv R (.sa R (.an R (.ret ?_))))));cases hm;exact .rr [0] Tryz.results222 (.tmp R (.tmp R .nil)) R I3 ⟨⟨_,R,I4⟩,trivial⟩
   refine .nlg qI 3 7 0 R R (.iter (fun (b:Int×List Int)=>⟨[(19,.i b.1),(18,.i (p0.2.2.1.length:Int)),(17,.f qI p0.2.2.1),(7,.h 0),(3,.q 1 0)],[(0,ROW qI 3 b.2),(1,.bx 197 [lF rB p1.1,lF rB p1.2])],2⟩) m [(0,2)] R ?_);intro b j hm u t;unfold y3K at hm;refine .sr (.bi R (.ns (.seq ?_)));refine .cc hm R (fun hm=>?_) fun hm=> .exit (.seqX (.seqX ((v _ (t _ (oi hm).symm)).sub [] R)));refine .skip (.seqN ?_);refine .join1 (fun (d:List Int)=>y3J b d=some j) (fun d=>⟨[(7,.h 0),(19,.i b.1),(18,.i (p0.2.2.1.length:Int)),(17,.f qI p0.2.2.1),(3,.q 1 0)],[(0,ROW qI 3 d),(1,.bx 197 [lF rB p1.1,lF rB p1.2])],2⟩) ?_ ?_
   · intro d hm;unfold y3J at hm;exact .reg (.bi R (.mv R (.nil ((u _ (oi hm).symm).sub [] R))))
   · intro e;refine .block (.sr (.mv R (bS hm fun x o hm=> .ix sl32 o R (.le nag3 lv3 R (.sa R (.an R (.sr (.fa yaz R (.lb y3i R (.mv R (bS hm fun y p hm=> .ix sl144 p R (.le nag4 lv4 R (.ns ?_)))))))))))));exact .cc hm R (fun hm=> .reg (.mv R (.mv R (.op (O.bsF (r:=qI) (zs:=([x]:List Int)) bs32 R R Z R R R (.c .k .n) R R R) R (bS hm fun D s hm=> .op (O.ap 2 Tryz.underlying32 el3 R R Z R R (.fr R) s R) R (.sa R (.nil (.blkN ((e _ hm).sub [(0,2)] R))))))))) fun hm=> .skip (.blkN ((e _ hm).sub [] R))
def y4F(p0:BenT)(p1:Int)(p2:List Int):Option Bool:=
 (y1L p0 p1).bind fun c=>
 (if decide (c≥0) then
  (ye p2 p1).bind fun d=>
  (if d then
   some true
  else
   (ye p0.1.2.1.1 p1).bind fun e=>
   some (!e)).bind fun b=>
  some b
 else
  some false).bind fun a=>
 some a
theorem y9X{p0:BenT}{r:Bool}(hm:y4F p0 p1 p2=some r):
  F0 224 [.o (lQ 199 (lx199 p0) 0),.i p1,.f qI p2] [] (.b r) []:=by
 unfold y4F at hm;refine Fw.mk2 Tryz.func224 Tryz.ntmps224 R (fun C=>?_) R;refine .sr (.an R (.sr (.mv R (.mv R (bS hm fun p j hm=> .c0 (y6h j) cf219 R (.bi R (.mv R (bS hm fun m eb2 hm=>?_))))))));refine .cut 15 (fun (a:Bool)=>m=a) (fun a=>⟨[(26,.b a)],[],0⟩) ?_ ?_
 ·rintro _ rfl;refine .an R (.ret ?_);cases hm;exact .rr [] Tryz.results224 (.tmp R .nil) R I3 trivial
 ·intro e;rcases ifS eb2 with ⟨hc,hm⟩|⟨hc,hm⟩
  ·refine .know (d:=11) R hc ?_;refine .op (O.mv (Gu.mk R R) R R) R (.op (O.mv (Gu.mk R R) R R) R (bS hm fun q k hm=> .op (O.ca0 (yg k) cf104 R R (Gu.mk R R) R R R) R (.op (O.mv (Gu.mk R R) R R) R (bS hm fun h eb6 hm=>?_))));refine .cut 10 (fun (c:Bool)=>h=c) (fun c=>⟨[(25,.b c),(11,.b true)],[],0⟩) ?_ ?_
   ·rintro _ rfl;exact .op (O.pkT Z R R R R) R ((e h (oi hm).symm).sub [] R)
   ·intro g;rcases ifS eb6 with ⟨hc,hm⟩|⟨hc,hm⟩
    ·refine .know (d:=15) R hc ?_;exact .sk R (.sk R (.sk R (.sk R (.sk R (.sk R (.sk R (.sk R (.sk R (.op (O.pkT (Gu.mk R R) R R R R) R ((g true (oi hm).symm).sub [] R))))))))))
    ·refine .know (d:=15) R hc ?_;exact .op (O.mv (Gu.mk R R) R R) R (.op (O.nc .Q (Gu.mk R R) R R) R (.op (O.faQ y7E (Gu.mk R R) R R) R (.op (O.faQ y4B (Gu.mk R R) R R) R (.op (O.faQ yT (Gu.mk R R) R R) R (.op (O.ld nag32 (Gu.mk R R) R .Q R R) R (.op (O.mv (Gu.mk R R) R R) R (bS hm fun n l hm=> .op (O.ca0 (yg l) cf104 R R (Gu.mk R R) R R R) R (.op (O.not (Gu.mk R R) R R) R (.op (O.pkF (Gu.mk R R) R R R R) R ((g (!n) (oi hm).symm).sub [] R))))))))))
  ·refine .know (d:=11) R hc ?_;exact .sk R (.sk R (.sk R (.sk R (.op (O.skipU R R R) R (.op (O.skipU R R R) R (.op (O.skipU R R R) R (.op (O.skipU R R R) R (.op (O.skipU R R R) R (.op (O.skipU R R R) R (.op (O.skipU R R R) R (.op (O.skipU R R R) R (.op (O.skipU R R R) R (.sk R (.op (O.pkF Z R R R R) R ((e false (oi hm).symm).sub [] R)))))))))))))))
def ym(a:Option BenT)(b:StpT)(p0:Int):Option Bool:=
 a.bind fun d=>
 (y4F d p0 b.2.2.1).bind fun c=>
 some c
theorem y8S{e:Option BenT}{f:StpT}{p0:Int}{r:Bool}(hm:ym e f p0=some r):
  F0 223 [.i p0,.o (lQ 276 [lK rE199 199 e] 0),.o (lQ 100 (lx100 f) 0)] [] (.b r) []:=by
 unfold ym at hm;refine Fw.mk2 Tryz.func223 Tryz.ntmps223 R (fun C=>?_) R;refine .sr (.an R (.sr (.lq y5m R (.mv R (.fq y8D R (.lq nag32 R (bS hm fun h d hm=> .cnt 5 R (.c (.pd d lv199) .n) R (bS hm fun g a hm=> .c0 (y9X a) cf224 R (.an R (.ret ?_))))))))));cases hm;exact .rr [] Tryz.results223 (.tmp R .nil) R I3 trivial
def y1o(a:BenT×Int×Bool×List Int)(d:BenT)(b:Bool)(c:List Int):Option ((BenT×Int×Bool×List Int)⊕(BenT×Bool×List Int)):=
 some (.inl (d,W (a.2.1+1),b,c))
def y3l(p1:List Int)(p2:Int)(a:BenT×Int×Bool×List Int):Option ((BenT×Int×Bool×List Int)⊕(BenT×Bool×List Int)):=
 if decide (a.2.1<(p1.length:Int)) then
  (idx p1 a.2.1).bind fun c=>
  (y2u a.1 c).bind fun b=>
  if b.1 then
   (app a.2.2.2 ([c]:List Int)).bind fun f=>
   (if a.2.2.1 then
    (y1L b.2 p2).bind fun e=>
    some (decide (e≥0))
   else
    some false).bind fun d=>
   y1o a b.2 d f
  else
   y1o a b.2 a.2.2.1 a.2.2.2
 else
  some (.inr (a.1,a.2.2))
def y4n(p0:BenT)(p1:List Int)(p2:Int):Option (List Int×Bool×BenT):=
 (iter (y3l p1 p2) (p0,0,(p2 != (-1)),([]:List Int))).bind fun a=>
 some (a.2.2,a.2.1,a.1)
theorem y9D{p0:BenT}{p1:List Int}{p2:Int}{r:List Int×Bool×BenT}(hm:y4n p0 p1 p2=some r):
  Fw Tryz.prog 225 ⟨1,[0]⟩ [.o (lP 0 0),.f qI p1,.i p2] [.bx 199 (lx199 p0)] (.tp [.h 1,.b r.2.1]) [.bx 199 (lx199 r.2.2),ROW qI 3 r.1]:=by
 unfold y4n at hm;refine Fw.mk2 Tryz.func225 Tryz.ntmps225 R (fun C=>?_) R;refine .sr (.sa R (.an R (.sr (.mv R (.bi R (.an R (.seq (.sr (.mv R (.ln sl32 R (.mv R (.ns (.block (bS hm fun e v hm=>?_))))))))))))));refine .cut1 (z:= .exit 0) e (fun (e:BenT×Bool×List Int)=>⟨[(7,.b e.2.1),(6,.h 1)],[(0,.bx 199 (lx199 e.1)),(1,ROW qI 3 e.2.2)],2⟩) ?_ fun F=>?_
 ·skip
  refine .blkE (.seqN (.sr (.mv R (.mv R (.sa R (.an R (.ret ?_)))))));cases hm;exact .rr [0,1] Tryz.results225 (.tmp R (.tmp R .nil)) R I3 ⟨⟨_,R,I4⟩,⟨_,R,I4⟩,trivial⟩
 refine .nlg qI 3 6 0 R R (.iter (fun (a:BenT×Int×Bool×List Int)=>⟨[(14,.i a.2.1),(13,.i (p1.length:Int)),(12,.f qI p1),(7,.b a.2.2.1),(6,.h 1),(0,.q 0 0),(2,.i p2)],[(0,.bx 199 (lx199 a.1)),(1,ROW qI 3 a.2.2.2)],2⟩) v [] R ?_);intro a t hm E D;unfold y3l at hm;refine .sr (.bi R (.ns (.seq ?_)));refine .cc hm R (fun hm=>?_) fun hm=> .exit (.seqX (.seqX ((F _ (D _ (oi hm).symm)).sub [] R)));refine .skip (.seqN ?_);refine .join3 (fun (l:BenT) (g:Bool) (j:List Int)=>y1o a l g j=some t) (fun l g j=>⟨[(7,.b g),(6,.h 1),(14,.i a.2.1),(13,.i (p1.length:Int)),(12,.f qI p1),(0,.q 0 0),(2,.i p2)],[(0,.bx 199 (lx199 l)),(1,ROW qI 3 j)],2⟩) ?_ ?_
 ·intro l g j hm;unfold y1o at hm;exact .reg (.bi R (.mv R (.nil ((E _ (oi hm).symm).sub [] R))))
 ·intro m;refine .block (.sr (bS hm fun I y hm=> .ix sl32 y R (.le nag3 lv3 R (.an R (.sr (.mv R (.mv R (bS hm fun p w hm=> .op (O.ca (r':= .b p.1) [0] [(0,.bx 199 (lx199 p.2))] none (y6t w) cf186 R R Z R R R R ⟨⟨_,R,I4⟩,trivial⟩ I3 R) R (.ns ?_)))))))));refine .cc hm R (fun hm=>?_) fun hm=> .skip (.blkN ((m _ _ _ hm).sub [] R));refine .sr (.mv R (.mv R (.op (O.bsF (r:=qI) (zs:=([I]:List Int)) bs32 R R Z R R R (.c .k .n) R R R) R (bS hm fun J B hm=> .op (O.ap 2 Tryz.underlying32 el3 R R Z R R (.fr R) B R) R (.an R (.reg (.mv R (.mv R (bS hm fun G eb32 hm=>?_)))))))));refine .cut 5 (fun (s:Bool)=>G=s) (fun s=>⟨[(31,.b s),(6,.h 2),(14,.i a.2.1),(13,.i (p1.length:Int)),(12,.f qI p1),(0,.q 0 0),(2,.i p2)],[(0,.bx 199 (lx199 p.2)),(2,ROW qI 3 J)],3⟩) ?_ ?_
  ·rintro _ rfl;exact .sa R (.nil (.blkN ((m _ _ _ hm).sub [(1,2)] R)))
  ·intro u;rcases ifS eb32 with ⟨hc,hm⟩|⟨hc,hm⟩
   ·refine .know (d:=26) R hc ?_;exact .op (O.mv (Gu.mk R R) R R) R (.op (O.mv (Gu.mk R R) R R) R (bS hm fun H x hm=> .op (O.caZ (y6h x) cf219 R R (Gu.mk R R) R ⟨⟨R,(.q R LnL.rf),trivial⟩,⟨R,LnL.rf⟩,trivial⟩ (fun _ _ _ _ _ h=>h) R) R (.op (O.bi (Gu.mk R R) R R R R) R (.op (O.pkT Z R R R R) R ((u (decide (H≥0)) (oi hm).symm).sub [] R)))))
   ·refine .know (d:=26) R hc ?_;exact .sk R (.sk R (.sk R (.sk R (.op (O.pkF Z R R R R) R ((u false (oi hm).symm).sub [] R)))))
def y4z(a:Int×Int×Int)(b:Int)(c:Int):Option ((Int×Int×Int)⊕(Int×Int)):=
 some (.inl (W (a.1+1),b,c))
def y4A(b:List Bool)(a:Int×Int×Int):Option ((Int×Int×Int)⊕(Int×Int)):=
 if decide (a.1<(b.length:Int)) then
  (idx b a.1).bind fun c=>
  if c then
   y4z a (W (a.2.1+1)) a.1
  else
   y4z a a.2.1 a.2.2
 else
  some (.inr a.2)
def y6v(p0:CodT)(p1:List Bool×List Bool):Option (Int×Int):=
 (y5u p0 p1).bind fun b=>
 if(b != 0) then
  some (0,b)
 else
  (slc p1.2 0 p0.2.2.2).bind fun c=>
  (iter (y4A c) (0,0,0)).bind fun a=>
  if(a.1 != 1) then
   some (0,22)
  else
   some (a.2,0)
theorem ybE{p0:CodT}{p1:List Bool×List Bool}{r:Int×Int}(hm:y6v p0 p1=some r):
    F0 226 [.a (lx193 p0),.a [lF rB p1.1,lF rB p1.2]] [] (.tp [.i r.1,.i r.2]) []:=by
  unfold y6v at hm;refine Fw.mk2 Tryz.func226 Tryz.ntmps226 R (fun C=>?_) R;refine .sr (.bo 0 R (.bo 1 R (.sa R (.an R (.seq (.sr (.op (O.lg (l':=(lx193 p0)) ag193 Z R (.B R) R R R) R (.op (O.lg (l':=[lF rB p1.1,lF rB p1.2]) ag197 Z R (.B R) R R R) R (bS hm fun u q hm=> .c0 (y7K q) cf245 R (.an R (.sr (.mv R (.bi R (.ns ?_))))))))))))));refine .cc hm R (fun hm=>?_) fun hm=>?_
  ·refine .sr (.mv R (.sa R (.an R (.ret (.seqR ?_)))));cases hm;exact .rr [] Tryz.results226 (.tmp R (.tmp R .nil)) R I3 trivial
  ·refine .skip (.seqN (.sr (.an R (.seq (.sr (.fa ybO R (.lb y3i R (.fa yi9 R (.lb nag3 R (bS hm fun j s hm=> .op (O.sh sl144 Z R R s R) R (.ln sl144 R (.mv R (.ns (.block (bS hm fun e k hm=>?_)))))))))))))));refine .cut1 (z:= .exit 0) e (fun (e:Int×Int)=>⟨[(7,.i e.1),(4,.i e.2)],[],0⟩) ?_ fun p=>?_
   · skip
     refine .blkE (.seqN (.seq (.sr (.mv R (.bi R (.ns ?_))))));refine .cc hm R (fun hm=>?_) fun hm=>?_
     ·refine .sr (.sa R (.an R (.ret (.seqR ?_))));cases hm;exact .rr [] Tryz.results226 (.tmp R (.tmp R .nil)) R I3 trivial
     ·refine .skip (.seqN (.sr (.mv R (.sa R (.an R (.ret ?_))))));cases hm;exact .rr [] Tryz.results226 (.tmp R (.tmp R .nil)) R I3 trivial
   refine .iter (fun (b:Int×Int×Int)=>⟨[(22,.i b.1),(21,.i (j.length:Int)),(20,.f rB j),(7,.i b.2.1),(4,.i b.2.2)],[],0⟩) k [] R ?_;intro b h hm o n;unfold y4A at hm;refine .sr (.bi R (.ns (.seq ?_)));refine .cc hm R (fun hm=>?_) fun hm=> .exit (.seqX (.seqX ((p _ (n _ (oi hm).symm)).sub [] R)));refine .skip (.seqN ?_);refine .join2 (fun (c:Int) (d:Int)=>y4z b c d=some h) (fun c d=>⟨[(7,.i c),(4,.i d),(22,.i b.1),(21,.i (j.length:Int)),(20,.f rB j)],[],0⟩) ?_ ?_
   · intro c d hm;unfold y4z at hm;exact .reg (.bi R (.mv R (.nil ((o _ (oi hm).symm).sub [] R))))
   · intro g;refine .block (.sr (.mv R (bS hm fun t m hm=> .ix sl144 m R (.le nag4 lv4 R (.sa R (.an R (.sr (.mv R (.ns ?_)))))))));exact .cc hm R (fun hm=> .reg (.mv R (.mv R (.bi R (.sa R (.sa R (.nil (.blkN ((g _ _ hm).sub [] R))))))))) fun hm=> .skip (.blkN ((g _ _ hm).sub [] R))
def y5Y(p0:CodT)(p1:List Bool×List Bool):Option (Bool×Int):=
 (y5u p0 p1).bind fun a=>
 if(a != 0) then
  some (false,a)
 else
  (idx p1.1 (p0.2.2.1.length:Int)).bind fun b=>
  some (b,0)
theorem yb4{p0:CodT}{p1:List Bool×List Bool}{r:Bool×Int}(hm:y5Y p0 p1=some r):
    F0 227 [.a (lx193 p0),.a [lF rB p1.1,lF rB p1.2]] [] (.tp [.b r.1,.i r.2]) []:=by
  unfold y5Y at hm;refine Fw.mk2 Tryz.func227 Tryz.ntmps227 R (fun C=>?_) R;refine .sr (.bo 0 R (.bo 1 R (.sa R (.an R (.seq (.sr (.op (O.lg (l':=(lx193 p0)) ag193 Z R (.B R) R R R) R (.op (O.lg (l':=[lF rB p1.1,lF rB p1.2]) ag197 Z R (.B R) R R R) R (bS hm fun e c hm=> .c0 (y7K c) cf245 R (.an R (.sr (.mv R (.bi R (.ns ?_))))))))))))));refine .cc hm R (fun hm=>?_) fun hm=>?_
  ·refine .sr (.mv R (.sa R (.an R (.ret (.seqR ?_)))));cases hm;exact .rr [] Tryz.results227 (.tmp R (.tmp R .nil)) R I3 trivial
  ·refine .skip (.seqN (.sr (.fa yaz R (.lb y3i R (.fa yf6 R (.lb nag32 R (.ln sl32 R (bS hm fun f d hm=> .ix sl144 d R (.le nag4 lv4 R (.sa R (.an R (.ret ?_))))))))))));cases hm;exact .rr [] Tryz.results227 (.tmp R (.tmp R .nil)) R I3 trivial
def y1V(d:BenT×List Int)(e:List Int×Int)(f:Int)(b:List Int×Bool×BenT)(a:BenT):Option (StpT×Int×BenT):=
 (y6v a.2.1 a.2.2.2).bind fun c=>
 if(c.2 != 0) then
  some ((d.2,b.1,e.1,f,b.2.1,c.1,false),c.2,a)
 else
  (y5Y a.2.1 a.2.2.2).bind fun g=>
  some ((d.2,b.1,e.1,f,b.2.1,c.1,g.1),g.2,a)
def y1W(c:BenT×List Int)(d:List Int×Int)(b:Int)(a:List Int×Bool×BenT)(g:BenT):Option (StpT×Int×BenT):=
 (yV g a.1).bind fun e=>
 if(e.1 != 0) then
  some ((c.2,a.1,d.1,b,a.2.1,0,false),e)
 else
  if a.2.1 then
   (yV e.2 ([b]:List Int)).bind fun f=>
   if(f.1 != 0) then
    some ((c.2,a.1,d.1,b,a.2.1,0,false),f)
   else
    y1V c d b a f.2
  else
   y1V c d b a e.2
def y1X(a:BenT×Int×List Int)(c:BenT)(b:List Int):Option ((BenT×Int×List Int)⊕(BenT×List Int)):=
 some (.inl (c,W (a.2.1+1),b))
def y1Y(p1:CycT)(a:BenT×Int×List Int):Option ((BenT×Int×List Int)⊕(BenT×List Int)):=
 if decide (a.2.1<(p1.1.length:Int)) then
  (idx p1.1 a.2.1).bind fun c=>
  (y2u a.1 c).bind fun b=>
  if b.1 then
   (app a.2.2 ([c]:List Int)).bind fun d=>
   y1X a b.2 d
  else
   y1X a b.2 a.2.2
 else
  some (.inr (a.1,a.2.2))
def y3W(p0:BenT)(p1:CycT)(p2:(Int→Option Bool)→Option Int):Option (StpT×Int×BenT):=
 (iter (y1Y p1) (p0,0,([]:List Int))).bind fun a=>
 (yV a.1 a.2).bind fun b=>
 if(b.1 != 0) then
  some ((a.2,([]:List Int),([]:List Int),0,false,0,false),b)
 else
  (y3V b.2.2.1 b.2.2.2.2).bind fun c=>
  if(c.2 != 0) then
   some ((a.2,([]:List Int),c.1,0,false,0,false),c.2,b.2)
  else
   (p2 (ym (some b.2) (a.2,([]:List Int),c.1,0,false,0,false))).bind fun e=>
   (y4n b.2 p1.2.1 e).bind fun d=>
   if d.2.1 then
    (y2u d.2.2 e).bind fun f=>
    y1W a c e d f.2
   else
    y1W a c e d d.2.2
theorem y9v{p0:BenT}{p1:CycT}{p2:(Int→Option Bool)→Option Int}{r:StpT×Int×BenT}(hm:y3W p0 p1 p2=some r):
    Fw Tryz.prog 192 ⟨1,[0]⟩ [.o (lP 0 0),.a [lF qI p1.1,lF qI p1.2.1,lI p1.2.2],.o (lW Tryz.prog (fun (x:(Int→Option Bool))=> [.o (lW Tryz.prog (fun (x:Int)=> [.i x]) (fun (r:Bool)=> .b r) x)]) (fun (r:Int)=> .i r) p2)] [.bx 199 (lx199 p0)] (.tp [.a [lF qI r.1.1,lF qI r.1.2.1,lH 1,lI r.1.2.2.2.1,lB r.1.2.2.2.2.1,lI r.1.2.2.2.2.2.1,lB r.1.2.2.2.2.2.2],.i r.2.1]) [.bx 199 (lx199 r.2.2),ROW qI 3 r.1.2.2.1]:=by
  unfold y3W at hm;refine Fw.mk2 Tryz.func192 Tryz.ntmps192 R (fun C=>?_) R;refine .sr (.bo 1 R (.bo 2 R (.al 3 zz100 R (.an R (.seq (.sr (.fa yaw R (.lb nag32 R (.ln sl32 R (.mv R (.ns (.block (bS hm fun e N hm=>?_)))))))))))));refine .cut1 (z:= .exit 0) e (fun (e:BenT×List Int)=>⟨[(6,.q 1 0),(4,.q 3 0),(3,.q 4 0),(2,.o (lW Tryz.prog (fun (x:(Int→Option Bool))=> [.o (lW Tryz.prog (fun (x:Int)=> [.i x]) (fun (r:Bool)=> .b r) x)]) (fun (r:Int)=> .i r) p2))],[(0,.bx 199 (lx199 e.1)),(1,.bx 100 [lH 2,lN,lN,lI 0,lB false,lI 0,lB false]),(2,ROW qI 3 e.2),(3,.bx 114 [lF qI p1.1,lF qI p1.2.1,lI p1.2.2]),(4,.bx 276 [lP 0 0])],5⟩) ?_ fun a5=>?_
  · skip
    refine .blkE (.seqN (.seq (.sr (.lb y5m R (.fa y8c R (.lb nag32 R (.fz 2 [29] [1] R R fR R R (bS hm fun s P hm=> .op (O.ca (r':= .i s.1) [0] [(0,.bx 199 (lx199 s.2))] none (y5X P) cf221 R R Z R R R R ⟨⟨_,R,I4⟩,trivial⟩ I3 R) R (.an R (.sr (.mv R (.bi R (.ns ?_)))))))))))));refine .cc hm R (fun hm=>?_) fun hm=>?_
    ·refine .sr (.op (O.lg (l':=[lF qI e.2,lN,lN,lI 0,lB false,lI 0,lB false]) ag100 Z R (.B R) R R R) R (.mv R (.st ag100.sz R (.an R (.ret (.seqR (.nlb qI 3 1 2 R R (.cno 1 R (.c .rf (.c (.nf (r:=qI)) .rf)) R ?_))))))));cases hm;exact .rr [0,5] Tryz.results192 (.cell R R ag100 R (.tmp R .nil)) R I3 ⟨⟨_,R,I4⟩,⟨_,R,I4⟩,trivial⟩
    ·refine .skip (.seqN (.seq (.seq ?_)));refine .sub (τ:=⟨[(6,.q 1 0),(4,.q 3 0),(3,.q 4 0),(2,.o (lW Tryz.prog (fun (x:(Int→Option Bool))=> [.o (lW Tryz.prog (fun (x:Int)=> [.i x]) (fun (r:Bool)=> .b r) x)]) (fun (r:Int)=> .i r) p2))],[(0,.bx 199 (lx199 s.2)),(1,.bx 100 [lF qI e.2,lN,lN,lI 0,lB false,lI 0,lB false]),(3,.bx 114 [lF qI p1.1,lF qI p1.2.1,lI p1.2.2]),(4,.bx 276 [lP 0 0])],5⟩) ?_ [] R;refine bS hm fun g Q hm=>?_;refine .drd 6 [(5,[],[]),(5,[oT],[]),(5,[oT,oT],[]),(5,[oT,oT,oT],[]),(5,[],[]),(5,[oF,oF,oF,oF,oT],[]),(5,[oF,oF,oF,oF,oT,oT],[]),(5,[oF,oF,oF,oF,oT,oT,oT],[]),(5,[oT,oT,oT,oT,oT,oT,oT,oT],[]),(6,[oT,oT,oT,oT,oT,oT,oT,oT,oT],[]),(6,[oT,oT,oT,oT,oT,oT,oT,oT,oT,oT],[]),(6,[oT,oT,oT,oT,oT,oT,oT,oT,oT,oT],[1]),(6,[oT,oT,oT,oT,oT,oT,oT,oT,oT,oT,oT],[]),(6,[oT,oT,oT,oT,oT,oT,oT,oT,oT,oT,oT,oF,oT],[]),(6,[oT,oT,oT,oT,oT,oT,oT,oT,oT,oT,oT,oT,oT,oT],[])] [_,_,_,_,_,_,_,_,_,_,_,_,_,_,_] ⟨[(7,.i g.2),(6,.q 1 0),(4,.q 3 0),(3,.q 4 0),(2,.o (lW Tryz.prog (fun (x:(Int→Option Bool))=> [.o (lW Tryz.prog (fun (x:Int)=> [.i x]) (fun (r:Bool)=> .b r) x)]) (fun (r:Int)=> .i r) p2))],[(0,.bx 199 (lx199 s.2)),(1,.bx 100 [lF qI e.2,lN,lH 5,lI 0,lB false,lI 0,lB false]),(5,ROW qI 3 g.1),(3,.bx 114 [lF qI p1.1,lF qI p1.2.1,lI p1.2.2]),(4,.bx 276 [lP 0 0])],6⟩ ⟨O.ld y5m Z R (.B R) R R,O.nc .B Z R R,O.faP ybP Z R R,O.lg (l':=(lx193 s.2.2.1)) ag193 Z R (.B R) R R R,O.ld y5m Z R (.B R) R R,O.nc .B Z R R,O.faP yaA Z R R,O.lg (l':=[lF rB s.2.2.2.2.1,lF rB s.2.2.2.2.2]) ag197 Z R (.B R) R R R,O.ca (r':= .tp [.h 5,.i g.2]) [5] [(0,ROW qI 3 g.1)] (some 6) (yb3 Q) cf222 R R Z R R R R ⟨⟨_,R,I4⟩,trivial⟩ I3 R,O.mv Z R R,O.ex Z R R R,O.ex Z R R R,O.faP y8D Z R R,O.st nag32.sz Z R R R R R,O.as Z R R,trivial⟩ (by kernel_rfl) R ?_;refine .seqN (.sr (.mv R (.bi R (.ns ?_))));refine .cc hm R (fun hm=>?_) fun hm=>?_
     ·refine .sr (.op (O.lg (l':=[lF qI e.2,lN,lH 5,lI 0,lB false,lI 0,lB false]) ag100 Z R (.B R) R R R) R (.mv R (.st ag100.sz R (.an R (.ret (.seqR (.cno 1 R (.c .rf (.c (.nf (r:=qI)) .rf)) R ?_)))))));cases hm;exact .rr [0,5] Tryz.results192 (.cell R R ag100 R (.tmp R .nil)) R I3 ⟨⟨_,R,I4⟩,⟨_,R,I4⟩,trivial⟩
     ·refine .skip (.seqN (.sr (.mv R (.op (O.mz (l:=[lP 4 0,lP 1 0]) Z R R) R (bS hm fun m S hm=>?_)))));refine .op (O.fvZ (args:=(fun (x:(Int→Option Bool))=> [.o (lW Tryz.prog (fun (x:Int)=> [.i x]) (fun (r:Bool)=> .b r) x)])) (res:=(fun (r:Int)=> .i r)) (y:=(ym (some s.2) (e.2,([]:List Int),g.1,0,false,0,false))) R R R Z R ⟨⟨R,(.z (l':=[lQ 276 [lK rE199 199 (some s.2)] 0,lQ 100 [lF qI e.2,lF qI [],lF qI g.1,lI 0,lB false,lI 0,lB false] 0]) cf223 (fun x r h=>y8S h) (fun _=>R) R ⟨(.q R ⟨(.cv (.q R LnL.rf) (.pk (r:=rE199) (.p (.p (.p .l (.p .k (.p .l .l))) (.p (.p .l (.p .k (.p .l .l))) .l)) (.p (.p (.p .k (.p .k (.p .k (.p .l .l)))) (.p .l (.p .l .k))) (.p .k (.p .l .l)))))),trivial⟩),(.q R ⟨.rf,(.cv .rf (.nf (r:=qI))),.hr R,.rf,.rf,.rf,.rf,trivial⟩),trivial⟩),trivial⟩,trivial⟩ S (fun _ _ _ _ _ h=>h) R) R ?_;refine .fa y6b R (.st nag3.sz R (.nr (.lb y5m R (.fa yax R (.lb nag32 R (.fa y6b R (.lb nag3 R (bS hm fun d T hm=> .op (O.ca (r':= .tp [.h 6,.b d.2.1]) [0,6] [(0,.bx 199 (lx199 d.2.2)),(1,ROW qI 3 d.1)] (some 7) (y9D T) cf225 R R Z R R R R ⟨⟨_,R,I4⟩,⟨_,R,I4⟩,trivial⟩ I3 R) R (.mv R (.ex R (.ex R (.fa y8E R (.st nag32.sz R (.fa y7F R (.st nag4.sz R (.ns ?_))))))))))))))));refine .join1 (fun (w:BenT)=>y1W e g m d w=some r) (fun w=>⟨[(6,.q 1 0),(3,.q 4 0)],[(0,.bx 199 (lx199 w)),(1,.bx 100 [lF qI e.2,lH 2,lH 3,lI m,lB d.2.1,lI 0,lB false]),(2,ROW qI 3 d.1),(3,ROW qI 3 g.1),(4,.bx 276 [lP 0 0])],5⟩) ?_ ?_
      · intro w hm;unfold y1W at hm;refine .seq (.sr (.lb y5m R (.fa y8E R (.lb nag32 R (.fz 2 [75] [1] R R fR R R (bS hm fun J U hm=> .op (O.ca (r':= .i J.1) [0] [(0,.bx 199 (lx199 J.2))] none (y5X U) cf221 R R Z R R R R ⟨⟨_,R,I4⟩,trivial⟩ I3 R) R (.an R (.sr (.mv R (.bi R (.ns ?_)))))))))));refine .cc hm R (fun hm=>?_) fun hm=>?_
        ·refine .sr (.op (O.lg (l':=[lF qI e.2,lF qI d.1,lH 3,lI m,lB d.2.1,lI 0,lB false]) ag100 Z R (.B R) R R R) R (.mv R (.st ag100.sz R (.an R (.ret (.seqR ?_))))));cases hm;exact .rr [0,3] Tryz.results192 (.cell R R ag100 R (.tmp R .nil)) R I3 ⟨⟨_,R,I4⟩,⟨_,R,I4⟩,trivial⟩
        ·refine .skip (.seqN ?_);refine .join1 (fun (j:BenT)=>y1V e g m d j=some r) (fun j=>⟨[(6,.q 1 0),(3,.q 3 0)],[(0,.bx 199 (lx199 j)),(1,.bx 100 [lF qI e.2,lF qI d.1,lH 2,lI m,lB d.2.1,lI 0,lB false]),(2,ROW qI 3 g.1),(3,.bx 276 [lP 0 0])],4⟩) ?_ ?_
         · intro j hm;unfold y1V at hm;refine .seq (.seq ?_);refine .sub (τ:=⟨[(6,.q 1 0),(3,.q 3 0)],[(0,.bx 199 (lx199 j)),(1,.bx 100 [lF qI e.2,lF qI d.1,lH 2,lI m,lB d.2.1,lI 0,lB false]),(2,ROW qI 3 g.1),(3,.bx 276 [lP 0 0])],4⟩) ?_ [] R;refine bS hm fun u V hm=>?_;refine .drd 4 [(4,[],[]),(4,[oT],[]),(4,[oT,oT],[]),(4,[oT,oT,oT],[]),(4,[],[]),(4,[oF,oF,oF,oF,oT],[]),(4,[oF,oF,oF,oF,oT,oT],[]),(4,[oF,oF,oF,oF,oT,oT,oT],[]),(4,[oT,oT,oT,oT,oT,oT,oT,oT],[]),(4,[oT,oT,oT,oT,oT,oT,oT,oT,oT],[]),(4,[oT,oT,oT,oT,oT,oT,oT,oT,oT,oT],[]),(4,[oT,oT,oT,oT,oT,oT,oT,oT,oT,oT],[1]),(4,[oT,oT,oT,oT,oT,oT,oT,oT,oT,oT,oT],[]),(4,[oT,oT,oT,oT,oT,oT,oT,oT,oT,oT,oT,oF,oT],[]),(4,[oT,oT,oT,oT,oT,oT,oT,oT,oT,oT,oT,oT,oT,oT],[])] [_,_,_,_,_,_,_,_,_,_,_,_,_,_,_] ⟨[(7,.i u.2),(6,.q 1 0),(3,.q 3 0)],[(0,.bx 199 (lx199 j)),(1,.bx 100 [lF qI e.2,lF qI d.1,lH 2,lI m,lB d.2.1,lI u.1,lB false]),(2,ROW qI 3 g.1),(3,.bx 276 [lP 0 0])],4⟩ ⟨O.ld y5m Z R (.B R) R R,O.nc .B Z R R,O.faP ybP Z R R,O.lg (l':=(lx193 j.2.1)) ag193 Z R (.B R) R R R,O.ld y5m Z R (.B R) R R,O.nc .B Z R R,O.faP yaA Z R R,O.lg (l':=[lF rB j.2.2.2.1,lF rB j.2.2.2.2]) ag197 Z R (.B R) R R R,O.ca0 (ybE V) cf226 R R Z R R R,O.mv Z R R,O.ex Z R R R,O.ex Z R R R,O.faP yaB Z R R,O.st nag3.sz Z R R R R R,O.as Z R R,trivial⟩ (by kernel_rfl) R ?_;refine .seqN (.sr (.mv R (.bi R (.ns ?_))));refine .cc hm R (fun hm=>?_) fun hm=>?_
           ·refine .sr (.op (O.lg (l':=[lF qI e.2,lF qI d.1,lH 2,lI m,lB d.2.1,lI u.1,lB false]) ag100 Z R (.B R) R R R) R (.mv R (.st ag100.sz R (.an R (.ret (.seqR ?_))))));cases hm;exact .rr [0,2] Tryz.results192 (.cell R R ag100 R (.tmp R .nil)) R I3 ⟨⟨_,R,I4⟩,⟨_,R,I4⟩,trivial⟩
           ·refine .skip (.seqN (.seq ?_));refine .sub (τ:=⟨[(6,.q 1 0),(3,.q 3 0)],[(0,.bx 199 (lx199 j)),(1,.bx 100 [lF qI e.2,lF qI d.1,lH 2,lI m,lB d.2.1,lI u.1,lB false]),(2,ROW qI 3 g.1),(3,.bx 276 [lP 0 0])],4⟩) ?_ [] R;refine bS hm fun H W hm=>?_;refine .drd 4 [(4,[],[]),(4,[oT],[]),(4,[oT,oT],[]),(4,[oT,oT,oT],[]),(4,[],[]),(4,[oF,oF,oF,oF,oT],[]),(4,[oF,oF,oF,oF,oT,oT],[]),(4,[oF,oF,oF,oF,oT,oT,oT],[]),(4,[oT,oT,oT,oT,oT,oT,oT,oT],[]),(4,[oT,oT,oT,oT,oT,oT,oT,oT,oT],[]),(4,[oT,oT,oT,oT,oT,oT,oT,oT,oT,oT],[]),(4,[oT,oT,oT,oT,oT,oT,oT,oT,oT,oT],[1]),(4,[oT,oT,oT,oT,oT,oT,oT,oT,oT,oT,oT],[]),(4,[oT,oT,oT,oT,oT,oT,oT,oT,oT,oT,oT,oF,oT],[]),(4,[oT,oT,oT,oT,oT,oT,oT,oT,oT,oT,oT,oT,oT,oT],[])] [_,_,_,_,_,_,_,_,_,_,_,_,_,_,_] ⟨[(7,.i H.2),(6,.q 1 0)],[(0,.bx 199 (lx199 j)),(1,.bx 100 [lF qI e.2,lF qI d.1,lH 2,lI m,lB d.2.1,lI u.1,lB H.1]),(2,ROW qI 3 g.1)],4⟩ ⟨O.ld y5m Z R (.B R) R R,O.nc .B Z R R,O.faP ybP Z R R,O.lg (l':=(lx193 j.2.1)) ag193 Z R (.B R) R R R,O.ld y5m Z R (.B R) R R,O.nc .B Z R R,O.faP yaA Z R R,O.lg (l':=[lF rB j.2.2.2.1,lF rB j.2.2.2.2]) ag197 Z R (.B R) R R R,O.ca0 (yb4 W) cf227 R R Z R R R,O.mv Z R R,O.ex Z R R R,O.ex Z R R R,O.faP yaC Z R R,O.st nag4.sz Z R R R R R,O.as Z R R,trivial⟩ (by kernel_rfl) R ?_;refine .seqN (.sr (.op (O.lg (l':=[lF qI e.2,lF qI d.1,lH 2,lI m,lB d.2.1,lI u.1,lB H.1]) ag100 Z R (.B R) R R R) R (.mv R (.st ag100.sz R (.an R (.ret ?_))))));cases hm;exact .rr [0,2] Tryz.results192 (.cell R R ag100 R (.tmp R .nil)) R I3 ⟨⟨_,R,I4⟩,⟨_,R,I4⟩,trivial⟩
         · intro F;refine .sr (.fa y7F R (.lb nag4 R (.ns ?_)));refine .cc hm R (fun hm=>?_) fun hm=> .skip ((F _ hm).sub [(2,3),(3,4)] R);refine .sr (.lb y5m R (.fa y6b R (.lb nag3 R (.op (O.bsF (r:=qI) (zs:=([m]:List Int)) bs32 R R Z R R R (.c .k .n) R R R) R (bS hm fun K X hm=> .op (O.ca (r':= .i K.1) [0] [(0,.bx 199 (lx199 K.2))] none (y5X X) cf221 R R Z R R R R ⟨⟨_,R,I4⟩,trivial⟩ I3 R) R (.an R (.sr (.mv R (.bi R (.ns ?_))))))))));refine .cc hm R (fun hm=>?_) fun hm=> .skip ((F _ hm).sub [(2,3),(3,4)] R);refine .sr (.op (O.lg (l':=[lF qI e.2,lF qI d.1,lH 3,lI m,lB d.2.1,lI 0,lB false]) ag100 Z R (.B R) R R R) R (.mv R (.st ag100.sz R (.an R (.ret (.seqR ?_))))));cases hm;exact .rr [0,3] Tryz.results192 (.cell R R ag100 R (.tmp R .nil)) R I3 ⟨⟨_,R,I4⟩,⟨_,R,I4⟩,trivial⟩
      · intro E;refine .sr (.fa y7F R (.lb nag4 R (.ns ?_)));exact .cc hm R (fun hm=> .reg (.lb y5m R (.fa y6b R (.lb nag3 R (bS hm fun L Y hm=> .op (O.ca (r':= .b L.1) [0] [(0,.bx 199 (lx199 L.2))] none (y6t Y) cf186 R R Z R R R R ⟨⟨_,R,I4⟩,trivial⟩ I3 R) R (.nil ((E _ hm).sub [(2,6),(3,5)] R))))))) fun hm=> .skip ((E _ hm).sub [(2,6),(3,5)] R)
  refine .nlb qI 3 3 0 R R (.iter (fun (t:BenT×Int×List Int)=>⟨[(13,.i t.2.1),(12,.i (p1.1.length:Int)),(11,.f qI p1.1),(6,.q 1 0),(4,.q 3 0),(3,.q 4 0),(2,.o (lW Tryz.prog (fun (x:(Int→Option Bool))=> [.o (lW Tryz.prog (fun (x:Int)=> [.i x]) (fun (r:Bool)=> .b r) x)]) (fun (r:Int)=> .i r) p2))],[(0,.bx 199 (lx199 t.1)),(1,.bx 100 [lH 2,lN,lN,lI 0,lB false,lI 0,lB false]),(2,ROW qI 3 t.2.2),(3,.bx 114 [lF qI p1.1,lF qI p1.2.1,lI p1.2.2]),(4,.bx 276 [lP 0 0])],5⟩) N [(1,3),(2,4),(3,2),(4,1)] R ?_);intro t I hm a4 a3;unfold y1Y at hm;refine .sr (.bi R (.ns (.seq ?_)));refine .cc hm R (fun hm=>?_) fun hm=> .exit (.seqX (.seqX ((a5 _ (a3 _ (oi hm).symm)).sub [] R)));refine .skip (.seqN ?_);refine .join2 (fun (D:BenT) (v:List Int)=>y1X t D v=some I) (fun D v=>⟨[(13,.i t.2.1),(12,.i (p1.1.length:Int)),(11,.f qI p1.1),(6,.q 1 0),(4,.q 3 0),(3,.q 4 0),(2,.o (lW Tryz.prog (fun (x:(Int→Option Bool))=> [.o (lW Tryz.prog (fun (x:Int)=> [.i x]) (fun (r:Bool)=> .b r) x)]) (fun (r:Int)=> .i r) p2))],[(0,.bx 199 (lx199 D)),(1,.bx 100 [lH 2,lN,lN,lI 0,lB false,lI 0,lB false]),(2,ROW qI 3 v),(3,.bx 114 [lF qI p1.1,lF qI p1.2.1,lI p1.2.2]),(4,.bx 276 [lP 0 0])],5⟩) ?_ ?_
  · intro D v hm;unfold y1X at hm;exact .reg (.bi R (.mv R (.nil ((a4 _ (oi hm).symm).sub [] R))))
  · intro G;refine .block (.sr (bS hm fun a6 a1 hm=> .ix sl32 a1 R (.le nag3 lv3 R (.an R (.sr (.lb y5m R (.mv R (bS hm fun M a0 hm=> .op (O.ca (r':= .b M.1) [0] [(0,.bx 199 (lx199 M.2))] none (y6t a0) cf186 R R Z R R R R ⟨⟨_,R,I4⟩,trivial⟩ I3 R) R (.ns ?_)))))))));exact .cc hm R (fun hm=> .reg (.fa y8c R (.lb nag32 R (.mv R (.op (O.bsF (r:=qI) (zs:=([a6]:List Int)) bs32 R R Z R R R (.c .k .n) R R R) R (bS hm fun a7 a2 hm=> .op (O.ap 5 Tryz.underlying32 el3 R R Z R R (.fr R) a2 R) R (.fa y8c R (.st nag32.sz R (.nil (.blkN ((G _ _ hm).sub [(2,5)] R))))))))))) fun hm=> .skip (.blkN ((G _ _ hm).sub [] R))
def y5F(p1:List CycT)(p2:CycT→Option ((Int→Option Bool)→Option Int))(a:Int×(List StpT)×BenT):Option ((Int×(List StpT)×BenT)⊕((List StpT)⊕Int)):=
 if decide (a.1<(p1.length:Int)) then
  (idx p1 a.1).bind fun c=>
  (p2 c).bind fun d=>
  (y3W a.2.2 c d).bind fun b=>
  if(b.2.1 != 0) then
   some (.inr (.inr (b.2.1)))
  else
   (app a.2.1 ([b.1]:List StpT)).bind fun e=>
   some (.inl (W (a.1+1),e,b.2.2))
 else
  some (.inr (.inl a.2.1))
def y5L(p0:PbT)(p1:List CycT)(p2:CycT→Option ((Int→Option Bool)→Option Int)):Option ((List StpT)×Int):=
 (y5U p0).bind fun a=>
 if(a.2 != 0) then
  some (([]:List StpT),a.2)
 else
  a.1.bind fun e=>
  (iter (y5F p1 p2) (0,([]:List StpT),e)).bind fun b=>
  match b with
  | .inl c=>
   some (c,0)
  | .inr (d)=>
   some (([]:List StpT),d)
theorem y9k{p1:List CycT}{p2:CycT→Option ((Int→Option Bool)→Option Int)}{r:(List StpT)×Int}(hm:y5L p0 p1 p2=some r):
    F0 128 [.a (lx37 p0),.f rE114 p1,.o (lW Tryz.prog (fun (x:CycT)=> [.a [lF qI x.1,lF qI x.2.1,lI x.2.2]]) (fun (r:(Int→Option Bool)→Option Int)=> .o (lW Tryz.prog (fun (x:(Int→Option Bool))=> [.o (lW Tryz.prog (fun (x:Int)=> [.i x]) (fun (r:Bool)=> .b r) x)]) (fun (r:Int)=> .i r) r)) p2)] [] (.tp [.h 0,.i r.2]) [ROW rE100 100 r.1]:=by
  unfold y5L at hm;refine Fw.mk2 Tryz.func128 Tryz.ntmps128 R (fun C=>?_) R;refine .sr (.bo 0 R (.sa R (.an R (.sr (.op (O.lg (l':=(lx37 p0)) ag37 Z R (.B R) R R R) R (bS hm fun L J hm=> .op (O.ca (r':= .tp [.o (lH 1),.i L.2]) [1] [(0,OBX rE199 199 L.1)] (some 2) (yaY J) cf191 R R Z R R R R ⟨⟨_,R,I4⟩,trivial⟩ I3 R) R (.mv R (.ex R (.ex R (.sa R (.an R (.seq (.sr (.mv R (.bi R (.ns ?_))))))))))))))));refine .cc hm R (fun hm=>?_) fun hm=>?_
  ·refine .sr (.mv R (.sa R (.an R (.ret (.seqR (.nlg rE100 100 6 0 R R ?_))))));cases hm;exact .rr [2] Tryz.results128 (.tmp R (.tmp R .nil)) R I3 ⟨⟨_,R,I4⟩,trivial⟩
  ·refine .skip (.seqN (.sr (.an R (.seq (.sr (.mv R (.ln sl94 R (.mv R (.ns (.block (bS hm fun Q K hm=> .opn 1 R K lv199 R (.hp 8 R R (.hp 18 R R (bS hm fun t u hm=>?_))))))))))))));refine .cutU (z:= .exit 0) (fun j=> .inl j=t) (fun (j:(List StpT))=>⟨[(10,.h 0)],[(0,ROW rE100 100 j)],1⟩) ?_ fun H=>?_
   · rintro j rfl;dsimp only at hm;refine .blkE (.seqN (.sr (.mv R (.sa R (.an R (.ret ?_))))));cases hm;exact .rr [0] Tryz.results128 (.tmp R (.tmp R .nil)) R I3 ⟨⟨_,R,I4⟩,trivial⟩
   refine .cutU (z:= .ret) (fun m=> .inr (m)=t) (fun (m:Int)=>⟨[(7,.i m),(6,.o (lN))],[],0⟩) ?_ fun I=>?_
   · rintro m rfl;dsimp only at hm;refine .blkR (.seqR (.nlg rE100 100 6 0 R R ?_));cases hm;exact .rr [0] Tryz.results128 (.tmp R (.tmp R .nil)) R I3 ⟨⟨_,R,I4⟩,trivial⟩
   refine .nlg rE100 100 10 0 R R (.iter (fun (g:Int×(List StpT)×BenT)=>⟨[(25,.i g.1),(24,.i (p1.length:Int)),(23,.f rE114 p1),(10,.h 0),(8,.q 1 0),(2,.o (lW Tryz.prog (fun (x:CycT)=> [.a [lF qI x.1,lF qI x.2.1,lI x.2.2]]) (fun (r:(Int→Option Bool)→Option Int)=> .o (lW Tryz.prog (fun (x:(Int→Option Bool))=> [.o (lW Tryz.prog (fun (x:Int)=> [.i x]) (fun (r:Bool)=> .b r) x)]) (fun (r:Int)=> .i r) r)) p2))],[(0,ROW rE100 100 g.2.1),(1,.bx 199 (lx199 g.2.2))],2⟩) u [(0,2)] R ?_);intro g M hm G s;unfold y5F at hm;refine .sr (.bi R (.ns (.seq ?_)));refine .cc hm R (fun hm=>?_) fun hm=> .exit (.seqX (.seqX ((H _ (s _ (oi hm).symm)).sub [] R)));refine .skip (.seqN (.seq (.block (.sr (bS hm fun e D hm=> .ix sl94 D R (.op (O.lg (l':=[lF qI e.1,lF qI e.2.1,lI e.2.2]) ag114 Z R (.E lv114) R R R) R (.al 2 zz114 R (.st ag114.sz R (.ns (.seq ?_))))))))));refine .sub (τ:=⟨[(12,.q 2 0),(25,.i g.1),(24,.i (p1.length:Int)),(23,.f rE114 p1),(10,.h 0),(8,.q 1 0),(2,.o (lW Tryz.prog (fun (x:CycT)=> [.a [lF qI x.1,lF qI x.2.1,lI x.2.2]]) (fun (r:(Int→Option Bool)→Option Int)=> .o (lW Tryz.prog (fun (x:(Int→Option Bool))=> [.o (lW Tryz.prog (fun (x:Int)=> [.i x]) (fun (r:Bool)=> .b r) x)]) (fun (r:Int)=> .i r) r)) p2))],[(2,.bx 114 [lF qI e.1,lF qI e.2.1,lI e.2.2]),(0,ROW rE100 100 g.2.1),(1,.bx 199 (lx199 g.2.2))],3⟩) ?_ [] R;refine bS hm fun N v hm=>bS hm fun d w hm=>?_;refine .drz 5 [(9,4)] [(3,[],[],[]),(3,[],[],[]),(3,[],[],[]),(3,[],[],[]),(3,[oF,oF,oT,oT],[],[]),(3,[oT,oT,oT,oT,oT],[],[]),(4,[oT,oT,oT,oT,oT,oT],[],[]),(4,[oT,oT,oT,oT,oT,oT,oT],[],[]),(4,[oT,oT,oT,oT,oT,oT,oT],[],[]),(3,[],[1],[]),(5,[oT,oT,oT,oT,oT,oT,oT,oT,oF,oT],[],[]),(5,[oT,oT,oT,oT,oT,oT,oT,oT,oT,oT,oT],[],[(9,4)])] [_,_,_,_,_,_,_,_,_,_,_,_] ⟨[(14,.i d.2.1),(13,.q 4 0),(25,.i g.1),(24,.i (p1.length:Int)),(23,.f rE114 p1),(10,.h 0),(8,.q 1 0),(2,.o (lW Tryz.prog (fun (x:CycT)=> [.a [lF qI x.1,lF qI x.2.1,lI x.2.2]]) (fun (r:(Int→Option Bool)→Option Int)=> .o (lW Tryz.prog (fun (x:(Int→Option Bool))=> [.o (lW Tryz.prog (fun (x:Int)=> [.i x]) (fun (r:Bool)=> .b r) x)]) (fun (r:Int)=> .i r) r)) p2))],[(4,.bx 100 [lF qI d.1.1,lF qI d.1.2.1,lH 3,lI d.1.2.2.2.1,lB d.1.2.2.2.2.1,lI d.1.2.2.2.2.2.1,lB d.1.2.2.2.2.2.2]),(3,ROW qI 3 d.1.2.2.1),(0,ROW rE100 100 g.2.1),(1,.bx 199 (lx199 d.2.2))],5⟩ ⟨O.mv Z R R,O.lg (l':=[lF qI e.1,lF qI e.2.1,lI e.2.2]) ag114 Z R (.B R) R R R,O.mv Z R R,O.lg (l':=[lF qI e.1,lF qI e.2.1,lI e.2.2]) ag114 Z R (.B R) R R R,O.fv (y:=e) R R R Z R v R R,O.ca (r':= .tp [.a [lF qI d.1.1,lF qI d.1.2.1,lH 3,lI d.1.2.2.2.1,lB d.1.2.2.2.2.1,lI d.1.2.2.2.2.2.1,lB d.1.2.2.2.2.2.2],.i d.2.1]) [1,3] [(0,.bx 199 (lx199 d.2.2)),(1,ROW qI 3 d.1.2.2.1)] (some 4) (y9v w) cf192 R R Z R R R R ⟨⟨_,R,I4⟩,⟨_,R,I4⟩,trivial⟩ I3 R,O.mv Z R R,O.ex Z R R R,O.ex Z R R R,O.al 4 R zz100 R Z R,O.st ag100.sz Z R R R R R,O.as Z R R,trivial⟩ (by kernel_rfl) R ?_;refine .seqN (.seq (.sr (.mv R (.bi R (.ns ?_)))));exact .cc hm R (fun hm=> .sr (.mv R (.sa R (.an R (.ret (.seqR (.blkR (.seqR (.seqR ((I _ (s _ (oi hm).symm)).sub [] R)))))))))) fun hm=> .skip (.seqN (.reg (.mv R (.op (O.lg (l':=[lF qI d.1.1,lF qI d.1.2.1,lH 3,lI d.1.2.2.2.1,lB d.1.2.2.2.2.1,lI d.1.2.2.2.2.2.1,lB d.1.2.2.2.2.2.2]) ag100 Z R (.B R) R R R) R (.fz 3 [42] [4] R R fR R R (.op (O.bsF (r:=rE100) (zs:=([d.1]:List StpT)) bs91 R R Z R R R (.c (.p .l (.p .l (.p .l (.p .k (.p .b (.p .k .b)))))) .n) R R R) R (bS hm fun P F hm=> .op (O.ap 5 Tryz.underlying91 el100 R R Z R R (.fr R) F R) R (.sa R (.nil (.blkN (.seqN (.reg (.bi R (.mv R (.nil ((G _ (oi hm).symm).sub [(0,5)] R))))))))))))))))
def y5v(a:CycT)(p0:Int→Option Bool):Option Int:=
 (if (a.2.2 != (-1)) then
  (p0 a.2.2).bind fun c=>
  some c
 else
  some false).bind fun b=>
 if b then
  some a.2.2
 else
  some (-1)
theorem yah{a:CycT}{p0:Int→Option Bool}{r:Int}(hm:y5v a p0=some r):
    F0 130 [.o (lW Tryz.prog (fun (x:Int)=> [.i x]) (fun (r:Bool)=> .b r) p0),.o (lQ 114 [lF qI a.1,lF qI a.2.1,lI a.2.2] 0)] [] (.i r) []:=by
  unfold y5v at hm;refine Fw.mk2 Tryz.func130 Tryz.ntmps130 R (fun C=>?_) R;refine .sr (.an R (.seq (.sr (.fq y8b R (.lq nag3 R (.bi R (.mv R (bS hm fun g eb1 hm=>?_))))))));refine .cut 5 (fun (c:Bool)=>g=c) (fun c=>⟨[(12,.b c),(1,.o (lQ 114 [lF qI a.1,lF qI a.2.1,lI a.2.2] 0))],[],0⟩) ?_ ?_
  · rintro _ rfl;refine .ns ?_;refine .cc hm R (fun hm=>?_) fun hm=>?_
    ·refine .sr (.fq y8b R (.lq nag3 R (.an R (.ret (.seqR ?_)))));cases hm;exact .rr [] Tryz.results130 (.tmp R .nil) R I3 trivial
    ·refine .skip (.seqN (.sr (.an R (.ret ?_))));cases hm;exact .rr [] Tryz.results130 (.tmp R .nil) R I3 trivial
  · intro e;rcases ifS eb1 with ⟨hc,hm⟩|⟨hc,hm⟩
    · refine .know (d:=7) R hc ?_;refine .op (O.mv (Gu.mk R R) R R) R (.op (O.faQ y8b (Gu.mk R R) R R) R (.op (O.ld nag3 (Gu.mk R R) R .Q R R) R (bS hm fun h f hm=>?_)));refine .op (O.fv (y:=a.2.2) R R R (Gu.mk R R) R f R R) R ?_;exact .op (O.pkT Z R R R R) R ((e h (oi hm).symm).sub [] R)
    · refine .know (d:=7) R hc ?_;exact .sk R (.sk R (.sk R (.sk R (.op (O.pkF Z R R R R) R ((e false (oi hm).symm).sub [] R)))))
def y6F(p0:CycT):Option ((Int→Option Bool)→Option Int):=
 some (y5v p0)
theorem yb5{p0:CycT}{r:((Int→Option Bool)→Option Int)}(hm:y6F p0=some r):
  F0 129 [.a [lF qI p0.1,lF qI p0.2.1,lI p0.2.2]] [] (.o (lW Tryz.prog (fun (x:(Int→Option Bool))=> [.o (lW Tryz.prog (fun (x:Int)=> [.i x]) (fun (r:Bool)=> .b r) x)]) (fun (r:Int)=> .i r) r)) []:=by
 unfold y6F at hm;refine Fw.mk2 Tryz.func129 Tryz.ntmps129 R (fun C=>?_) R;refine .sr (.bo 0 R (.an R (.sr (.fz 0 [1] [] R R fB R R (.op (O.mf (args:=(fun (x:(Int→Option Bool))=> [.o (lW Tryz.prog (fun (x:Int)=> [.i x]) (fun (r:Bool)=> .b r) x)])) (res:=(fun (r:Int)=> .i r)) (m:=(y5v p0)) cf130 (fun x r h=>yah h) (fun _=>R) R Z R R) R (.an R (.ret ?_)))))));cases hm;exact .rr [] Tryz.results129 (.tmp R .nil) R I3 trivial
def y4U(p0:PbT)(p1:List CycT):Option ((List StpT)×Int):=
 (y1K p0 p1).bind fun a=>
 if(a != 0) then
  some (([]:List StpT),a)
 else
  (y5L p0 p1 y6F).bind fun b=>
  some b
theorem y7w{p1:List CycT}{r:(List StpT)×Int}(hm:y4U p0 p1=some r):
    F0 57 [.a (lx37 p0),.f rE114 p1] [] (.tp [.h 0,.i r.2]) [ROW rE100 100 r.1]:=by
  unfold y4U at hm;refine Fw.mk2 Tryz.func57 Tryz.ntmps57 R (fun C=>?_) R;refine .sr (.bo 0 R (.sa R (.an R (.seq (.sr (.op (O.lg (l':=(lx37 p0)) ag37 Z R (.B R) R R R) R (.mv R (bS hm fun g b hm=> .c0 (y6g b) cf65 R (.an R (.sr (.mv R (.bi R (.ns ?_)))))))))))));refine .cc hm R (fun hm=>?_) fun hm=>?_
  ·refine .sr (.mv R (.sa R (.an R (.ret (.seqR (.nlg rE100 100 4 0 R R ?_))))));cases hm;exact .rr [1] Tryz.results57 (.tmp R (.tmp R .nil)) R I3 ⟨⟨_,R,I4⟩,trivial⟩
  ·refine .skip (.seqN (.sr (.op (O.lg (l':=(lx37 p0)) ag37 Z R (.B R) R R R) R (.mv R (bS hm fun e d hm=> .op (O.cac (r':= .tp [.h 1,.i e.2]) [1] [(0,ROW rE100 100 e.1)] (some 2) (y9k d) cf128 R R Z R R ⟨⟨R,.rf⟩,⟨R,.rf⟩,⟨R,(.c (.fn cf129 (fun x r h=>yb5 h) (fun _=>R)) .n)⟩,trivial⟩ R ⟨⟨_,R,I4⟩,trivial⟩ I3 R) R (.ex R (.ex R (.sa R (.an R (.ret ?_))))))))));cases hm;exact .rr [1] Tryz.results57 (.tmp R (.tmp R .nil)) R I3 ⟨⟨_,R,I4⟩,trivial⟩
def y7T(p0:List (List Int))(a:Int×List Int):Option ((Int×List Int)⊕(List Int)):=
 if decide (a.1<(p0.length:Int)) then
  (idx p0 a.1).bind fun b=>
  (app a.2 b).bind fun c=>
  some (.inl (W (a.1+1),c))
 else
  some (.inr a.2)
def y6G(b:Int×Int)(a:Int):Option ((Int×Int)⊕Int):=
 some (.inl (W (b.1+1),a))
def y7U(p0:List (List Int))(a:Int×Int):Option ((Int×Int)⊕Int):=
 if decide (a.1<(p0.length:Int)) then
  (idx p0 a.1).bind fun b=>
  if decide ((W (a.2+(b.length:Int)))<0) then
   none
  else
   y6G a (W (a.2+(b.length:Int)))
 else
  some (.inr a.2)
def y7j(p0:List (List Int)):Option (List Int):=
 (iter (y7U p0) (0,0)).bind fun c=>
 (y6J ([]:List Int) c).bind fun b=>
 (iter (y7T p0) (0,b)).bind fun a=>
 some a
theorem yaJ{p0:List (List Int)}{r:List Int}(hm:y7j p0=some r):
  F0 185 [.f (rL qI) p0] [] (.h 0) [ROW qI 3 r]:=by
 unfold y7j at hm;refine Fw.mk2 Tryz.func185 Tryz.ntmps185 R (fun C=>?_) R;refine .sr (.an R (.sr (.an R (.seq (.sr (.mv R (.ln sl53 R (.mv R (.ns (.block (bS hm fun p u hm=>?_)))))))))));refine .cut1 (z:= .exit 0) p (fun (p:Int)=>⟨[(3,.i p),(0,.f (rL qI) p0)],[],0⟩) ?_ fun s=>?_
 ·skip
  refine .blkE (.seqN (.sr (.mv R (bS hm fun x j hm=> .op (O.ca (r':= .h 0) [0] [(0,ROW qI 3 x)] (some 1) (ybl j) cf218 R R Z R R R R ⟨⟨_,R,I4⟩,trivial⟩ I3 R) R (.an R (.seq (.sr (.mv R (.ln sl53 R (.mv R (.ns (.block (bS hm fun d g hm=>?_)))))))))))));refine .cut1 (z:= .exit 2) d (fun (d:List Int)=>⟨[(6,.h 0)],[(0,ROW qI 3 d)],1⟩) ?_ fun t=>?_
  ·skip
   refine .blkE (.seqN (.sr (.mv R (.an R (.ret ?_)))));cases hm;exact .rr [0] Tryz.results185 (.tmp R .nil) R I3 ⟨⟨_,R,I4⟩,trivial⟩
  refine .iter (fun (b:Int×List Int)=>⟨[(27,.i b.1),(26,.i (p0.length:Int)),(25,.f (rL qI) p0),(6,.h 0)],[(0,ROW qI 3 b.2)],1⟩) g [] R ?_;intro b y hm o n;unfold y7T at hm;refine .sr (.bi R (.ns (.seq ?_)));exact .cc hm R (fun hm=> .skip (.seqN (.seq (.block (.sr (bS hm fun B k hm=> .ix sl53 k R (.le nag32 lv32 R (.an R (.reg (.mv R (.mv R (bS hm fun D l hm=> .op (O.ap 1 Tryz.underlying32 el3 R R Z R R (.fr R) l R) R (.sa R (.nil (.blkN (.seqN (.reg (.bi R (.mv R (.nil ((o _ (oi hm).symm).sub [(0,1)] R))))))))))))))))))))) fun hm=> .exit (.seqX (.seqX ((t _ (n _ (oi hm).symm)).sub [] R)))
 refine .iter (fun (a:Int×Int)=>⟨[(11,.i a.1),(10,.i (p0.length:Int)),(9,.f (rL qI) p0),(3,.i a.2),(0,.f (rL qI) p0)],[],0⟩) u [] R ?_;intro a q hm w v;unfold y7U at hm;refine .sr (.bi R (.ns (.seq ?_)));refine .cc hm R (fun hm=>?_) fun hm=> .exit (.seqX (.seqX ((s _ (v _ (oi hm).symm)).sub [] R)));refine .skip (.seqN ?_);refine .join1 (fun (c:Int)=>y6G a c=some q) (fun c=>⟨[(3,.i c),(11,.i a.1),(10,.i (p0.length:Int)),(9,.f (rL qI) p0),(0,.f (rL qI) p0)],[],0⟩) ?_ ?_
 ·intro c hm;unfold y6G at hm;exact .reg (.bi R (.mv R (.nil ((w _ (oi hm).symm).sub [] R))))
 ·intro e;refine .block (.sr (bS hm fun E m hm=> .ix sl53 m R (.le nag32 lv32 R (.an R (.sr (.mv R (.mv R (.ln sl32 R (.bi R (.an R (.sr (.mv R (.bi R (.ns ?_))))))))))))));refine .cc hm R (fun hm=>?_) fun hm=> .skip (.blkN ((e _ hm).sub [] R));refine .reg ?_;cases hm
def y5k(a:List Int):Option (List Int):=
 some a
def y5R(p0:StpT):Option (List Int):=
 (y7j ([p0.1,p0.2.1]:List (List Int))).bind fun a=>
 if p0.2.2.2.2.1 then
  (app a ([p0.2.2.2.1]:List Int)).bind fun b=>
  y5k b
 else
  y5k a
theorem y7x{p0:StpT}{r:List Int}(hm:y5R p0=some r):
  F0 123 [.a (lx100 p0)] [] (.h 0) [ROW qI 3 r]:=by
 unfold y5R at hm;refine Fw.mk2 Tryz.func123 Tryz.ntmps123 R (fun C=>?_) R;refine .sr (.bo 0 R (.an R (.sr (.fa y8c R (.lb nag32 R (.fa y8E R (.lb nag32 R (.op (O.bsF (r:=(rL qI)) (zs:=([p0.1,p0.2.1]:List (List Int))) bs53 R R Z R R R (.c .l (.c .l .n)) R R R) R (bS hm fun g e hm=> .op (O.ca (r':= .h 1) [1] [(0,ROW qI 3 g)] (some 2) (yaJ e) cf185 R R Z R R R R ⟨⟨_,R,I4⟩,trivial⟩ I3 R) R (.an R ?_))))))))));refine .join1 (fun (b:List Int)=>y5k b=some r) (fun b=>⟨[(3,.h 0)],[(0,ROW qI 3 b)],1⟩) ?_ ?_
 ·intro b hm;unfold y5k at hm;refine .sr (.mv R (.an R (.ret ?_)));cases hm;exact .rr [0] Tryz.results123 (.tmp R .nil) R I3 ⟨⟨_,R,I4⟩,trivial⟩
 ·intro d;refine .sr (.fa y7F R (.lb nag4 R (.ns ?_)));exact .cc hm R (fun hm=> .reg (.mv R (.fa y6b R (.lb nag3 R (.op (O.bsF (r:=qI) (zs:=([p0.2.2.2.1]:List Int)) bs32 R R Z R R R (.c .k .n) R R R) R (bS hm fun i f hm=> .op (O.ap 2 Tryz.underlying32 el3 R R Z R R (.fr R) f R) R (.sa R (.nil ((d _ hm).sub [(0,2)] R))))))))) fun hm=> .skip ((d _ hm).sub [(0,1)] R)
def y8p(p0:List StpT)(a:Int×List Int):Option ((Int×List Int)⊕(List Int)):=
 if decide (a.1<(p0.length:Int)) then
  (idx p0 a.1).bind fun c=>
  (y5R c).bind fun b=>
  (app a.2 b).bind fun d=>
  some (.inl (W (a.1+1),d))
 else
  some (.inr a.2)
def y6K(p0:List StpT):Option (List Int):=
 (iter (y8p p0) (0,([]:List Int))).bind fun a=>
 some a
theorem y8B{p0:List StpT}{r:List Int}(hm:y6K p0=some r):
  F0 53 [.f rE100 p0] [] (.h 0) [ROW qI 3 r]:=by
 unfold y6K at hm;refine Fw.mk2 Tryz.func53 Tryz.ntmps53 R (fun C=>?_) R;refine .sr (.an R (.sr (.an R (.seq (.sr (.mv R (.ln sl91 R (.mv R (.ns (.block (bS hm fun g k hm=>?_)))))))))));refine .cut1 (z:= .exit 0) g (fun (g:List Int)=>⟨[(3,.h 0)],[(0,ROW qI 3 g)],1⟩) ?_ fun j=>?_
 ·skip
  refine .blkE (.seqN (.sr (.mv R (.an R (.ret ?_)))));cases hm;exact .rr [0] Tryz.results53 (.tmp R .nil) R I3 ⟨⟨_,R,I4⟩,trivial⟩
 refine .nlg qI 3 3 0 R R (.iter (fun (a:Int×List Int)=>⟨[(8,.i a.1),(7,.i (p0.length:Int)),(6,.f rE100 p0),(3,.h 0)],[(0,ROW qI 3 a.2)],1⟩) k [] R ?_);intro a p hm n m;unfold y8p at hm;refine .sr (.bi R (.ns (.seq ?_)));exact .cc hm R (fun hm=> .skip (.seqN (.seq (.block (.sr (bS hm fun b d hm=> .ix sl91 d R (.op (O.lg (l':=(lx100 b)) ag100 Z R (.E lv100) R R R) R (.al 1 zz100 R (.st ag100.sz R (.ns (.reg (.mv R (.op (O.lg (l':=(lx100 b)) ag100 Z R (.B R) R R R) R (bS hm fun o c hm=> .op (O.ca (r':= .h 2) [2] [(0,ROW qI 3 o)] (some 3) (y7x c) cf123 R R Z R R R R ⟨⟨_,R,I4⟩,trivial⟩ I3 R) R (bS hm fun q e hm=> .op (O.ap 3 Tryz.underlying32 el3 R R Z R R (.ow R R) e R) R (.sa R (.nil (.blkN (.seqN (.reg (.bi R (.mv R (.nil ((n _ (oi hm).symm).sub [(0,3)] R)))))))))))))))))))))))) fun hm=> .exit (.seqX (.seqX ((j _ (m _ (oi hm).symm)).sub [] R)))
def y5l(a:PbT)(p0:Int):Option Bool:=
 (ye a.1.1 p0).bind fun b=>
 some (!b)
theorem y9l{c:PbT}{p0:Int}{r:Bool}(hm:y5l c p0=some r):
  F0 122 [.i p0,.o (lQ 37 (lx37 c) 0)] [] (.b r) []:=by
 unfold y5l at hm;refine Fw.mk2 Tryz.func122 Tryz.ntmps122 R (fun C=>?_) R;refine .sr (.an R (.sr (.fq y3A R (.fq yT R (.lq nag32 R (.mv R (bS hm fun d a hm=> .c0 (yg a) cf104 R (.op (O.not Z R R) R (.an R (.ret ?_))))))))));cases hm;exact .rr [] Tryz.results122 (.tmp R .nil) R I3 trivial
def y3O(a:Bool):Option Bool:=
 some a
def y6i(a:Option (BenT×Int×Bool))(b:Int)(p0:Int×Int×Int):Option Bool:=
 a.bind fun c=>
 if(p0.1==c.2.1) then
  y3O (p0.2.1==b)
 else
  y3O false
theorem y8T{j:Option (BenT×Int×Bool)}{f:Int}{p0:Int×Int×Int}{r:Bool}(hm:y6i j f p0=some r):
  F0 187 [.a [lI p0.1,lI p0.2.1,lI p0.2.2],.o (lQ 275 [lK rE201 201 j] 0),.o (lQ 3 [lI f] 0)] [] (.b r) []:=by
 unfold y6i at hm;refine Fw.mk2 Tryz.func187 Tryz.ntmps187 R (fun C=>?_) R;refine .sr (.bo 0 R (.an R ?_));refine .join1 (fun (e:Bool)=>y3O e=some r) (fun e=>⟨[(4,.b e)],[],0⟩) ?_ ?_
 ·intro e hm;unfold y3O at hm;refine .ret ?_;cases hm;exact .rr [] Tryz.results187 (.tmp R .nil) R I3 trivial
 ·intro g;refine bS hm fun k i hm=> .cnt 1 R (.c (.q (.c (.pd i lv201) .n)) .n) R ?_;refine .sub (τ:=⟨[(3,.q 0 0),(1,.o (lQ 275 [lQ 201 (lx201 k) 0] 0)),(2,.o (lQ 3 [lI f] 0))],[(0,.bx 124 [lI p0.1,lI p0.2.1,lI p0.2.2])],1⟩) ?_ [] R;refine .drP 7 [(1,[]),(1,[oT]),(1,[]),(1,[oF,oF,oT]),(1,[oF,oF,oT,oT]),(1,fA 2 (tT 3)),(1,tT 6)] [_,_,_,_,_,_,_] ⟨O.faP y3r Z R R,O.ld nag3 Z R (.B R) R R,O.ld y6Z Z R .Q R R,O.nc .Q Z R R,O.faQ yd8 Z R R,O.ld nag3 Z R .Q R R,O.bi Z R R R R,trivial⟩ fun h=>?_;rcases ifS hm with ⟨d,hm⟩|⟨d,hm⟩
  ·skip
   exact .drF h [(1,tT 7),(1,tT 8),(1,tT 9),(1,tT 8),(1,tT 11),(1,tT 12),(1,tT 13)] [_,_,_,_,_,_,_] ⟨[(4,.b (p0.2.1==f))],[],1⟩ ⟨O.kn (O.mv Z R R) d,O.faP y4X (Gu.mk R R) R R,O.ld nag3 (Gu.mk R R) R (.B R) R R,O.ld nag3 (Gu.mk R R) R .Q R R,O.bi (Gu.mk R R) R R R R,O.pkT Z R R R R,O.as Z R R,trivial⟩ (by kernel_rfl) R ((g _ hm).sub [] R)
  ·skip
   exact .drF h [(1,tT 7),(1,tT 8),(1,tT 9),(1,tT 8),(1,tT 11),(1,tT 12),(1,tT 13)] [_,_,_,_,_,_,_] ⟨[(4,.b false)],[],1⟩ ⟨O.kn (O.mv Z R R) d,O.skip R R R R,O.skip R R R R,O.skip R R R R,O.skip R R R R,O.pkF Z R R R R,O.as Z R R,trivial⟩ (by kernel_rfl) R ((g _ hm).sub [] R)
def y3q(a:Bool):Option Bool:=
 some a
def y4h(a:Option (BenT×Int×Bool))(b:Int)(p0:Int×Int×Int):Option Bool:=
 a.bind fun c=>
 if(p0.1==c.1.2.2.1) then
  y3q (p0.2.1==b)
 else
  y3q false
theorem y8q{j:Option (BenT×Int×Bool)}{f:Int}{p0:Int×Int×Int}{r:Bool}(hm:y4h j f p0=some r):
  F0 242 [.a [lI p0.1,lI p0.2.1,lI p0.2.2],.o (lQ 276 [lK rE201 201 j] 0),.o (lQ 3 [lI f] 0)] [] (.b r) []:=by
 unfold y4h at hm;refine Fw.mk2 Tryz.func242 Tryz.ntmps242 R (fun C=>?_) R;refine .sr (.bo 0 R (.an R ?_));refine .join1 (fun (e:Bool)=>y3q e=some r) (fun e=>⟨[(4,.b e)],[],0⟩) ?_ ?_
 ·intro e hm;unfold y3q at hm;refine .ret ?_;cases hm;exact .rr [] Tryz.results242 (.tmp R .nil) R I3 trivial
 ·intro g;refine bS hm fun k i hm=> .cnt 1 R (.c (.q (.c (.pd i lv201) .n)) .n) R ?_;refine .sub (τ:=⟨[(3,.q 0 0),(1,.o (lQ 276 [lQ 201 (lx201 k) 0] 0)),(2,.o (lQ 3 [lI f] 0))],[(0,.bx 124 [lI p0.1,lI p0.2.1,lI p0.2.2])],1⟩) ?_ [] R;refine .drP 7 [(1,[]),(1,[oT]),(1,[]),(1,[oF,oF,oT]),(1,[oF,oF,oT,oT]),(1,fA 2 (tT 3)),(1,tT 6)] [_,_,_,_,_,_,_] ⟨O.faP y3r Z R R,O.ld nag3 Z R (.B R) R R,O.ld y5m Z R .Q R R,O.nc .Q Z R R,O.faQ ybN Z R R,O.ld nag3 Z R .Q R R,O.bi Z R R R R,trivial⟩ fun h=>?_;rcases ifS hm with ⟨d,hm⟩|⟨d,hm⟩
  ·skip
   exact .drF h [(1,tT 7),(1,tT 8),(1,tT 9),(1,tT 8),(1,tT 11),(1,tT 12),(1,tT 13)] [_,_,_,_,_,_,_] ⟨[(4,.b (p0.2.1==f))],[],1⟩ ⟨O.kn (O.mv Z R R) d,O.faP y4X (Gu.mk R R) R R,O.ld nag3 (Gu.mk R R) R (.B R) R R,O.ld nag3 (Gu.mk R R) R .Q R R,O.bi (Gu.mk R R) R R R R,O.pkT Z R R R R,O.as Z R R,trivial⟩ (by kernel_rfl) R ((g _ hm).sub [] R)
  ·skip
   exact .drF h [(1,tT 7),(1,tT 8),(1,tT 9),(1,tT 8),(1,tT 11),(1,tT 12),(1,tT 13)] [_,_,_,_,_,_,_] ⟨[(4,.b false)],[],1⟩ ⟨O.kn (O.mv Z R R) d,O.skip R R R R,O.skip R R R R,O.skip R R R R,O.skip R R R R,O.pkF Z R R R R,O.as Z R R,trivial⟩ (by kernel_rfl) R ((g _ hm).sub [] R)
def y6j(p0:BenT×Int×Bool)(p1:Int):Option Int:=
 (y2f p0.1.1.1.2.2.2 (y4h (some p0) p1)).bind fun a=>
 if decide (a<0) then
  some (-1)
 else
  (some p0).bind fun b=>
  (idx b.1.1.1.2.2.2 a).bind fun c=>
  some c.2.2
theorem y8U{p0:BenT×Int×Bool}{r:Int}(hm:y6j p0 p1=some r):
    F0 219 [.o (lQ 201 (lx201 p0) 0),.i p1] [] (.i r) []:=by
  unfold y6j at hm;refine Fw.mk2 Tryz.func219 Tryz.ntmps219 R (fun C=>?_) R;refine .sr (.bo 0 R (.bo 1 R (.an R (.sr (.lb y5m R (.op (O.nc .Q Z R R) R (.fq y7E R (.fq y3A R (.fq y1J R (.lq nag33 R (.fz 0 [2] [] R R fB R R (.fz 1 [3] [] R R fB R R (.cnt 2 R (.c (.q (.c (.pk (r:=rE201) (.p (.p (.p (.p .l (.p .k (.p .l .l))) (.p (.p .l (.p .k (.p .l .l))) .l)) (.p (.p (.p .k (.p .k (.p .k (.p .l .l)))) (.p .l (.p .l .k))) (.p .k (.p .l .l)))) (.p .k .b))) .n)) .n) R (.op (O.mf (args:=(fun (x:(Int×Int×Int))=> [.a [lI x.1,lI x.2.1,lI x.2.2]])) (res:=(fun (r:Bool)=> .b r)) (m:=(y4h (some p0) p1)) cf242 (fun x r h=>y8q h) (fun _=>R) R Z R R) R (bS hm fun g d hm=> .c0 (y6o d) cf140 R (.an R (.seq (.sr (.mv R (.bi R (.ns ?_)))))))))))))))))))));refine .cc hm R (fun hm=>?_) fun hm=>?_
  ·refine .sr (.an R (.ret (.seqR ?_)));cases hm;exact .rr [] Tryz.results219 (.tmp R .nil) R I3 trivial
  ·refine .skip (.seqN (.sr (.lq y5m R (bS hm fun j e hm=> .cnt 16 R (.c (.pd e lv201) .n) R (.op (O.nc .Q Z R R) R (.fq y7E R (.fq y3A R (.fq y1J R (.lq nag33 R (.mv R (bS hm fun s f hm=> .ix sl33 f R (.fe y4Y R (.le nag3 lv124 R (.an R (.ret ?_)))))))))))))));cases hm;exact .rr [] Tryz.results219 (.tmp R .nil) R I3 trivial
def y4s(p0:BenT×Int×Bool)(b:Int)(a:Int):Option (Bool×(BenT×Int×Bool)):=
 some (decide (b≥0),(p0.1.1,p0.1.2.1,a,p0.1.2.2.2),p0.2)
def y6w(p0:BenT×Int×Bool)(p1:Int):Option (Bool×(BenT×Int×Bool)):=
 (y6j p0 p1).bind fun a=>
 if decide (a≥0) then
  y4s p0 a a
 else
  y4s p0 a p0.1.2.2.1
theorem y9w{p0:BenT×Int×Bool}{r:Bool×(BenT×Int×Bool)}(hm:y6w p0 p1=some r):
  Fw Tryz.prog 186 ⟨1,[0]⟩ [.o (lP 0 0),.i p1] [.bx 201 (lx201 p0)] (.b r.1) [.bx 201 (lx201 r.2)]:=by
 unfold y6w at hm;refine Fw.mk2 Tryz.func186 Tryz.ntmps186 R (fun C=>?_) R;refine .sr (.an R (.sr (.mv R (.mv R (bS hm fun e d hm=> .op (O.caZ (y8U d) cf219 R R Z R ⟨⟨R,(.q R LnL.rf),trivial⟩,⟨R,LnL.rf⟩,trivial⟩ (fun _ _ _ _ _ h=>h) R) R (.an R ?_))))));refine .join1 (fun (a:Int)=>y4s p0 e a=some r) (fun a=>⟨[(5,.i e)],[(0,.bx 201 [lF qI p0.1.1.1.1,lI p0.1.1.1.2.1,lF qI p0.1.1.1.2.2.1,lF qT p0.1.1.1.2.2.2,lF qI p0.1.1.2.1.1,lI p0.1.1.2.1.2.1,lF qI p0.1.1.2.1.2.2.1,lF qT p0.1.1.2.1.2.2.2,lF qI p0.1.1.2.2,lI p0.1.2.1.1.1,lI p0.1.2.1.1.2.1,lI p0.1.2.1.1.2.2.1,lF rB p0.1.2.1.1.2.2.2.1,lF rE302 p0.1.2.1.1.2.2.2.2,lF qI p0.1.2.1.2.1,lF qI p0.1.2.1.2.2.1,lI p0.1.2.1.2.2.2,lI a,lF rB p0.1.2.2.2.1,lF rB p0.1.2.2.2.2,lI p0.2.1,lB p0.2.2])],1⟩) ?_ ?_
 ·intro a hm;unfold y4s at hm;refine .sr (.mv R (.bi R (.an R (.ret ?_))));cases hm;exact .rr [0] Tryz.results186 (.tmp R .nil) R I3 ⟨⟨_,R,I4⟩,trivial⟩
 ·intro c;refine .sr (.mv R (.bi R (.ns ?_)));exact .cc hm R (fun hm=> .reg (.mv R (.mv R (.op (O.nc .B Z R R) R (.fa ybN R (.st nag3.sz R (.nil ((c _ hm).sub [] R)))))))) fun hm=> .skip ((c _ hm).sub [] R)
theorem cf187 :Cf Tryz.prog 187:=cM Tryz.func187 (by kernel_rfl)
theorem ybQ :FA Tryz.prog 201 0 0:=fAm 0 0 20 Tryz.underlying201 R (by kernel_rfl)
theorem y8V :FA Tryz.prog 201 2 21:=fAm 2 21 1 Tryz.underlying201 R (by kernel_rfl)
def y4t(p1:Int)(a:BenT×Int×Bool)(c:Bool):Option (BenT×Int×Bool):=
 if c then
  some a
 else
  (y2f a.1.1.2.1.2.2.2 (y6i (some a) p1)).bind fun b=>
  if decide (b<0) then
   some (a.1,a.2.1,true)
  else
   (idx a.1.1.2.1.2.2.2 b).bind fun d=>
   some (a.1,d.2.2,a.2.2)
def y4u(p1:Int)(a:BenT×Int×Bool):Option (BenT×Int×Bool):=
 if a.2.2 then
  y4t p1 a true
 else
  (ye a.1.1.2.1.1 p1).bind fun b=>
  y4t p1 a (!b)
def y6x(p0:BenT×Int×Bool)(p1:Int):Option (BenT×Int×Bool):=
 if p0.2.2 then
  y4u p1 (p0.1,p0.2.1,true)
 else
  (y6w p0 p1).bind fun a=>
  y4u p1 (a.2.1,a.2.2.1,(!a.1))
theorem y9x{p0:BenT×Int×Bool}{r:(BenT×Int×Bool)}(hm:y6x p0 p1=some r):
    Fw Tryz.prog 124 ⟨1,[0]⟩ [.o (lP 0 0),.i p1] [.bx 201 (lx201 p0)] (.tp []) [.bx 201 (lx201 r)]:=by
  unfold y6x at hm;refine Fw.mk2 Tryz.func124 Tryz.ntmps124 R (fun C=>?_) R;refine .sr (.bo 1 R (.bo 2 R (.ns ?_)));refine .join1 (fun (c:BenT×Int×Bool)=>y4u p1 c=some r) (fun c=>⟨[(3,.q 1 0),(2,.q 2 0)],[(0,.bx 201 (lx201 c)),(1,.bx 3 [lI p1]),(2,.bx 275 [lP 0 0])],3⟩) ?_ ?_
  · intro c hm;unfold y4u at hm;refine .seq ?_;refine .join1 (fun (f:Bool)=>y4t p1 c f=some r) (fun f=>⟨[(35,.b f),(3,.q 1 0),(2,.q 2 0)],[(0,.bx 201 (lx201 c)),(1,.bx 3 [lI p1]),(2,.bx 275 [lP 0 0])],3⟩) ?_ ?_
    · intro f hm;unfold y4t at hm;refine .cc hm R (fun hm=>?_) fun hm=>?_
      ·refine .ret (.seqR ?_);cases hm;exact .rr [0] Tryz.results124 .nil R I3 ⟨⟨_,R,I4⟩,trivial⟩
      ·refine .skip (.seqN (.sr (.lb y6Z R (.op (O.nc .B Z R R) R (.fa ybQ R (.fa y7E R (.fa y4B R (.fa y1J R (.lb nag33 R (.op (O.mz (l:=[lP 2 0,lP 1 0]) Z R R) R (bS hm fun w t hm=> .op (O.caZ (y6o t) cf140 R R Z R ⟨⟨R,LnL.rf⟩,⟨R,(.z (l':=[lQ 275 [lK rE201 201 (some c)] 0,lQ 3 [lI p1] 0]) cf187 (fun x r h=>y8T h) (fun _=>R) R ⟨(.q R ⟨(.cv (.q R LnL.rf) (.pk (r:=rE201) (.p (.p (.p (.p .l (.p .k (.p .l .l))) (.p (.p .l (.p .k (.p .l .l))) .l)) (.p (.p (.p .k (.p .k (.p .k (.p .l .l)))) (.p .l (.p .l .k))) (.p .k (.p .l .l)))) (.p .k .b)))),trivial⟩),(.q R LnL.rf),trivial⟩),trivial⟩,trivial⟩ (fun _ _ _ _ _ h=>h) R) R (.an R (.seq (.sr (.mv R (.bi R (.ns ?_)))))))))))))))));refine .cc hm R (fun hm=>?_) fun hm=>?_
       ·refine .sr (.lb y6Z R (.op (O.nc .B Z R R) R (.fa y8V R (.st nag4.sz R (.ns (.ret (.seqR ?_)))))));cases hm;exact .rr [0] Tryz.results124 .nil R I3 ⟨⟨_,R,I4⟩,trivial⟩
       ·refine .skip (.seqN ?_);refine .sub (τ:=⟨[(4,.i w),(2,.q 2 0)],[(0,.bx 201 (lx201 c)),(2,.bx 275 [lP 0 0])],3⟩) ?_ [] R;refine bS hm fun D v hm=>?_;refine .drg 3 [(3,[]),(3,[]),(3,[oF,oT]),(3,[oF,oT,oT]),(3,fA 1 (tT 3)),(3,fA 1 (tT 4)),(3,fA 1 (tT 5)),(3,fA 1 (tT 6)),(3,[]),(3,fA 1 (tT 8)),(3,fA 1 (tT 9)),(3,fA 1 (tT 10)),(3,tT 12),(3,tT 13),(3,tT 14)] [_,_,_,_,_,_,_,_,_,_,_,_,_,_,_] ⟨[],[(0,.bx 201 [lF qI c.1.1.1.1,lI c.1.1.1.2.1,lF qI c.1.1.1.2.2.1,lF qT c.1.1.1.2.2.2,lF qI c.1.1.2.1.1,lI c.1.1.2.1.2.1,lF qI c.1.1.2.1.2.2.1,lF qT c.1.1.2.1.2.2.2,lF qI c.1.1.2.2,lI c.1.2.1.1.1,lI c.1.2.1.1.2.1,lI c.1.2.1.1.2.2.1,lF rB c.1.2.1.1.2.2.2.1,lF rE302 c.1.2.1.1.2.2.2.2,lF qI c.1.2.1.2.1,lF qI c.1.2.1.2.2.1,lI c.1.2.1.2.2.2,lI c.1.2.2.1,lF rB c.1.2.2.2.1,lF rB c.1.2.2.2.2,lI D.2.2,lB c.2.2])],3⟩ ⟨O.ld y6Z Z R (.B R) R R,O.ld y6Z Z R (.B R) R R,O.nc .B Z R R,O.faP ybQ Z R R,O.faP y7E Z R R,O.faP y4B Z R R,O.faP y1J Z R R,O.ld nag33 Z R (.B R) R R,O.mv Z R R,O.ix sl33 Z R R v R,O.faE y4Y Z R R,O.ld nag3 Z R (.E lv124) R R,O.nc .B Z R R,O.faP yd8 Z R R,O.st nag3.sz Z R R R R R,trivial⟩ (by kernel_rfl) R ?_;cases hm;exact WX.rt [0] (.inr R) Tryz.results124 .nil R I3 ⟨⟨_,R,I4⟩,trivial⟩
    · intro j;refine .sub (τ:=⟨[(3,.q 1 0),(2,.q 2 0)],[(0,.bx 201 (lx201 c)),(1,.bx 3 [lI p1]),(2,.bx 275 [lP 0 0])],3⟩) ?_ [] R;refine .drP 4 [(3,[]),(3,[oT]),(3,[oT,oT]),(3,tT 3)] [_,_,_,_] ⟨O.ld y6Z Z R (.B R) R R,O.nc .B Z R R,O.faP y8V Z R R,O.ld nag4 Z R (.B R) R R,trivial⟩ fun m=>?_;rcases ifS hm with ⟨e,hm⟩|⟨e,hm⟩
      · skip
        exact .drF m [(3,tT 4),(3,tT 5),(3,tT 6),(3,tT 7),(3,tT 8),(3,tT 9),(3,tT 10),(3,tT 11),(3,tT 5),(3,tT 13),(3,tT 14),(3,tT 15)] [_,_,_,_,_,_,_,_,_,_,_,_] ⟨[(35,.b true),(3,.q 1 0),(2,.q 2 0)],[(0,.bx 201 (lx201 c)),(1,.bx 3 [lI p1]),(2,.bx 275 [lP 0 0])],3⟩ ⟨O.kn (O.mv Z R R) e,O.skip R R R R,O.skip R R R R,O.skip R R R R,O.skip R R R R,O.skip R R R R,O.skip R R R R,O.skip R R R R,O.skip R R R R,O.skip R R R R,O.skip R R R R,O.pkT Z R R R R,trivial⟩ (by kernel_rfl) R ((j _ hm).sub [] R)
      · skip
        exact bS hm fun y u hm=> .drF m [(3,tT 4),(3,tT 5),(3,tT 6),(3,tT 7),(3,tT 8),(3,tT 9),(3,tT 10),(3,tT 11),(3,tT 5),(3,tT 13),(3,tT 14),(3,tT 15)] [_,_,_,_,_,_,_,_,_,_,_,_] ⟨[(35,.b (!y)),(3,.q 1 0),(2,.q 2 0)],[(0,.bx 201 (lx201 c)),(1,.bx 3 [lI p1]),(2,.bx 275 [lP 0 0])],3⟩ ⟨O.kn (O.mv Z R R) e,O.ld y6Z (Gu.mk R R) R (.B R) R R,O.nc .B (Gu.mk R R) R R,O.faP ybQ (Gu.mk R R) R R,O.faP y7E (Gu.mk R R) R R,O.faP y4B (Gu.mk R R) R R,O.faP yT (Gu.mk R R) R R,O.ld nag32 (Gu.mk R R) R (.B R) R R,O.ld nag3 (Gu.mk R R) R (.B R) R R,O.ca0 (yg u) cf104 R R (Gu.mk R R) R R R,O.not (Gu.mk R R) R R,O.pkF Z R R R R,trivial⟩ (by kernel_rfl) R ((j _ hm).sub [] R)
  · intro g;refine .sub (τ:=⟨[(3,.q 2 0),(2,.q 1 0)],[(0,.bx 201 (lx201 p0)),(2,.bx 3 [lI p1]),(1,.bx 275 [lP 0 0])],3⟩) ?_ [] R;refine .drP 5 [(3,[]),(3,[]),(3,[oF,oT]),(3,[oF,oT,oT]),(3,fA 1 (tT 3))] [_,_,_,_,_] ⟨O.ld y6Z Z R (.B R) R R,O.ld y6Z Z R (.B R) R R,O.nc .B Z R R,O.faP y8V Z R R,O.ld nag4 Z R (.B R) R R,trivial⟩ fun s=>?_;rcases ifS hm with ⟨d,hm⟩|⟨d,hm⟩
    · skip
      exact .drH s 3 [(3,fA 1 (tT 4)),(3,fA 1 (tT 5)),(3,fA 1 (tT 6)),(3,fA 1 (tT 7)),(3,fA 1 (tT 5)),(3,fA 1 (tT 9)),(3,fA 1 (tT 10)),(3,fA 1 (tT 11)),(3,tT 13),(3,tT 14),(3,tT 15)] [_,_,_,_,_,_,_,_,_,_,_] ⟨[(3,.q 2 0),(2,.q 1 0)],[(0,.bx 201 [lF qI p0.1.1.1.1,lI p0.1.1.1.2.1,lF qI p0.1.1.1.2.2.1,lF qT p0.1.1.1.2.2.2,lF qI p0.1.1.2.1.1,lI p0.1.1.2.1.2.1,lF qI p0.1.1.2.1.2.2.1,lF qT p0.1.1.2.1.2.2.2,lF qI p0.1.1.2.2,lI p0.1.2.1.1.1,lI p0.1.2.1.1.2.1,lI p0.1.2.1.1.2.2.1,lF rB p0.1.2.1.1.2.2.2.1,lF rE302 p0.1.2.1.1.2.2.2.2,lF qI p0.1.2.1.2.1,lF qI p0.1.2.1.2.2.1,lI p0.1.2.1.2.2.2,lI p0.1.2.2.1,lF rB p0.1.2.2.2.1,lF rB p0.1.2.2.2.2,lI p0.2.1,lB true]),(2,.bx 3 [lI p1]),(1,.bx 275 [lP 0 0])],3⟩ ⟨O.kn (O.mv Z R R) d,O.skip R R R R,O.skip R R R R,O.skip R R R R,O.skip R R R R,O.skip R R R R,O.skip R R R R,O.pkT Z R R R R,O.nc .B Z R R,O.faP y8V Z R R,O.st nag4.sz Z R R R R R,trivial⟩ (by kernel_rfl) R ((g _ hm).sub [(1,2),(2,1)] R)
    · skip
      refine bS hm fun a n hm=>?_;refine .drz 3 [(10,0)] [(3,[],[0],[]),(3,[],[],[]),(3,[oF,oT],[],[]),(3,[oF,oT,oT],[],[]),(3,[oF,oT,oT,oT],[],[]),(3,[oF,oT,oT,oT,oT],[],[]),(3,[oF,oT,oT,oT,oT,oT],[],[]),(3,[oF,oT,oT,oT,oT,oT,oT],[],[]),(3,[oF,oT,oT,oT,oT,oT,oT,oT],[],[]),(3,[oF,oT,oT,oT,oT,oT],[],[]),(3,[oF,oT,oT,oT,oT,oT,oT,oT,oT,oT],[],[]),(3,[oF,oT,oT,oT,oT,oT,oT,oT,oT,oT,oT],[],[]),(3,[oF,oT,oT,oT,oT,oT,oT,oT,oT,oT,oT,oT],[],[]),(3,[oT,oT,oT,oT,oT,oT,oT,oT,oT,oT,oT,oT,oT],[],[]),(3,[oT,oT,oT,oT,oT,oT,oT,oT,oT,oT,oT,oT,oT,oT],[],[]),(3,[oT,oT,oT,oT,oT,oT,oT,oT,oT,oT,oT,oT,oT,oT,oT],[],[])] [_,_,_,_,_,_,_,_,_,_,_,_,_,_,_,_] ⟨[(3,.q 2 0),(2,.q 1 0)],[(0,.bx 201 [lF qI a.2.1.1.1.1,lI a.2.1.1.1.2.1,lF qI a.2.1.1.1.2.2.1,lF qT a.2.1.1.1.2.2.2,lF qI a.2.1.1.2.1.1,lI a.2.1.1.2.1.2.1,lF qI a.2.1.1.2.1.2.2.1,lF qT a.2.1.1.2.1.2.2.2,lF qI a.2.1.1.2.2,lI a.2.1.2.1.1.1,lI a.2.1.2.1.1.2.1,lI a.2.1.2.1.1.2.2.1,lF rB a.2.1.2.1.1.2.2.2.1,lF rE302 a.2.1.2.1.1.2.2.2.2,lF qI a.2.1.2.1.2.1,lF qI a.2.1.2.1.2.2.1,lI a.2.1.2.1.2.2.2,lI a.2.1.2.2.1,lF rB a.2.1.2.2.2.1,lF rB a.2.1.2.2.2.2,lI a.2.2.1,lB (!a.1)]),(2,.bx 3 [lI p1]),(1,.bx 275 [lP 0 0])],3⟩ ⟨O.ld y6Z Z R (.B R) R R,O.ld y6Z Z R (.B R) R R,O.nc .B Z R R,O.faP y8V Z R R,O.ld nag4 Z R (.B R) R R,O.kn (O.mv Z R R) d,O.ld y6Z (Gu.mk R R) R (.B R) R R,O.nc .B (Gu.mk R R) R R,O.faP ybQ (Gu.mk R R) R R,O.ld nag3 (Gu.mk R R) R (.B R) R R,O.ca (r':= .b a.1) [0] [(0,.bx 201 (lx201 a.2))] none (y9w n) cf186 R R (Gu.mk R R) R R R R ⟨⟨_,R,I4⟩,trivial⟩ I3 R,O.not (Gu.mk R R) R R,O.pkF Z R R R R,O.nc .B Z R R,O.faP y8V Z R R,O.st nag4.sz Z R R R R R,trivial⟩ (by kernel_rfl) R ?_;exact(g _ hm).sub [(1,2),(2,1)] R
def y7b(b:List Int)(a:Int×(BenT×Int×Bool)):Option ((Int×(BenT×Int×Bool))⊕(BenT×Int×Bool)):=
 if decide (a.1<(b.length:Int)) then
  (idx b a.1).bind fun d=>
  (y6x a.2 d).bind fun c=>
  some (.inl (W (a.1+1),c))
 else
  some (.inr a.2)
def y7c(p1:List StpT)(a:Int×(BenT×Int×Bool)):Option ((Int×(BenT×Int×Bool))⊕(Unit⊕(Int×Int))):=
 if decide (a.1<(p1.length:Int)) then
  (idx p1 a.1).bind fun c=>
  (y5R c).bind fun d=>
  (iter (y7b d) (0,a.2)).bind fun b=>
  if b.2.2 then
   some (.inr (.inr ((1,a.1))))
  else
   if c.2.2.2.2.2.2 then
    some (.inr (.inr ((2,a.1))))
   else
    if(c.2.2.2.2.2.1 != b.2.1) then
     some (.inr (.inr ((3,a.1))))
    else
     some (.inl (W (a.1+1),b))
 else
  some (.inr (.inl ()))
def y5B(p0:PbT)(p1:List StpT):Option (Int×Int×Bool×Int):=
 (yF p0).bind fun c=>
 if(c != 0) then
  some (0,0,false,c)
 else
  (y6K p1).bind fun d=>
  (y6p d (y5l p0)).bind fun e=>
  if e then
   some (0,0,false,9)
  else
   (iter (y7c p1) (0,(p0,((0,0,0,([]:List Bool),([]:List (Int×Int))),([]:List Int),([]:List Int),0),0,([]:List Bool),([]:List Bool)),0,false)).bind fun b=>
   match b with
   | .inl f=>
    some (0,0,false,0)
   | .inr (a)=>
    some (a.2,a.1,true,0)
theorem y7k{p1:List StpT}{r:Int×Int×Bool×Int}(hm:y5B p0 p1=some r):
    F0 49 [.a (lx37 p0),.f rE100 p1] [] (.tp [.i r.1,.i r.2.1,.b r.2.2.1,.i r.2.2.2]) []:=by
  unfold y5B at hm;refine Fw.mk2 Tryz.func49 Tryz.ntmps49 R (fun C=>?_) R;refine .sr (.bo 0 R (.sa R (.sa R (.sa R (.an R (.seq (.sr (.op (O.lg (l':=(lx37 p0)) ag37 Z R (.B R) R R R) R (bS hm fun W L hm=> .c0 (y6U L) cf62 R (.an R (.sr (.mv R (.bi R (.ns ?_))))))))))))));refine .cc hm R (fun hm=>?_) fun hm=>?_
  ·refine .sr (.mv R (.sa R (.sa R (.sa R (.an R (.ret (.seqR ?_)))))));cases hm;exact .rr [] Tryz.results49 (.tmp R (.tmp R (.tmp R (.tmp R .nil)))) R I3 trivial
  ·refine .skip (.seqN (.seq (.sr (.mv R (bS hm fun U M hm=> .op (O.ca (r':= .h 1) [1] [(0,ROW qI 3 U)] (some 2) (y8B M) cf53 R R Z R R R R ⟨⟨_,R,I4⟩,trivial⟩ I3 R) R (.fz 0 [2] [] R R fB R R (.op (O.mf (args:=(fun (x:Int)=> [.i x])) (res:=(fun (r:Bool)=> .b r)) (m:=(y5l p0)) cf122 (fun x r h=>y9l h) (fun _=>R) R Z R R) R (bS hm fun X N hm=> .op (O.caZ (y9j N) cf106 R R Z R ⟨⟨R,.hr R,trivial⟩,⟨R,LnL.rf⟩,trivial⟩ (fun _ _ _ _ _ h=>h) R) R (.ns ?_)))))))));refine .cc hm R (fun hm=>?_) fun hm=>?_
   ·refine .sr (.sa R (.sa R (.sa R (.an R (.ret (.seqR ?_))))));cases hm;exact .rr [] Tryz.results49 (.tmp R (.tmp R (.tmp R (.tmp R .nil)))) R I3 trivial
   ·refine .skip (.seqN (.sr (.op (O.lg (l':=(lx37 p0)) ag37 Z R .Q R R R) R (.op (O.bu (l:=[lF qI p0.1.1,lI p0.1.2.1,lF qI p0.1.2.2.1,lF qT p0.1.2.2.2,lF qI p0.2.1.1,lI p0.2.1.2.1,lF qI p0.2.1.2.2.1,lF qT p0.2.1.2.2.2,lF qI p0.2.2,lI 0,lI 0,lI 0,lN,lN,lN,lN,lI 0,lI 0,lN,lN]) pl199 R Z R R R) R (.op (O.bu (l:=[lF qI p0.1.1,lI p0.1.2.1,lF qI p0.1.2.2.1,lF qT p0.1.2.2.2,lF qI p0.2.1.1,lI p0.2.1.2.1,lF qI p0.2.1.2.2.1,lF qT p0.2.1.2.2.2,lF qI p0.2.2,lI 0,lI 0,lI 0,lN,lN,lN,lN,lI 0,lI 0,lN,lN,lI 0,lB false]) pl201 R Z R R R) R (.al 2 zz201 R (.st ag201.sz R (.ns (.seq (.sr (.mv R (.ln sl91 R (.mv R (.ns (.block (bS hm fun u v hm=>?_))))))))))))))));refine .cutU (z:= .exit 0) (fun t=> .inl t=u) (fun (t:Unit)=>⟨[],[],0⟩) ?_ fun J=>?_
    · rintro t rfl;dsimp only at hm;refine .blkE (.seqN (.sr (.sa R (.sa R (.sa R (.an R (.ret ?_)))))));cases hm;exact .rr [] Tryz.results49 (.tmp R (.tmp R (.tmp R (.tmp R .nil)))) R I3 trivial
    refine .cutU (z:= .ret) (fun g=> .inr (g)=u) (fun (g:Int×Int)=>⟨[(7,.i 0),(6,.b true),(5,.i g.1),(4,.i g.2)],[],0⟩) ?_ fun n=>?_
    · rintro g rfl;dsimp only at hm;refine .blkR (.seqR ?_);cases hm;exact .rr [] Tryz.results49 (.tmp R (.tmp R (.tmp R (.tmp R .nil)))) R I3 trivial
    refine .cno 2 R (.c .rf (.c .rf (.c .rf (.c .rf (.c .rf (.c .rf (.c .rf (.c .rf (.c .rf (.c .rf (.c .rf (.c .rf (.c (.nf (r:=rB)) (.c (.nf (r:=rE302)) (.c (.nf (r:=qI)) (.c (.nf (r:=qI)) (.c .rf (.c .rf (.c (.nf (r:=rB)) (.c (.nf (r:=rB)) .rf)))))))))))))))))))) R (.iter (fun (d:Int×(BenT×Int×Bool))=>⟨[(27,.i d.1),(26,.i (p1.length:Int)),(25,.f rE100 p1),(8,.q 0 0)],[(0,.bx 201 (lx201 d.2))],1⟩) v [(0,2)] R ?_);intro d S hm H e;unfold y7c at hm;refine .sr (.bi R (.ns (.seq ?_)));refine .cc hm R (fun hm=>?_) fun hm=> .exit (.seqX (.seqX ((J _ (e _ (oi hm).symm)).sub [] R)));refine .skip (.seqN (.seq (.block (.sr (.mv R (bS hm fun k F hm=> .ix sl91 F R (.op (O.lg (l':=(lx100 k)) ag100 Z R (.E lv100) R R R) R (.al 1 zz100 R (.sa R (.st ag100.sz R (.ns (.seq (.sr (.op (O.lg (l':=(lx100 k)) ag100 Z R (.B R) R R R) R (bS hm fun s y hm=> .op (O.ca (r':= .h 2) [2] [(0,ROW qI 3 s)] (some 3) (y7x y) cf123 R R Z R R R R ⟨⟨_,R,I4⟩,trivial⟩ I3 R) R (.op (O.lenH sl32 Z R R R) R (.mv R (.ns (.block (bS hm fun p w hm=>?_))))))))))))))))))));refine .cut1 (z:= .exit 2) p (fun (p:(BenT×Int×Bool))=>⟨[(9,.i d.1),(10,.q 0 0),(27,.i d.1),(26,.i (p1.length:Int)),(25,.f rE100 p1),(8,.q 1 0)],[(0,.bx 100 (lx100 k)),(1,.bx 201 (lx201 p))],2⟩) ?_ fun K=>?_
    · skip
      refine .blkE (.seqN (.block (.sr (.fa y8V R (.lb nag4 R (.an R ?_))))));refine .cc hm R (fun hm=> .sr (.mv R (.sa R (.sa R (.sa R (.an R (.ret (.blkR (.blkR (.seqR (.seqR ((n _ (e _ (oi hm).symm)).sub [] R)))))))))))) fun hm=>?_;refine .sr (.fa yaC R (.lb nag4 R (.an R ?_)));refine .cc hm R (fun hm=> .sr (.mv R (.sa R (.sa R (.sa R (.an R (.ret (.blkR (.blkR (.seqR (.seqR ((n _ (e _ (oi hm).symm)).sub [] R)))))))))))) fun hm=>?_;refine .sr (.fa yaB R (.lb nag3 R (.fa yd8 R (.lb nag3 R (.bi R (.an R ?_))))));exact .cc hm R (fun hm=> .sr (.mv R (.sa R (.sa R (.sa R (.an R (.ret (.blkR (.blkR (.seqR (.seqR ((n _ (e _ (oi hm).symm)).sub [] R)))))))))))) fun hm=> .skip (.blkN (.blkN (.seqN (.reg (.bi R (.mv R (.nil ((H _ (oi hm).symm).sub [(0,1)] R))))))))
    refine .iter (fun (j:Int×(BenT×Int×Bool))=>⟨[(35,.i j.1),(34,.i (s.length:Int)),(33,.h 0),(9,.i d.1),(10,.q 1 0),(27,.i d.1),(26,.i (p1.length:Int)),(25,.f rE100 p1),(8,.q 2 0)],[(0,ROW qI 3 s),(1,.bx 100 (lx100 k)),(2,.bx 201 (lx201 j.2))],3⟩) w [(0,2),(2,0)] R ?_;intro j T hm I G;unfold y7b at hm;refine .sr (.bi R (.ns (.seq ?_)));exact .cc hm R (fun hm=> .skip (.seqN (.seq (.block (.sr (bS hm fun V o hm=> .op (O.ir sl32 Z R R R o R) R (.op (O.ld nag3 Z R (.R R o lv3) R R) R (.an R (.reg (.mv R (bS hm fun P D hm=> .op (O.ca (r':= .tp []) [2] [(0,.bx 201 (lx201 P))] none (y9x D) cf124 R R Z R R R R ⟨⟨_,R,I4⟩,trivial⟩ I3 R) R (.nil (.blkN (.seqN (.reg (.bi R (.mv R (.nil ((I _ (oi hm).symm).sub [] R))))))))))))))))))) fun hm=> .exit (.seqX (.seqX ((K _ (G _ (oi hm).symm)).sub [(0,1),(1,2)] R)))
def y5h :Option Bool:=
 (y4e).bind fun n=>
 (y4U n ([(([]:List Int),([0]:List Int),2)]:List CycT)).bind fun a=>
 (y4e).bind fun o=>
 (y5B o a.1).bind fun c=>
 (y4e).bind fun p=>
 (y4U p ([(([0]:List Int),([]:List Int),2)]:List CycT)).bind fun b=>
 (y4e).bind fun q=>
 (y5B q b.1).bind fun j=>
 (if ((a.2==0)&&((a.1.length:Int)==1)) then
  (idx a.1 0).bind fun m=>
  some m.2.2.2.2.1
 else
  some false).bind fun d=>
 (if d then
  (y6K a.1).bind fun h=>
  (y1h h ([0,2]:List Int)).bind fun i=>
  some i
 else
  some false).bind fun e=>
 (if ((((((e&&(c.2.2.2==0))&&c.2.2.1)&&(c.1==0))&&(c.2.1==1))&&(b.2==0))&&((b.1.length:Int)==1)) then
  (idx b.1 0).bind fun l=>
  some (l.2.2.2.1==(-1))
 else
  some false).bind fun f=>
 (if f then
  (idx b.1 0).bind fun k=>
  some ((k.2.2.1.length:Int)==0)
 else
  some false).bind fun g=>
 some ((g&&(j.2.2.2==0))&&(!j.2.2.1))
theorem y7H{r:Bool}(hm:y5h=some r):
  F0 46 [] [] (.b r) []:=by
 unfold y5h at hm;refine Fw.mk2 Tryz.func46 Tryz.ntmps46 R (fun C=>?_) R;refine .sr (.an R (.sr (bS hm fun r1 a2 hm=> .c0 (y5Q a2) cf118 R (.op (O.bsF (r:=qI) (zs:=([0]:List Int)) bs32 R R Z R R R (.c .k .n) R R R) R (.op (O.bu (l:=[lN,lF qI ([0]:List Int),lI 2]) pl114 R Z R R R) R (.op (O.bsF (r:=rE114) (zs:=([(([]:List Int),([0]:List Int),2)]:List CycT)) bs94 R R Z R R R (.c (.p .n (.p .l .k)) .n) R R R) R (bS hm fun m a3 hm=> .op (O.ca (r':= .tp [.h 0,.i m.2]) [0] [(0,ROW rE100 100 m.1)] (some 1) (y7w a3) cf57 R R Z R R R R ⟨⟨_,R,I4⟩,trivial⟩ I3 R) R (.mv R (.ex R (.ex R (.sa R (.an R (.sr (bS hm fun r3 a4 hm=> .c0 (y5Q a4) cf118 R (.mv R (bS hm fun a a5 hm=> .op (O.caZ (y7k a5) cf49 R R Z R ⟨⟨R,LnL.rf⟩,⟨R,.hr R,trivial⟩,trivial⟩ (fun _ _ _ _ _ h=>h) R) R (.mv R (.ex R (.ex R (.ex R (.ex R (.sa R (.sa R (.sa R (.an R (.seq ?_))))))))))))))))))))))))));refine .reg (bS hm fun r5 a6 hm=> .c0 (y5Q a6) cf118 R (.op (O.bsF (r:=qI) (zs:=([0]:List Int)) bs32 R R Z R R R (.c .k .n) R R R) R (.op (O.bu (l:=[lF qI ([0]:List Int),lN,lI 2]) pl114 R Z R R R) R (.op (O.bsF (r:=rE114) (zs:=([(([0]:List Int),([]:List Int),2)]:List CycT)) bs94 R R Z R R R (.c (.p .l (.p .n .k)) .n) R R R) R (bS hm fun f a7 hm=> .op (O.ca (r':= .tp [.h 1,.i f.2]) [1] [(0,ROW rE100 100 f.1)] (some 2) (y7w a7) cf57 R R Z R R R R ⟨⟨_,R,I4⟩,trivial⟩ I3 R) R (.mv R (.ex R (.ex R (.sa R (.an R (.sr (bS hm fun r7 a8 hm=> .c0 (y5Q a8) cf118 R (.mv R (bS hm fun e a9 hm=> .op (O.caZ (y7k a9) cf49 R R Z R ⟨⟨R,LnL.rf⟩,⟨R,.hr R,trivial⟩,trivial⟩ (fun _ _ _ _ _ h=>h) R) R (.mv R (.ex R (.ex R (.ex R (.ex R (.sa R (.sa R (.sa R (.an R (.sr (.mv R (.bi R (.mv R ?_)))))))))))))))))))))))))));refine .cut 4 (fun (Y:Bool)=>((m.2==0)&&((m.1.length:Int)==1))=Y) (fun Y=>⟨[(51,.b Y),(12,.i e.2.2.2),(11,.b e.2.2.1),(8,.i f.2),(7,.h 1),(6,.i a.2.2.2),(5,.b a.2.2.1),(4,.i a.2.1),(3,.i a.1),(1,.h 0)],[(1,ROW rE100 100 f.1),(0,ROW rE100 100 m.1)],2⟩) ?_ ?_
 ·rintro _ rfl;refine .mv R (bS hm fun a0 eb11 hm=>?_);refine .cut 5 (fun (t:Bool)=>a0=t) (fun t=>⟨[(57,.b t),(12,.i e.2.2.2),(11,.b e.2.2.1),(8,.i f.2),(7,.h 1),(6,.i a.2.2.2),(5,.b a.2.2.1),(4,.i a.2.1),(3,.i a.1),(1,.h 0)],[(1,ROW rE100 100 f.1),(0,ROW rE100 100 m.1)],2⟩) ?_ ?_
  ·rintro _ rfl;refine .mv R (bS hm fun g eb14 hm=>?_);refine .cut 5 (fun (u:Bool)=>g=u) (fun u=>⟨[(63,.b u),(12,.i e.2.2.2),(11,.b e.2.2.1),(8,.i f.2),(7,.h 1),(6,.i a.2.2.2),(5,.b a.2.2.1),(4,.i a.2.1),(3,.i a.1)],[(1,ROW rE100 100 f.1)],3⟩) ?_ ?_
   ·rintro _ rfl;refine .mv R ?_;refine .cut 3 (fun (v:Bool)=>(g&&(a.2.2.2==0))=v) (fun v=>⟨[(67,.b v),(12,.i e.2.2.2),(11,.b e.2.2.1),(8,.i f.2),(7,.h 1),(5,.b a.2.2.1),(4,.i a.2.1),(3,.i a.1)],[(1,ROW rE100 100 f.1)],3⟩) ?_ ?_
    ·rintro _ rfl;refine .mv R ?_;refine .cut 2 (fun (w:Bool)=>((g&&(a.2.2.2==0))&&a.2.2.1)=w) (fun w=>⟨[(70,.b w),(12,.i e.2.2.2),(11,.b e.2.2.1),(8,.i f.2),(7,.h 1),(4,.i a.2.1),(3,.i a.1)],[(1,ROW rE100 100 f.1)],3⟩) ?_ ?_
     ·rintro _ rfl;refine .mv R ?_;refine .cut 3 (fun (x:Bool)=>(((g&&(a.2.2.2==0))&&a.2.2.1)&&(a.1==0))=x) (fun x=>⟨[(74,.b x),(12,.i e.2.2.2),(11,.b e.2.2.1),(8,.i f.2),(7,.h 1),(4,.i a.2.1)],[(1,ROW rE100 100 f.1)],3⟩) ?_ ?_
      ·rintro _ rfl;refine .mv R ?_;refine .cut 3 (fun (y:Bool)=>((((g&&(a.2.2.2==0))&&a.2.2.1)&&(a.1==0))&&(a.2.1==1))=y) (fun y=>⟨[(78,.b y),(12,.i e.2.2.2),(11,.b e.2.2.1),(8,.i f.2),(7,.h 1)],[(1,ROW rE100 100 f.1)],3⟩) ?_ ?_
       ·rintro _ rfl;refine .mv R ?_;refine .cut 3 (fun (z:Bool)=>(((((g&&(a.2.2.2==0))&&a.2.2.1)&&(a.1==0))&&(a.2.1==1))&&(f.2==0))=z) (fun z=>⟨[(82,.b z),(12,.i e.2.2.2),(11,.b e.2.2.1),(7,.h 1)],[(1,ROW rE100 100 f.1)],3⟩) ?_ ?_
        ·rintro _ rfl;refine .mv R ?_;refine .cut 4 (fun (B:Bool)=>((((((g&&(a.2.2.2==0))&&a.2.2.1)&&(a.1==0))&&(a.2.1==1))&&(f.2==0))&&((f.1.length:Int)==1))=B) (fun B=>⟨[(87,.b B),(12,.i e.2.2.2),(11,.b e.2.2.1),(7,.h 1)],[(1,ROW rE100 100 f.1)],3⟩) ?_ ?_
         ·rintro _ rfl;refine .mv R (bS hm fun a1 eb29 hm=>?_);refine .cut 6 (fun (D:Bool)=>a1=D) (fun D=>⟨[(94,.b D),(12,.i e.2.2.2),(11,.b e.2.2.1),(7,.h 1)],[(1,ROW rE100 100 f.1)],3⟩) ?_ ?_
          ·rintro _ rfl;refine .mv R (bS hm fun j eb32 hm=>?_);refine .cut 7 (fun (E:Bool)=>j=E) (fun E=>⟨[(102,.b E),(12,.i e.2.2.2),(11,.b e.2.2.1)],[],3⟩) ?_ ?_
           ·rintro _ rfl;refine .mv R ?_;refine .cut 3 (fun (F:Bool)=>(j&&(e.2.2.2==0))=F) (fun F=>⟨[(106,.b F),(11,.b e.2.2.1)],[],3⟩) ?_ ?_
            ·rintro _ rfl;refine .mv R ?_;refine .cut 3 (fun (G:Bool)=>((j&&(e.2.2.2==0))&&(!e.2.2.1))=G) (fun G=>⟨[(110,.b G)],[],3⟩) ?_ ?_
             ·rintro _ rfl;refine .an R (.ret ?_);cases hm;exact .rr [] Tryz.results46 (.tmp R .nil) R I3 trivial
             ·intro V;rcases Bool.eq_false_or_eq_true (j&&(e.2.2.2==0)) with hc|hc
              ·refine .know (d:=107) R hc ?_;exact .op (O.mv (Gu.mk R R) R R) R (.op (O.not (Gu.mk R R) R R) R (.op (O.pkT Z R R R R) R ((V (!e.2.2.1) (andT hc).symm).sub [] R)))
              ·refine .know (d:=107) R hc ?_;exact .sk R (.sk R (.op (O.pkF Z R R R R) R ((V false (andF hc).symm).sub [] R)))
            ·intro U;rcases Bool.eq_false_or_eq_true j with hc|hc
             ·refine .know (d:=103) R hc ?_;exact .op (O.mv (Gu.mk R R) R R) R (.op (O.bi (Gu.mk R R) R R R R) R (.op (O.pkT Z R R R R) R ((U (e.2.2.2==0) (andT hc).symm).sub [] R)))
             ·refine .know (d:=103) R hc ?_;exact .sk R (.sk R (.op (O.pkF Z R R R R) R ((U false (andF hc).symm).sub [] R)))
           ·intro T;rcases ifS eb32 with ⟨hc,hm⟩|⟨hc,hm⟩
            ·refine .know (d:=95) R hc ?_;exact .op (O.mv (Gu.mk R R) R R) R (bS hm fun b2 o hm=> .op (O.ir sl91 (Gu.mk R R) R R R o R) R (.op (O.faR y8D (Gu.mk R R) R R) R (.op (O.ld nag32 (Gu.mk R R) R (.R R o lv100) R R) R (.op (O.len sl32 (Gu.mk R R) R R) R (.op (O.bi (Gu.mk R R) R R R R) R (.op (O.pkT Z R R R R) R ((T ((b2.2.2.1.length:Int)==0) (oi hm).symm).sub [] R)))))))
            ·refine .know (d:=95) R hc ?_;exact .sk R (.sk R (.sk R (.sk R (.sk R (.sk R (.op (O.pkF Z R R R R) R ((T false (oi hm).symm).sub [] R)))))))
          ·intro S;rcases ifS eb29 with ⟨hc,hm⟩|⟨hc,hm⟩
           ·refine .know (d:=88) R hc ?_;exact .op (O.mv (Gu.mk R R) R R) R (bS hm fun b3 q hm=> .op (O.ir sl91 (Gu.mk R R) R R R q R) R (.op (O.faR y6b (Gu.mk R R) R R) R (.op (O.ld nag3 (Gu.mk R R) R (.R R q lv100) R R) R (.op (O.bi (Gu.mk R R) R R R R) R (.op (O.pkT Z R R R R) R ((S (b3.2.2.2.1==(-1)) (oi hm).symm).sub [] R))))))
           ·refine .know (d:=88) R hc ?_;exact .sk R (.sk R (.sk R (.sk R (.sk R (.op (O.pkF Z R R R R) R ((S false (oi hm).symm).sub [] R))))))
         ·intro Q;rcases Bool.eq_false_or_eq_true (((((g&&(a.2.2.2==0))&&a.2.2.1)&&(a.1==0))&&(a.2.1==1))&&(f.2==0)) with hc|hc
          ·refine .know (d:=83) R hc ?_;exact .op (O.mv (Gu.mk R R) R R) R (.op (O.lenH sl91 (Gu.mk R R) R R R) R (.op (O.bi (Gu.mk R R) R R R R) R (.op (O.pkT Z R R R R) R ((Q ((f.1.length:Int)==1) (andT hc).symm).sub [] R))))
          ·refine .know (d:=83) R hc ?_;exact .sk R (.sk R (.sk R (.op (O.pkF Z R R R R) R ((Q false (andF hc).symm).sub [] R))))
        ·intro P;rcases Bool.eq_false_or_eq_true ((((g&&(a.2.2.2==0))&&a.2.2.1)&&(a.1==0))&&(a.2.1==1)) with hc|hc
         ·refine .know (d:=79) R hc ?_;exact .op (O.mv (Gu.mk R R) R R) R (.op (O.bi (Gu.mk R R) R R R R) R (.op (O.pkT Z R R R R) R ((P (f.2==0) (andT hc).symm).sub [] R)))
         ·refine .know (d:=79) R hc ?_;exact .sk R (.sk R (.op (O.pkF Z R R R R) R ((P false (andF hc).symm).sub [] R)))
       ·intro N;rcases Bool.eq_false_or_eq_true (((g&&(a.2.2.2==0))&&a.2.2.1)&&(a.1==0)) with hc|hc
        ·refine .know (d:=75) R hc ?_;exact .op (O.mv (Gu.mk R R) R R) R (.op (O.bi (Gu.mk R R) R R R R) R (.op (O.pkT Z R R R R) R ((N (a.2.1==1) (andT hc).symm).sub [] R)))
        ·refine .know (d:=75) R hc ?_;exact .sk R (.sk R (.op (O.pkF Z R R R R) R ((N false (andF hc).symm).sub [] R)))
      ·intro M;rcases Bool.eq_false_or_eq_true ((g&&(a.2.2.2==0))&&a.2.2.1) with hc|hc
       ·refine .know (d:=71) R hc ?_;exact .op (O.mv (Gu.mk R R) R R) R (.op (O.bi (Gu.mk R R) R R R R) R (.op (O.pkT Z R R R R) R ((M (a.1==0) (andT hc).symm).sub [] R)))
       ·refine .know (d:=71) R hc ?_;exact .sk R (.sk R (.op (O.pkF Z R R R R) R ((M false (andF hc).symm).sub [] R)))
     ·intro L;rcases Bool.eq_false_or_eq_true (g&&(a.2.2.2==0)) with hc|hc
      ·refine .know (d:=68) R hc ?_;exact .op (O.mv (Gu.mk R R) R R) R (.op (O.pkT Z R R R R) R ((L a.2.2.1 (andT hc).symm).sub [] R))
      ·refine .know (d:=68) R hc ?_;exact .sk R (.op (O.pkF Z R R R R) R ((L false (andF hc).symm).sub [] R))
    ·intro K;rcases Bool.eq_false_or_eq_true g with hc|hc
     ·refine .know (d:=64) R hc ?_;exact .op (O.mv (Gu.mk R R) R R) R (.op (O.bi (Gu.mk R R) R R R R) R (.op (O.pkT Z R R R R) R ((K (a.2.2.2==0) (andT hc).symm).sub [] R)))
     ·refine .know (d:=64) R hc ?_;exact .sk R (.sk R (.op (O.pkF Z R R R R) R ((K false (andF hc).symm).sub [] R)))
   ·intro J;rcases ifS eb14 with ⟨hc,hm⟩|⟨hc,hm⟩
    ·refine .know (d:=58) R hc ?_;exact .op (O.mv (Gu.mk R R) R R) R (bS hm fun b0 W hm=> .op (O.caY (r':= .h 2) [2] [(0,ROW qI 3 b0)] (some 3) (y8B W) cf53 R R (Gu.mk R R) R R ⟨⟨R,.hr R,trivial⟩,trivial⟩ R ⟨.row flr3,trivial⟩ (fun _ _ _ _ h=>h) ⟨⟨_,R,I4⟩,trivial⟩ I3 R) R (.op (O.bsF (r:=qI) (zs:=([0,2]:List Int)) bs32 R R (Gu.mk R R) R R R (.c .k (.c .k .n)) R R R) R (bS hm fun b1 X hm=> .op (O.caZ (y4I X) cf59 R R (Gu.mk R R) R ⟨⟨R,.hr R,trivial⟩,⟨R,LnL.rf⟩,trivial⟩ (fun _ _ _ _ _ h=>h) R) R (.op (O.pkT Z R R R R) R ((J b1 (oi hm).symm).sub [] R)))))
    ·refine .know (d:=58) R hc ?_;exact .sk R (.sk R (.sk R (.sk R (.op (O.pkF Z R R R R) R ((J false (oi hm).symm).sub [] R)))))
  ·intro I;rcases ifS eb11 with ⟨hc,hm⟩|⟨hc,hm⟩
   ·refine .know (d:=52) R hc ?_;exact .op (O.mv (Gu.mk R R) R R) R (bS hm fun b4 s hm=> .op (O.ir sl91 (Gu.mk R R) R R R s R) R (.op (O.faR y7F (Gu.mk R R) R R) R (.op (O.ld nag4 (Gu.mk R R) R (.R R s lv100) R R) R (.op (O.pkT Z R R R R) R ((I b4.2.2.2.2.1 (oi hm).symm).sub [] R)))))
   ·refine .know (d:=52) R hc ?_;exact .sk R (.sk R (.sk R (.sk R (.op (O.pkF Z R R R R) R ((I false (oi hm).symm).sub [] R)))))
 ·intro H;rcases Bool.eq_false_or_eq_true (m.2==0) with hc|hc
  ·refine .know (d:=47) R hc ?_;exact .op (O.mv (Gu.mk R R) R R) R (.op (O.lenH sl91 (Gu.mk R R) R R R) R (.op (O.bi (Gu.mk R R) R R R R) R (.op (O.pkT Z R R R R) R ((H ((m.1.length:Int)==1) (andT hc).symm).sub [] R))))
  ·refine .know (d:=47) R hc ?_;exact .sk R (.sk R (.sk R (.op (O.pkF Z R R R R) R ((H false (andF hc).symm).sub [] R))))
def y3D(p0:((Int×y1I)×(Int×y1I)×Int)×Bool):Option PbT:=
 (y5r p0.1 p0.2).bind fun a=>
 some a
theorem y9m{p0:((Int×y1I)×(Int×y1I)×Int)×Bool}{r:PbT}(hm:y3D p0=some r):
  F0 47 [.a (lx84 p0)] [] (.g [lF qI r.1.1,lI r.1.2.1,lF qI r.1.2.2.1,lF qT r.1.2.2.2,lH 0,lI r.2.1.2.1,lH 1,lH 2,lH 3]) [ROW qI 3 r.2.1.1,ROW qI 3 r.2.1.2.2.1,ROW qT 124 r.2.1.2.2.2,ROW qI 3 r.2.2]:=by
 unfold y3D at hm;refine Fw.mk2 Tryz.func47 Tryz.ntmps47 R (fun C=>?_) R;refine .sr (.bo 0 R (.al 1 zz37 R (.nr (.fa yiH R (.op (O.lg (l':=(lx30 p0.1)) ag30 Z R (.B R) R R R) R (.fa yiI R (.lb nag4 R (bS hm fun b c hm=> .op (O.ca (r':= .g [lF qI b.1.1,lI b.1.2.1,lF qI b.1.2.2.1,lF qT b.1.2.2.2,lH 2,lI b.2.1.2.1,lH 3,lH 4,lH 5]) [2,3,4,5] [(0,ROW qI 3 b.2.1.1),(1,ROW qI 3 b.2.1.2.2.1),(2,ROW qT 124 b.2.1.2.2.2),(3,ROW qI 3 b.2.2)] (some 6) (yaf c) cf16 R R Z R R R R ⟨⟨_,R,I4⟩,⟨_,R,I4⟩,⟨_,R,I4⟩,⟨_,R,I4⟩,trivial⟩ I3 R) R (.st ag37.sz R (.ns (.ret ?_)))))))))));cases hm;exact .rr [2,3,4,5] Tryz.results47 (.cell R R ag37 R .nil) R I3 ⟨⟨_,R,I4⟩,⟨_,R,I4⟩,⟨_,R,I4⟩,⟨_,R,I4⟩,trivial⟩
def y3x(p0:List Int)(p1:Int)(a:Int):Option (Int⊕(Unit⊕Unit)):=
 if decide (a<(p0.length:Int)) then
  (idx p0 a).bind fun b=>
  if(b==p1) then
   some (.inr (.inr (())))
  else
   some (.inl (W (a+1)))
 else
  some (.inr (.inl ()))
def yo(p0:List Int)(p1:Int):Option Bool:=
 (iter (y3x p0 p1) 0).bind fun a=>
 match a with
 | .inl b=>
  some false
 | .inr (c)=>
  some true
theorem yA{p0:List Int}{r:Bool}(hm:yo p0 p1=some r):
  F0 54 [.f qI p0,.i p1] [] (.b r) []:=by
 unfold yo at hm;refine Fw.mk2 Tryz.func54 Tryz.ntmps54 R (fun C=>?_) R;refine .sr (.an R (.seq (.sr (.an R (.block (bS hm fun k g hm=>?_))))));refine .cutU (z:= .exit 0) (fun d=> .inl d=k) (fun (d:Unit)=>⟨[],[],0⟩) ?_ fun K6=>?_
 ·rintro d rfl;dsimp only at hm;refine .blkE (.seqN (.sr (.an R (.ret ?_))));cases hm;exact .rr [] Tryz.results54 (.tmp R .nil) R I3 trivial
 refine .cutU (z:= .ret) (fun e=> .inr (e)=k) (fun (e:Unit)=>⟨[(4,.b true)],[],0⟩) ?_ fun K8=>?_
 ·rintro e rfl;dsimp only at hm;refine .blkR (.seqR ?_);cases hm;exact .rr [] Tryz.results54 (.tmp R .nil) R I3 trivial
 refine .iter (fun (c:Int)=>⟨[(5,.i c),(0,.f qI p0),(1,.i p1)],[],0⟩) g [] R ?_;intro c l hm j a;unfold y3x at hm;refine .seq (.sr (.mv R (.mv R (.ln sl32 R (.bi R (.ns ?_))))));refine .cc hm R (fun hm=>?_) fun hm=> .exit (.seqX (.seqX ((K6 _ (a _ (oi hm).symm)).sub [] R)));refine .skip (.seqN (.seq (.block (.sr (.mv R (.mv R (bS hm fun m h hm=> .ix sl32 h R (.le nag3 lv3 R (.mv R (.bi R (.ns ?_)))))))))));exact .cc hm R (fun hm=> .sr (.an R (.ret (.blkR (.seqR (.seqR ((K8 _ (a _ (oi hm).symm)).sub [] R))))))) fun hm=> .skip (.blkN (.seqN (.reg (.mv R (.bi R (.sa R (.nil ((j _ (oi hm).symm).sub [] R))))))))
def y1Z(a:Int×List Int)(b:List Int):Option ((Int×List Int)⊕(List Int)):=
 some (.inl (W (a.1+1),b))
def y2Y(p0:PbT)(a:Int×List Int):Option ((Int×List Int)⊕(List Int)):=
 if decide (a.1<(p0.2.1.1.length:Int)) then
  (idx p0.2.1.1 a.1).bind fun c=>
  (yo p0.2.2 c).bind fun b=>
  if(!b) then
   (idx p0.2.1.1 a.1).bind fun d=>
   (app a.2 ([d]:List Int)).bind fun e=>
   y1Z a e
  else
   y1Z a a.2
 else
  some (.inr a.2)
def y2Q(p0:PbT):Option (List Int):=
 (iter (y2Y p0) (0,([]:List Int))).bind fun a=>
 some a
theorem y7d{r:List Int}(hm:y2Q p0=some r):
  F0 121 [.a (lx37 p0)] [] (.h 0) [ROW qI 3 r]:=by
 unfold y2Q at hm;refine Fw.mk2 Tryz.func121 Tryz.ntmps121 R (fun C=>?_) R;refine .sr (.bo 0 R (.an R (.sr (.an R (.seq (.sr (.an R (.block (bS hm fun g l hm=>?_)))))))));refine .cut1 (z:= .exit 0) g (fun (g:List Int)=>⟨[(3,.h 0)],[(0,ROW qI 3 g)],1⟩) ?_ fun v=>?_
 ·skip
  refine .blkE (.seqN (.sr (.mv R (.an R (.ret ?_)))));cases hm;exact .rr [0] Tryz.results121 (.tmp R .nil) R I3 ⟨⟨_,R,I4⟩,trivial⟩
 refine .nlg qI 3 3 0 R R (.iter (fun (d:Int×List Int)=>⟨[(4,.i d.1),(3,.h 0),(1,.q 1 0)],[(0,ROW qI 3 d.2),(1,.bx 37 (lx37 p0))],2⟩) l [(0,1),(1,0)] R ?_);intro d j hm u t;unfold y2Y at hm;refine .seq (.sr (.mv R (.fa y4B R (.fa yT R (.lb nag32 R (.ln sl32 R (.bi R (.ns ?_))))))));refine .cc hm R (fun hm=>?_) fun hm=> .exit (.seqX (.seqX ((v _ (t _ (oi hm).symm)).sub [] R)));refine .skip (.seqN ?_);refine .join1 (fun (e:List Int)=>y1Z d e=some j) (fun e=>⟨[(3,.h 0),(4,.i d.1),(1,.q 1 0)],[(0,ROW qI 3 e),(1,.bx 37 (lx37 p0))],2⟩) ?_ ?_
 ·intro e hm;unfold y1Z at hm;exact .reg (.mv R (.bi R (.sa R (.nil ((u _ (oi hm).symm).sub [] R)))))
 ·intro f;refine .block (.seq ?_);refine .sub (τ:=⟨[(4,.i d.1),(3,.h 0),(1,.q 1 0)],[(0,ROW qI 3 d.2),(1,.bx 37 (lx37 p0))],2⟩) ?_ [] R;refine bS hm fun y o hm=>bS hm fun w m hm=>?_;refine .drw [(2,[]),(2,[oT]),(2,[]),(2,[oF,oF,oT]),(2,[oF,oF,oT,oT]),(2,[]),(2,fA 2 (tT 4)),(2,fA 2 (tT 5)),(2,tT 8),(2,tT 9)] [_,_,_,_,_,_,_,_,_,_] ⟨[(22,.b (!w)),(4,.i d.1),(3,.h 0),(1,.q 1 0)],[(0,ROW qI 3 d.2),(1,.bx 37 (lx37 p0))],2⟩ ⟨O.faP y7N Z R R,O.ld nag32 Z R (.B R) R R,O.faP y4B Z R R,O.faP yT Z R R,O.ld nag32 Z R (.B R) R R,O.mv Z R R,O.ix sl32 Z R R o R,O.ld nag3 Z R (.E lv3) R R,O.ca0 (yA m) cf54 R R Z R R R,O.not Z R R,trivial⟩ (by kernel_rfl) R ?_;exact .seqN (.cc hm R (fun hm=> .reg (.mv R (.fa y4B R (.fa yT R (.lb nag32 R (.mv R (bS hm fun x p hm=> .ix sl32 p R (.le nag3 lv3 R (.op (O.bsF (r:=qI) (zs:=([x]:List Int)) bs32 R R Z R R R (.c .k .n) R R R) R (bS hm fun D s hm=> .op (O.ap 2 Tryz.underlying32 el3 R R Z R R (.fr R) s R) R (.sa R (.nil (.blkN ((f _ hm).sub [(0,2)] R)))))))))))))) fun hm=> .skip (.blkN ((f _ hm).sub [] R)))
def y2R(p0:PbT):Option Int:=
 (y7v p0).bind fun a=>
 if(a != 0) then
  some a
 else
  if(p0.1.2.1==0) then
   some 12
  else
   (y2Q p0).bind fun b=>
   (yU p0.2.1 b).bind fun c=>
   some c.2
theorem ya8{r:Int}(hm:y2R p0=some r):
    F0 48 [.a (lx37 p0)] [] (.i r) []:=by
  unfold y2R at hm;refine Fw.mk2 Tryz.func48 Tryz.ntmps48 R (fun C=>?_) R;refine .sr (.bo 0 R (.an R (.seq (.sr (.op (O.lg (l':=(lx37 p0)) ag37 Z R (.B R) R R R) R (bS hm fun g c hm=> .c0 (yaE c) cf119 R (.an R (.sr (.mv R (.bi R (.ns ?_)))))))))));refine .cc hm R (fun hm=>?_) fun hm=>?_
  ·refine .sr (.mv R (.an R (.ret (.seqR ?_))));cases hm;exact .rr [] Tryz.results48 (.tmp R .nil) R I3 trivial
  ·refine .skip (.seqN (.seq (.sr (.fa y3A R (.fa y2S R (.lb nag3 R (.bi R (.ns ?_))))))));refine .cc hm R (fun hm=>?_) fun hm=>?_
   ·refine .sr (.an R (.ret (.seqR ?_)));cases hm;exact .rr [] Tryz.results48 (.tmp R .nil) R I3 trivial
   ·refine .skip (.seqN (.seq ?_));refine .sub (τ:=⟨[(1,.q 0 0)],[(0,.bx 37 (lx37 p0))],1⟩) ?_ [] R;refine bS hm fun f d hm=>bS hm fun b e hm=>?_;refine .drz 7 [(8,6)] [(1,[],[],[]),(1,[oT],[],[]),(1,[],[],[]),(1,[oF,oF,oT],[],[]),(2,[oT,oT,oT,oT],[],[]),(6,[oT,oT,oT,oT,oT],[],[]),(6,[oT,oT,oT,oT,oT,oT],[],[]),(6,[oT,oT,oT,oT,oT,oT],[],[]),(1,[],[],[]),(7,[oT,oT,oT,oT,oT,oT,oT,oF,oT],[],[]),(7,[oT,oT,oT,oT,oT,oT,oT,oT,oT,oT],[],[(8,6)])] [_,_,_,_,_,_,_,_,_,_,_] ⟨[(5,.i b.2)],[],7⟩ ⟨O.faP y4B Z R R,O.lg (l':=(lx35 p0.2.1)) ag35 Z R (.B R) R R R,O.lg (l':=(lx37 p0)) ag37 Z R (.B R) R R R,O.ca (r':= .h 1) [1] [(0,ROW qI 3 f)] (some 2) (y7d d) cf121 R R Z R R R R ⟨⟨_,R,I4⟩,trivial⟩ I3 R,O.caY (r':= .tp [.a [lI b.1.1.1,lI b.1.1.2.1,lI b.1.1.2.2.1,lH 2,lH 3,lH 4,lH 5,lI b.1.2.2.2],.i b.2]) [2,3,4,5] [(0,ROW rB 4 b.1.1.2.2.2.1),(1,ROW rE302 302 b.1.1.2.2.2.2),(2,ROW qI 3 b.1.2.1),(3,ROW qI 3 b.1.2.2.1)] (some 6) (y8e e) cf120 R R Z R R ⟨⟨R,LnL.rf⟩,⟨R,.hr R,trivial⟩,trivial⟩ R ⟨.row flr4,.row yga,.row flr3,.row flr3,trivial⟩ (fun _ _ _ _ h=>h) ⟨⟨_,R,I4⟩,⟨_,R,I4⟩,⟨_,R,I4⟩,⟨_,R,I4⟩,trivial⟩ I3 R,O.mv Z R R,O.ex Z R R R,O.ex Z R R R,O.al 6 R zz193 R Z R,O.st ag193.sz Z R R R R R,O.as Z R R,trivial⟩ (by kernel_rfl) R ?_;refine .seqN (.sr (.mv R (.an R (.ret ?_))));cases hm;exact .rr [] Tryz.results48 (.tmp R .nil) R I3 trivial
def yM(a:Int×Int×Bool×List Int)(d:Int)(b:Bool)(c:List Int):Option ((Int×Int×Bool×List Int)⊕(Int×Bool×List Int)):=
 some (.inl (d,W (a.2.1+1),b,c))
def y3m(p0:PbT×Int×Int×Bool)(p1:List Int)(p2:Int)(a:Int×Int×Bool×List Int):Option ((Int×Int×Bool×List Int)⊕(Int×Bool×List Int)):=
 if decide (a.2.1<(p1.length:Int)) then
  (idx p1 a.2.1).bind fun e=>
  (yq p0.1.1 a.1 e).bind fun b=>
  if decide (b≥0) then
   (idx p1 a.2.1).bind fun f=>
   (app a.2.2.2 ([f]:List Int)).bind fun c=>
   if a.2.2.1 then
    (yq p0.1.1 b p2).bind fun d=>
    yM a b (decide (d≥0)) c
   else
    yM a b false c
  else
   yM a a.1 a.2.2.1 a.2.2.2
 else
  some (.inr (a.1,a.2.2))
def y3e(p0:PbT×Int×Int×Bool)(p1:List Int)(p2:Int):Option (List Int×Bool×(PbT×Int×Int×Bool)):=
 (yq p0.1.1 p0.2.1 p2).bind fun b=>
 (iter (y3m p0 p1 p2) (p0.2.1,0,(decide (b≥0)),([]:List Int))).bind fun a=>
 some (a.2.2,a.2.1,p0.1,a.1,p0.2.2)
theorem y7l{p0:PbT×Int×Int×Bool}{p1:List Int}{p2:Int}{r:List Int×Bool×(PbT×Int×Int×Bool)}(hm:y3e p0 p1 p2=some r):
  Fw Tryz.prog 188 ⟨1,[0]⟩ [.o (lP 0 0),.f qI p1,.i p2] [.bx 206 (lx206 p0)] (.tp [.h 1,.b r.2.1]) [.bx 206 (lx206 r.2.2),ROW qI 3 r.1]:=by
 unfold y3e at hm;refine Fw.mk2 Tryz.func188 Tryz.ntmps188 R (fun C=>?_) R;refine .sr (.sa R (.an R (.seq ?_)));refine .sub (τ:=⟨[(6,.o (lN)),(0,.q 0 0),(1,.f qI p1),(2,.i p2)],[(0,.bx 206 (lx206 p0))],1⟩) ?_ [] R;refine bS hm fun N K hm=>?_;refine .drw [(1,[]),(1,[oT]),(1,[oT,oT]),(1,tT 3),(1,tT 4),(1,[]),(1,[oF,oF,oF,oF,oF,oT]),(1,[oF,oF,oF,oF,oF,oT,oT]),(1,fA 5 (tT 3)),(1,[]),(1,tT 10),(1,tT 11),(1,tT 12)] [_,_,_,_,_,_,_,_,_,_,_,_,_] ⟨[(7,.b (decide (N≥0))),(6,.o (lN)),(0,.q 0 0),(1,.f qI p1),(2,.i p2)],[(0,.bx 206 (lx206 p0))],1⟩ ⟨O.mv Z R R,O.nc .B Z R R,O.faP y6O Z R R,O.faP y3A Z R R,O.lg (l':=(lx35 p0.1.1)) ag35 Z R (.B R) R R R,O.mv Z R R,O.nc .B Z R R,O.faP y8F Z R R,O.ld nag3 Z R (.B R) R R,O.mv Z R R,O.ca0 (yK K) cf55 R R Z R R R,O.bi Z R R R R,O.as Z R R,trivial⟩ (by kernel_rfl) R ?_;refine .seqN (.seq (.sr (.an R (.block (bS hm fun d w hm=>?_)))));refine .cut1 (z:= .exit 0) d (fun (d:Int×Bool×List Int)=>⟨[(7,.b d.2.1),(6,.h 1)],[(0,.bx 206 [lF qI p0.1.1.1,lI p0.1.1.2.1,lF qI p0.1.1.2.2.1,lF qT p0.1.1.2.2.2,lF qI p0.1.2.1.1,lI p0.1.2.1.2.1,lF qI p0.1.2.1.2.2.1,lF qT p0.1.2.1.2.2.2,lF qI p0.1.2.2,lI d.1,lI p0.2.2.1,lB p0.2.2.2]),(1,ROW qI 3 d.2.2)],2⟩) ?_ fun J=>?_
 ·skip
  refine .blkE (.seqN (.sr (.mv R (.mv R (.sa R (.an R (.ret ?_)))))));cases hm;exact .rr [0,1] Tryz.results188 (.tmp R (.tmp R .nil)) R I3 ⟨⟨_,R,I4⟩,⟨_,R,I4⟩,trivial⟩
 refine .nlg qI 3 6 0 R R (.iter (fun (a:Int×Int×Bool×List Int)=>⟨[(8,.i a.2.1),(7,.b a.2.2.1),(6,.h 1),(0,.q 0 0),(1,.f qI p1),(2,.i p2)],[(0,.bx 206 [lF qI p0.1.1.1,lI p0.1.1.2.1,lF qI p0.1.1.2.2.1,lF qT p0.1.1.2.2.2,lF qI p0.1.2.1.1,lI p0.1.2.1.2.1,lF qI p0.1.2.1.2.2.1,lF qT p0.1.2.1.2.2.2,lF qI p0.1.2.2,lI a.1,lI p0.2.2.1,lB p0.2.2.2]),(1,ROW qI 3 a.2.2.2)],2⟩) w [] R ?_);intro a v hm I H;unfold y3m at hm;refine .seq (.sr (.mv R (.mv R (.ln sl32 R (.bi R (.ns ?_))))));refine .cc hm R (fun hm=>?_) fun hm=> .exit (.seqX (.seqX ((J _ (H _ (oi hm).symm)).sub [] R)));refine .skip (.seqN ?_);refine .join3 (fun (p:Int) (j:Bool) (m:List Int)=>yM a p j m=some v) (fun p j m=>⟨[(7,.b j),(6,.h 1),(8,.i a.2.1),(0,.q 0 0),(1,.f qI p1),(2,.i p2)],[(0,.bx 206 [lF qI p0.1.1.1,lI p0.1.1.2.1,lF qI p0.1.1.2.2.1,lF qT p0.1.1.2.2.2,lF qI p0.1.2.1.1,lI p0.1.2.1.2.1,lF qI p0.1.2.1.2.2.1,lF qT p0.1.2.1.2.2.2,lF qI p0.1.2.2,lI p,lI p0.2.2.1,lB p0.2.2.2]),(1,ROW qI 3 m)],2⟩) ?_ ?_
 ·intro p j m hm;unfold yM at hm;exact .reg (.mv R (.bi R (.sa R (.nil ((I _ (oi hm).symm).sub [] R)))))
 ·intro e;refine .block (.seq ?_);refine .sub (τ:=⟨[(8,.i a.2.1),(7,.b a.2.2.1),(6,.h 1),(0,.q 0 0),(1,.f qI p1),(2,.i p2)],[(0,.bx 206 [lF qI p0.1.1.1,lI p0.1.1.2.1,lF qI p0.1.1.2.2.1,lF qT p0.1.1.2.2.2,lF qI p0.1.2.1.1,lI p0.1.2.1.2.1,lF qI p0.1.2.1.2.2.1,lF qT p0.1.2.1.2.2.2,lF qI p0.1.2.2,lI a.1,lI p0.2.2.1,lB p0.2.2.2]),(1,ROW qI 3 a.2.2.2)],2⟩) ?_ [] R;refine bS hm fun P D hm=>bS hm fun s x hm=>?_;refine .drw [(2,[]),(2,[oT]),(2,[oT,oT]),(2,tT 3),(2,tT 4),(2,[]),(2,[oF,oF,oF,oF,oF,oT]),(2,[oF,oF,oF,oF,oF,oT,oT]),(2,fA 5 (tT 3)),(2,[]),(2,[]),(2,[oF,oF,oF,oF,oF,oF,oF,oF,oF,oT,oT]),(2,fA 9 (tT 3)),(2,tT 13),(2,tT 14)] [_,_,_,_,_,_,_,_,_,_,_,_,_,_,_] ⟨[(9,.i s),(8,.i a.2.1),(7,.b a.2.2.1),(6,.h 1),(0,.q 0 0),(1,.f qI p1),(2,.i p2)],[(0,.bx 206 [lF qI p0.1.1.1,lI p0.1.1.2.1,lF qI p0.1.1.2.2.1,lF qT p0.1.1.2.2.2,lF qI p0.1.2.1.1,lI p0.1.2.1.2.1,lF qI p0.1.2.1.2.2.1,lF qT p0.1.2.1.2.2.2,lF qI p0.1.2.2,lI a.1,lI p0.2.2.1,lB p0.2.2.2]),(1,ROW qI 3 a.2.2.2)],2⟩ ⟨O.mv Z R R,O.nc .B Z R R,O.faP y6O Z R R,O.faP y3A Z R R,O.lg (l':=(lx35 p0.1.1)) ag35 Z R (.B R) R R R,O.mv Z R R,O.nc .B Z R R,O.faP y8F Z R R,O.ld nag3 Z R (.B R) R R,O.mv Z R R,O.mv Z R R,O.ix sl32 Z R R D R,O.ld nag3 Z R (.E lv3) R R,O.ca0 (yK x) cf55 R R Z R R R,O.as Z R R,trivial⟩ (by kernel_rfl) R ?_;refine .seqN (.sr (.mv R (.bi R (.ns ?_))));refine .cc hm R (fun hm=>?_) fun hm=> .skip (.blkN ((e _ _ _ hm).sub [] R));refine .sr (.mv R (.mv R (.mv R (.mv R (bS hm fun M F hm=> .ix sl32 F R (.le nag3 lv3 R (.op (O.bsF (r:=qI) (zs:=([M]:List Int)) bs32 R R Z R R R (.c .k .n) R R R) R (bS hm fun u G hm=> .op (O.ap 2 Tryz.underlying32 el3 R R Z R R (.fr R) G R) R (.mv R (.sa R (.op (O.nc .B Z R R) R (.fa y8F R (.st nag3.sz R (.ns ?_))))))))))))));refine .sub (τ:=⟨[(6,.h 2),(8,.i a.2.1),(7,.b a.2.2.1),(0,.q 0 0),(1,.f qI p1),(2,.i p2)],[(0,.bx 206 [lF qI p0.1.1.1,lI p0.1.1.2.1,lF qI p0.1.1.2.2.1,lF qT p0.1.1.2.2.2,lF qI p0.1.2.1.1,lI p0.1.2.1.2.1,lF qI p0.1.2.1.2.2.1,lF qT p0.1.2.1.2.2.2,lF qI p0.1.2.2,lI s,lI p0.2.2.1,lB p0.2.2.2]),(2,ROW qI 3 u)],3⟩) ?_ [] R;refine .drP 1 [(3,[])] [_] ⟨O.mv Z R R,trivial⟩ fun t=>?_;rcases ifS hm with ⟨g,hm⟩|⟨g,hm⟩
  ·skip
   exact bS hm fun L y hm=> .drH t 3 [(3,[oT]),(3,[oT,oT]),(3,tT 3),(3,tT 4),(3,tT 5),(3,tT 6),(3,[oT,oT]),(3,tA 2 (fA 5 (tT 1))),(3,tA 2 (fA 5 (tT 2))),(3,tA 2 (fA 5 (tT 3))),(3,[oT,oT]),(3,tT 12),(3,tT 13),(3,tT 14),(3,tT 15)] [_,_,_,_,_,_,_,_,_,_,_,_,_,_,_] ⟨[(7,.b (decide (L≥0))),(6,.h 2),(8,.i a.2.1),(0,.q 0 0),(1,.f qI p1),(2,.i p2)],[(0,.bx 206 [lF qI p0.1.1.1,lI p0.1.1.2.1,lF qI p0.1.1.2.2.1,lF qT p0.1.1.2.2.2,lF qI p0.1.2.1.1,lI p0.1.2.1.2.1,lF qI p0.1.2.1.2.2.1,lF qT p0.1.2.1.2.2.2,lF qI p0.1.2.2,lI s,lI p0.2.2.1,lB p0.2.2.2]),(2,ROW qI 3 u)],3⟩ ⟨O.kn (O.mv Z R R) g,O.mv (Gu.mk R R) R R,O.nc .B (Gu.mk R R) R R,O.faP y6O (Gu.mk R R) R R,O.faP y3A (Gu.mk R R) R R,O.lg (l':=(lx35 p0.1.1)) ag35 (Gu.mk R R) R (.B R) R R R,O.mv (Gu.mk R R) R R,O.nc .B (Gu.mk R R) R R,O.faP y8F (Gu.mk R R) R R,O.ld nag3 (Gu.mk R R) R (.B R) R R,O.mv (Gu.mk R R) R R,O.ca0 (yK y) cf55 R R (Gu.mk R R) R R R,O.bi (Gu.mk R R) R R R R,O.pkT Z R R R R,O.as Z R R,trivial⟩ (by kernel_rfl) R (.blkN ((e _ _ _ hm).sub [(1,2)] R))
  ·skip
   exact .drH t 3 [(3,[oT]),(3,[oT,oT]),(3,tT 3),(3,tT 4),(3,tT 5),(3,tT 6),(3,[oT,oT]),(3,tA 2 (fA 5 (tT 1))),(3,tA 2 (fA 5 (tT 2))),(3,tA 2 (fA 5 (tT 3))),(3,[oT,oT]),(3,tT 12),(3,tT 13),(3,tT 14),(3,tT 15)] [_,_,_,_,_,_,_,_,_,_,_,_,_,_,_] ⟨[(7,.b false),(6,.h 2),(8,.i a.2.1),(0,.q 0 0),(1,.f qI p1),(2,.i p2)],[(0,.bx 206 [lF qI p0.1.1.1,lI p0.1.1.2.1,lF qI p0.1.1.2.2.1,lF qT p0.1.1.2.2.2,lF qI p0.1.2.1.1,lI p0.1.2.1.2.1,lF qI p0.1.2.1.2.2.1,lF qT p0.1.2.1.2.2.2,lF qI p0.1.2.2,lI s,lI p0.2.2.1,lB p0.2.2.2]),(2,ROW qI 3 u)],3⟩ ⟨O.kn (O.mv Z R R) g,O.skip R R R R,O.skip R R R R,O.skip R R R R,O.skip R R R R,O.skip R R R R,O.skip R R R R,O.skip R R R R,O.skip R R R R,O.skip R R R R,O.skip R R R R,O.skip R R R R,O.skip R R R R,O.pkF Z R R R R,O.as Z R R,trivial⟩ (by kernel_rfl) R (.blkN ((e _ _ _ hm).sub [(1,2)] R))
def yt(a:Int×Bool×Int)(c:Int)(b:Bool):Option ((Int×Bool×Int)⊕(Int×Bool)):=
 some (.inl (c,b,W (a.2.2+1)))
def y2B(p0:PbT×Int×Int×Bool)(p1:List Int)(a:Int×Bool×Int):Option ((Int×Bool×Int)⊕(Int×Bool)):=
 if decide (a.2.2<32) then
  (yo p1 a.2.2).bind fun d=>
  (if (!d) then
   some true
  else
   (yo p0.1.2.1.1 a.2.2).bind fun e=>
   some (!e)).bind fun c=>
  if c then
   yt a a.1 a.2.1
  else
   (yq p0.1.2.1 a.1 a.2.2).bind fun b=>
   if decide (b≥0) then
    yt a b a.2.1
   else
    yt a a.1 true
 else
  some (.inr (a.1,a.2.1))
def y1p(p0:PbT×Int×Int×Bool)(p1:List Int):Option (PbT×Int×Int×Bool):=
 (iter (y2B p0 p1) (p0.2.2.1,p0.2.2.2,0)).bind fun a=>
 some (p0.1,p0.2.1,a)
theorem y5M{p0:PbT×Int×Int×Bool}{p1:List Int}{r:(PbT×Int×Int×Bool)}(hm:y1p p0 p1=some r):
  Fw Tryz.prog 189 ⟨1,[0]⟩ [.o (lP 0 0),.f qI p1] [.bx 206 (lx206 p0)] (.tp []) [.bx 206 (lx206 r)]:=by
 unfold y1p at hm;refine Fw.mk2 Tryz.func189 Tryz.ntmps189 R (fun C=>?_) R;refine .sr (.an R (.block (bS hm fun h n hm=>?_)));refine .cut1 (z:= .exit 0) h (fun (h:Int×Bool)=>⟨[],[(0,.bx 206 [lF qI p0.1.1.1,lI p0.1.1.2.1,lF qI p0.1.1.2.2.1,lF qT p0.1.1.2.2.2,lF qI p0.1.2.1.1,lI p0.1.2.1.2.1,lF qI p0.1.2.1.2.2.1,lF qT p0.1.2.1.2.2.2,lF qI p0.1.2.2,lI p0.2.1,lI h.1,lB h.2])],1⟩) ?_ fun w=>?_
 ·skip
  refine .blkE ?_;cases hm;exact WX.rt [0] (.inr R) Tryz.results189 .nil R I3 ⟨⟨_,R,I4⟩,trivial⟩
 refine .iter (fun (a:Int×Bool×Int)=>⟨[(4,.i a.2.2),(0,.q 0 0),(1,.f qI p1)],[(0,.bx 206 [lF qI p0.1.1.1,lI p0.1.1.2.1,lF qI p0.1.1.2.2.1,lF qT p0.1.1.2.2.2,lF qI p0.1.2.1.1,lI p0.1.2.1.2.1,lF qI p0.1.2.1.2.2.1,lF qT p0.1.2.1.2.2.2,lF qI p0.1.2.2,lI p0.2.1,lI a.1,lB a.2.1])],1⟩) n [] R ?_;intro a k hm v u;unfold y2B at hm;refine .seq (.sr (.mv R (.bi R (.ns ?_))));refine .cc hm R (fun hm=>?_) fun hm=> .exit (.seqX (.seqX ((w _ (u _ (oi hm).symm)).sub [] R)));refine .skip (.seqN ?_);refine .join2 (fun (g:Int) (e:Bool)=>yt a g e=some k) (fun g e=>⟨[(4,.i a.2.2),(0,.q 0 0),(1,.f qI p1)],[(0,.bx 206 [lF qI p0.1.1.1,lI p0.1.1.2.1,lF qI p0.1.1.2.2.1,lF qT p0.1.1.2.2.2,lF qI p0.1.2.1.1,lI p0.1.2.1.2.1,lF qI p0.1.2.1.2.2.1,lF qT p0.1.2.1.2.2.2,lF qI p0.1.2.2,lI p0.2.1,lI g,lB e])],1⟩) ?_ ?_
 ·intro g e hm;unfold yt at hm;exact .reg (.mv R (.bi R (.sa R (.nil ((v _ (oi hm).symm).sub [] R)))))
 ·intro c;refine .block (.seq (.sr (.mv R (.mv R (bS hm fun E p hm=> .c0 (yA p) cf54 R (.op (O.not Z R R) R (.mv R (bS hm fun x eb24 hm=>?_))))))));refine .cut 10 (fun (j:Bool)=>x=j) (fun j=>⟨[(24,.b j),(4,.i a.2.2),(0,.q 0 0),(1,.f qI p1)],[(0,.bx 206 [lF qI p0.1.1.1,lI p0.1.1.2.1,lF qI p0.1.1.2.2.1,lF qT p0.1.1.2.2.2,lF qI p0.1.2.1.1,lI p0.1.2.1.2.1,lF qI p0.1.2.1.2.2.1,lF qT p0.1.2.1.2.2.2,lF qI p0.1.2.2,lI p0.2.1,lI a.1,lB a.2.1])],1⟩) ?_ ?_
  ·rintro _ rfl;refine .ns (.cc hm R (fun hm=> .exit (.seqX (.blkE ((c _ _ hm).sub [] R)))) fun hm=>?_);refine .skip (.seqN (.seq ?_));refine .sub (τ:=⟨[(4,.i a.2.2),(0,.q 0 0),(1,.f qI p1)],[(0,.bx 206 [lF qI p0.1.1.1,lI p0.1.1.2.1,lF qI p0.1.1.2.2.1,lF qT p0.1.1.2.2.2,lF qI p0.1.2.1.1,lI p0.1.2.1.2.1,lF qI p0.1.2.1.2.2.1,lF qT p0.1.2.1.2.2.2,lF qI p0.1.2.2,lI p0.2.1,lI a.1,lB a.2.1])],1⟩) ?_ [] R;refine bS hm fun y s hm=>?_;refine .drw [(1,[]),(1,[oT]),(1,[oT,oT]),(1,tT 3),(1,tT 4),(1,[]),(1,[oF,oF,oF,oF,oF,oT]),(1,[oF,oF,oF,oF,oF,oT,oT]),(1,fA 5 (tT 3)),(1,[]),(1,tT 10),(1,tT 11)] [_,_,_,_,_,_,_,_,_,_,_,_] ⟨[(5,.i y),(4,.i a.2.2),(0,.q 0 0),(1,.f qI p1)],[(0,.bx 206 [lF qI p0.1.1.1,lI p0.1.1.2.1,lF qI p0.1.1.2.2.1,lF qT p0.1.1.2.2.2,lF qI p0.1.2.1.1,lI p0.1.2.1.2.1,lF qI p0.1.2.1.2.2.1,lF qT p0.1.2.1.2.2.2,lF qI p0.1.2.2,lI p0.2.1,lI a.1,lB a.2.1])],1⟩ ⟨O.mv Z R R,O.nc .B Z R R,O.faP y6O Z R R,O.faP y4B Z R R,O.lg (l':=(lx35 p0.1.2.1)) ag35 Z R (.B R) R R R,O.mv Z R R,O.nc .B Z R R,O.faP yaD Z R R,O.ld nag3 Z R (.B R) R R,O.mv Z R R,O.ca0 (yK s) cf55 R R Z R R R,O.as Z R R,trivial⟩ (by kernel_rfl) R ?_;refine .seqN (.sr (.mv R (.bi R (.ns ?_))));exact .cc hm R (fun hm=> .reg (.mv R (.mv R (.op (O.nc .B Z R R) R (.fa yaD R (.st nag3.sz R (.nil (.blkN ((c _ _ hm).sub [] R))))))))) fun hm=> .reg (.mv R (.op (O.nc .B Z R R) R (.fa yf7 R (.st nag4.sz R (.nil (.blkN ((c _ _ hm).sub [] R)))))))
  ·intro m;rcases ifS eb24 with ⟨hc,hm⟩|⟨hc,hm⟩
   ·refine .know (d:=14) R hc ?_;exact .sk R (.sk R (.sk R (.sk R (.sk R (.sk R (.sk R (.sk R (.sk R (.op (O.pkT Z R R R R) R ((m true (oi hm).symm).sub [] R))))))))))
   ·refine .know (d:=14) R hc ?_;exact .op (O.mv (Gu.mk R R) R R) R (.op (O.nc .B (Gu.mk R R) R R) R (.op (O.faP y6O (Gu.mk R R) R R) R (.op (O.faP y4B (Gu.mk R R) R R) R (.op (O.faP yT (Gu.mk R R) R R) R (.op (O.ld nag32 (Gu.mk R R) R (.B R) R R) R (.op (O.mv (Gu.mk R R) R R) R (bS hm fun D t hm=> .op (O.ca0 (yA t) cf54 R R (Gu.mk R R) R R R) R (.op (O.not (Gu.mk R R) R R) R (.op (O.pkF Z R R R R) R ((m (!D) (oi hm).symm).sub [] R))))))))))
def y2s(a:Bool):Option Bool:=
 some a
def y2a(p0:PbT×Int×Int×Bool)(p1:Int):Option Bool:=
 (yq p0.1.1 p0.2.1 p1).bind fun a=>
 if decide (a≥0) then
  (yo p0.1.2.1.1 p1).bind fun b=>
  if(!b) then
   y2s true
  else
   (yq p0.1.2.1 p0.2.2.1 p1).bind fun c=>
   y2s (decide (c≥0))
 else
  y2s false
theorem y8y{p0:PbT×Int×Int×Bool}{r:Bool}(hm:y2a p0 p1=some r):
  F0 190 [.o (lQ 206 (lx206 p0) 0),.i p1] [] (.b r) []:=by
 unfold y2a at hm;refine Fw.mk2 Tryz.func190 Tryz.ntmps190 R (fun C=>?_) R;refine .sr (.an R ?_);refine .join1 (fun (e:Bool)=>y2s e=some r) (fun e=>⟨[(4,.b e)],[],0⟩) ?_ ?_
 ·intro e hm;unfold y2s at hm;refine .ret ?_;cases hm;exact .rr [] Tryz.results190 (.tmp R .nil) R I3 trivial
 ·intro a;refine .sub (τ:=⟨[(0,.o (lQ 206 (lx206 p0) 0)),(1,.i p1)],[],0⟩) ?_ [] R;refine bS hm fun n h hm=> .drP 12 [(0,[]),(0,[oT]),(0,[oT,oT]),(0,tT 3),(0,tT 4),(0,[]),(0,[oF,oF,oF,oF,oF,oT]),(0,[oF,oF,oF,oF,oF,oT,oT]),(0,fA 5 (tT 3)),(0,[]),(0,tT 10),(0,tT 11)] [_,_,_,_,_,_,_,_,_,_,_,_] ⟨O.mv Z R R,O.nc .Q Z R R,O.faQ y6O Z R R,O.faQ y3A Z R R,O.lg (l':=(lx35 p0.1.1)) ag35 Z R .Q R R R,O.mv Z R R,O.nc .Q Z R R,O.faQ y8F Z R R,O.ld nag3 Z R .Q R R,O.mv Z R R,O.ca0 (yK h) cf55 R R Z R R R,O.bi Z R R R R,trivial⟩ fun f=>?_;rcases ifS hm with ⟨c,hm⟩|⟨c,hm⟩
  ·skip
   refine bS hm fun p j hm=> .drX f 22 [(0,tT 12),(0,tT 13),(0,tT 14),(0,tT 15),(0,tT 16),(0,tT 17),(0,tT 18),(0,tT 13),(0,tT 20),(0,tT 21)] [_,_,_,_,_,_,_,_,_,_] ⟨O.kn (O.mv Z R R) c,O.mv (Gu.mk R R) R R,O.nc .Q (Gu.mk R R) R R,O.faQ y6O (Gu.mk R R) R R,O.faQ y4B (Gu.mk R R) R R,O.faQ yT (Gu.mk R R) R R,O.ld nag32 (Gu.mk R R) R .Q R R,O.mv (Gu.mk R R) R R,O.ca0 (yA j) cf54 R R (Gu.mk R R) R R R,O.not (Gu.mk R R) R R,trivial⟩ (by kernel_rfl) fun g=>?_;rcases ifS hm with ⟨d,hm⟩|⟨d,hm⟩
   ·skip
    exact .drF g [(0,tT 22),(0,tT 23),(0,tT 24),(0,tT 25),(0,tT 26),(0,tT 27),(0,tT 23),(0,tA 23 (fA 5 (tT 1))),(0,tA 23 (fA 5 (tT 2))),(0,tA 23 (fA 5 (tT 3))),(0,tT 23),(0,tT 33),(0,tT 34),(0,tT 35),(0,tT 36),(0,tT 37)] [_,_,_,_,_,_,_,_,_,_,_,_,_,_,_,_] ⟨[(4,.b true)],[],0⟩ ⟨O.kn (O.mv (Gu.mk R R) R R) d,O.skip R R R R,O.skip R R R R,O.skip R R R R,O.skip R R R R,O.skip R R R R,O.skip R R R R,O.skip R R R R,O.skip R R R R,O.skip R R R R,O.skip R R R R,O.skip R R R R,O.skip R R R R,O.pkT (Gu.mk R R) R R R R,O.pkT Z R R R R,O.as Z R R,trivial⟩ (by kernel_rfl) R ((a _ hm).sub [] R)
   ·skip
    exact bS hm fun m k hm=> .drF g [(0,tT 22),(0,tT 23),(0,tT 24),(0,tT 25),(0,tT 26),(0,tT 27),(0,tT 23),(0,tA 23 (fA 5 (tT 1))),(0,tA 23 (fA 5 (tT 2))),(0,tA 23 (fA 5 (tT 3))),(0,tT 23),(0,tT 33),(0,tT 34),(0,tT 35),(0,tT 36),(0,tT 37)] [_,_,_,_,_,_,_,_,_,_,_,_,_,_,_,_] ⟨[(4,.b (decide (m≥0)))],[],0⟩ ⟨O.kn (O.mv (Gu.mk R R) R R) d,O.mv (Gu.mk R R) R R,O.nc .Q (Gu.mk R R) R R,O.faQ y6O (Gu.mk R R) R R,O.faQ y4B (Gu.mk R R) R R,O.lg (l':=(lx35 p0.1.2.1)) ag35 (Gu.mk R R) R .Q R R R,O.mv (Gu.mk R R) R R,O.nc .Q (Gu.mk R R) R R,O.faQ yaD (Gu.mk R R) R R,O.ld nag3 (Gu.mk R R) R .Q R R,O.mv (Gu.mk R R) R R,O.ca0 (yK k) cf55 R R (Gu.mk R R) R R R,O.bi (Gu.mk R R) R R R R,O.pkF (Gu.mk R R) R R R R,O.pkT Z R R R R,O.as Z R R,trivial⟩ (by kernel_rfl) R ((a _ hm).sub [] R)
  ·skip
   exact .drF f [(0,tT 12),(0,tT 13),(0,tT 14),(0,tT 15),(0,tT 16),(0,tT 17),(0,tT 18),(0,tT 13),(0,tT 20),(0,tT 21),(0,tT 22),(0,tT 23),(0,tT 24),(0,tT 25),(0,tT 26),(0,tT 27),(0,tT 23),(0,tA 23 (fA 5 (tT 1))),(0,tA 23 (fA 5 (tT 2))),(0,tA 23 (fA 5 (tT 3))),(0,tT 23),(0,tT 33),(0,tT 34),(0,tT 35),(0,tT 36),(0,tT 37)] [_,_,_,_,_,_,_,_,_,_,_,_,_,_,_,_,_,_,_,_,_,_,_,_,_,_] ⟨[(4,.b false)],[],0⟩ ⟨O.kn (O.mv Z R R) c,O.skip R R R R,O.skip R R R R,O.skip R R R R,O.skip R R R R,O.skip R R R R,O.skip R R R R,O.skip R R R R,O.skip R R R R,O.skip R R R R,O.skip R R R R,O.skipU R R R,O.skipU R R R,O.skipU R R R,O.skipU R R R,O.skipU R R R,O.skipU R R R,O.skipU R R R,O.skipU R R R,O.skipU R R R,O.skipU R R R,O.skipU R R R,O.skipU R R R,O.skip R R R R,O.pkF Z R R R R,O.as Z R R,trivial⟩ (by kernel_rfl) R ((a _ hm).sub [] R)
def y1C(e:List Int×Bool×(PbT×Int×Int×Bool))(d:List Int)(a:Int)(b:List Int×Bool×(PbT×Int×Int×Bool))(c:PbT×Int×Int×Bool):Option (StpT×(PbT×Int×Int×Bool)):=
 some ((e.1,b.1,d,a,((decide (a≥0))&&b.2.1),c.2.2),c)
def y1D(a:Int×Int)(b:Int):Option ((Int×Int)⊕Int):=
 some (.inl (W (a.1+1),b))
def y1E(h:(PbT×Int×Int×Bool))(b:List Int)(a:Int×Int):Option ((Int×Int)⊕Int):=
 if((decide (a.1<(b.length:Int)))&&(decide (a.2<0))) then
  (idx b a.1).bind fun e=>
  (if decide (e≥0) then
   (idx b a.1).bind fun g=>
   (y2a h g).bind fun d=>
   some d
  else
   some false).bind fun c=>
  if c then
   (idx b a.1).bind fun f=>
   y1D a f
  else
   y1D a a.2
 else
  some (.inr a.2)
def y1F(p1:CycT)(f:List Int×Bool×(PbT×Int×Int×Bool))(g:(PbT×Int×Int×Bool))(d:List Int)(e:List Int):Option (StpT×(PbT×Int×Int×Bool)):=
 (iter (y1E g e) (0,(-1))).bind fun a=>
 (y3e g p1.2.1 a).bind fun b=>
 (y1p b.2.2 b.1).bind fun c=>
 if((decide (a≥0))&&b.2.1) then
  (yq c.1.1 c.2.1 a).bind fun h=>
  (y1p (c.1,h,c.2.2) ([a]:List Int)).bind fun i=>
  y1C f d a b i
 else
  y1C f d a b c
def y1G(a:Int×List Int)(b:List Int):Option ((Int×List Int)⊕(List Int)):=
 some (.inl (W (a.1+1),b))
def y1H(c:(PbT×Int×Int×Bool))(b:List Int)(a:Int×List Int):Option ((Int×List Int)⊕(List Int)):=
 if decide (a.1<(b.length:Int)) then
  (idx b a.1).bind fun e=>
  (yq c.1.2.1 c.2.2.1 e).bind fun d=>
  if decide (d≥0) then
   (idx b a.1).bind fun f=>
   (app a.2 ([f]:List Int)).bind fun g=>
   y1G a g
  else
   y1G a a.2
 else
  some (.inr a.2)
def y2z(p0:PbT×Int×Int×Bool)(p1:CycT)(p2:List Int)(p3:Bool):Option (StpT×(PbT×Int×Int×Bool)):=
 (y3e p0 p1.1 (-1)).bind fun a=>
 (y1p a.2.2 a.1).bind fun b=>
 (y2Q b.1).bind fun d=>
 (iter (y1H b d) (0,([]:List Int))).bind fun c=>
 if(!p3) then
  y1F p1 a b c ([p1.2.2]:List Int)
 else
  y1F p1 a b c p2
theorem y9n{p0:PbT×Int×Int×Bool}{p1:CycT}{p3:Bool}{r:StpT×(PbT×Int×Int×Bool)}(hm:y2z p0 p1 p2 p3=some r):
  Fw Tryz.prog 125 ⟨1,[0]⟩ [.o (lP 0 0),.a [lF qI p1.1,lF qI p1.2.1,lI p1.2.2],.f qI p2,.b p3] [.bx 206 (lx206 p0)] (.g [lF qI r.1.1,lF qI r.1.2.1,lH 1,lI r.1.2.2.2.1,lB r.1.2.2.2.2.1,lI r.1.2.2.2.2.2.1,lB r.1.2.2.2.2.2.2]) [.bx 206 (lx206 r.2),ROW qI 3 r.1.2.2.1]:=by
 unfold y2z at hm;refine Fw.mk2 Tryz.func125 Tryz.ntmps125 R (fun C=>?_) R;refine .sr (.bo 1 R (.al 2 zz100 R (.nr (.op (O.bu (l:=[lN,lN,lN,lI (-1),lB false,lI 0,lB false]) pl100 R Z R R R) R (.al 3 zz100 R (.st ag100.sz R (.nr (.mv R (.fa yaw R (.lb nag32 R (bS hm fun s b6 hm=> .op (O.ca (r':= .tp [.h 4,.b s.2.1]) [0,4] [(0,.bx 206 (lx206 s.2.2)),(1,ROW qI 3 s.1)] (some 5) (y7l b6) cf188 R R Z R R R R ⟨⟨_,R,I4⟩,⟨_,R,I4⟩,trivial⟩ I3 R) R (.mv R (.ex R (.ex R (.fa y8c R (.st nag32.sz R (.nr (.mv R (.fa y8c R (.lb nag32 R (.fz 4 [25] [3] R R fR R R (bS hm fun v b7 hm=> .op (O.ca (r':= .tp []) [0] [(0,.bx 206 (lx206 v))] none (y5M b7) cf189 R R Z R R R R ⟨⟨_,R,I4⟩,trivial⟩ I3 R) R (.nr (.mv R ?_))))))))))))))))))))))));refine .op (O.nc .B Z R R) R (.fa y6O R (.op (O.lg (l':=(lx37 v.1)) ag37 Z R (.B R) R R R) R (bS hm fun y b8 hm=> .op (O.ca (r':= .h 5) [5] [(0,ROW qI 3 y)] (some 6) (y7d b8) cf121 R R Z R R R R ⟨⟨_,R,I4⟩,trivial⟩ I3 R) R (.an R (.seq (.sr (.an R (.block (bS hm fun p W hm=>?_)))))))));refine .cut1 (z:= .exit 0) p (fun (p:List Int)=>⟨[(9,.q 1 0),(8,.q 3 0),(5,.q 4 0),(0,.q 0 0),(2,.f qI p2),(3,.b p3)],[(0,.bx 206 (lx206 v)),(1,.bx 100 [lF qI s.1,lN,lH 2,lI (-1),lB false,lI 0,lB false]),(2,ROW qI 3 p),(3,.bx 100 [lN,lN,lN,lI 0,lB false,lI 0,lB false]),(4,.bx 114 [lF qI p1.1,lF qI p1.2.1,lI p1.2.2])],5⟩) ?_ fun b3=>?_
 ·skip
  refine .blkE (.seqN ?_);refine .join1 (fun (w:List Int)=>y1F p1 s v p w=some r) (fun w=>⟨[(2,.f qI w),(9,.q 1 0),(8,.q 3 0),(5,.q 4 0),(0,.q 0 0)],[(0,.bx 206 (lx206 v)),(1,.bx 100 [lF qI s.1,lN,lH 2,lI (-1),lB false,lI 0,lB false]),(2,ROW qI 3 p),(3,.bx 100 [lN,lN,lN,lI 0,lB false,lI 0,lB false]),(4,.bx 114 [lF qI p1.1,lF qI p1.2.1,lI p1.2.2])],5⟩) ?_ ?_
  ·intro w hm;unfold y1F at hm;refine .seq (.sr (.an R (.block (bS hm fun e X hm=>?_))));refine .cut1 (z:= .exit 2) e (fun (e:Int)=>⟨[(9,.q 1 0),(8,.q 3 0),(5,.q 4 0),(0,.q 0 0)],[(0,.bx 206 (lx206 v)),(1,.bx 100 [lF qI s.1,lN,lH 2,lI e,lB false,lI 0,lB false]),(2,ROW qI 3 p),(3,.bx 100 [lN,lN,lN,lI 0,lB false,lI 0,lB false]),(4,.bx 114 [lF qI p1.1,lF qI p1.2.1,lI p1.2.2])],5⟩) ?_ fun b4=>?_
   ·skip
    refine .blkE (.seqN (.sr (.an R (.sr (.mv R (.fa yax R (.lb nag32 R (.fa y6b R (.lb nag3 R (bS hm fun j Y hm=> .op (O.ca (r':= .tp [.h 5,.b j.2.1]) [0,5] [(0,.bx 206 (lx206 j.2.2)),(1,ROW qI 3 j.1)] (some 6) (y7l Y) cf188 R R Z R R R R ⟨⟨_,R,I4⟩,⟨_,R,I4⟩,trivial⟩ I3 R) R (.mv R (.ex R (.ex R (.fa y8E R (.st nag32.sz R (.an R (.sr (.fa y6b R (.lb nag3 R (.bi R (.mv R ?_)))))))))))))))))))));refine .cut 2 (fun (M:Bool)=>((decide (e≥0))&&j.2.1)=M) (fun M=>⟨[(111,.b M),(9,.q 1 0),(8,.q 3 0),(0,.q 0 0)],[(0,.bx 206 (lx206 j.2.2)),(1,.bx 100 [lF qI s.1,lH 5,lH 2,lI e,lB false,lI 0,lB false]),(5,ROW qI 3 j.1),(2,ROW qI 3 p),(3,.bx 100 [lN,lN,lN,lI 0,lB false,lI 0,lB false])],6⟩) ?_ ?_
    ·rintro _ rfl;refine .fa y7F R (.st nag4.sz R (.nr (.mv R (.fa y8E R (.lb nag32 R (.fz 5 [115] [1] R R fR R R (bS hm fun u a0 hm=> .op (O.ca (r':= .tp []) [0] [(0,.bx 206 (lx206 u))] none (y5M a0) cf189 R R Z R R R R ⟨⟨_,R,I4⟩,trivial⟩ I3 R) R (.ns ?_))))))));refine .join1 (fun (x:PbT×Int×Int×Bool)=>y1C s p e j x=some r) (fun x=>⟨[(9,.q 1 0),(8,.q 3 0),(0,.q 0 0)],[(0,.bx 206 (lx206 x)),(1,.bx 100 [lF qI s.1,lF qI j.1,lH 2,lI e,lB ((decide (e≥0))&&j.2.1),lI 0,lB false]),(2,ROW qI 3 p),(3,.bx 100 [lN,lN,lN,lI 0,lB false,lI 0,lB false])],4⟩) ?_ ?_
     ·intro x hm;unfold y1C at hm;refine .seq ?_;refine .sub (τ:=⟨[(9,.q 1 0),(8,.q 3 0),(0,.q 0 0)],[(0,.bx 206 (lx206 x)),(1,.bx 100 [lF qI s.1,lF qI j.1,lH 2,lI e,lB ((decide (e≥0))&&j.2.1),lI 0,lB false]),(2,ROW qI 3 p),(3,.bx 100 [lN,lN,lN,lI 0,lB false,lI 0,lB false])],4⟩) ?_ [] R;refine .drz 4 [(9,1)] [(4,[],[],[]),(4,[oT],[],[]),(4,[oT,oT],[],[]),(4,[oT,oT,oT],[],[]),(4,[],[1],[]),(4,[oF,oF,oF,oF,oT],[1],[]),(4,[oF,oF,oF,oF,oT,oT],[1],[]),(4,[oF,oF,oF,oF,oT,oT,oT],[1],[]),(4,[oT,oT,oT,oT],[],[]),(4,[oT,oT,oT,oT,oF,oF,oF,oF,oT],[],[]),(4,[oT,oT,oT,oT,oT,oT,oT,oT,oT,oT],[],[]),(4,[oT,oT,oT,oT,oT,oT,oT,oT,oT,oT,oT],[],[])] [_,_,_,_,_,_,_,_,_,_,_,_] ⟨[(9,.q 1 0),(8,.q 3 0)],[(0,.bx 206 (lx206 x)),(1,.bx 100 [lF qI s.1,lF qI j.1,lH 2,lI e,lB ((decide (e≥0))&&j.2.1),lI x.2.2.1,lB x.2.2.2]),(2,ROW qI 3 p),(3,.bx 100 [lN,lN,lN,lI 0,lB false,lI 0,lB false])],4⟩ ⟨O.mv Z R R,O.nc .B Z R R,O.faP yaD Z R R,O.ld nag3 Z R (.B R) R R,O.mv Z R R,O.nc .B Z R R,O.faP yf7 Z R R,O.ld nag4 Z R (.B R) R R,O.faP yaB Z R R,O.st nag3.sz Z R R R R R,O.faP yaC Z R R,O.st nag4.sz Z R R R R R,trivial⟩ (by kernel_rfl) R ?_;refine .seqN (.sr (.op (O.lg (l':=[lF qI s.1,lF qI j.1,lH 2,lI e,lB ((decide (e≥0))&&j.2.1),lI x.2.2.1,lB x.2.2.2]) ag100 Z R (.B R) R R R) R (.st ag100.sz R (.ns (.ret ?_)))));cases hm;exact .rr [0,2] Tryz.results125 (.cell R R ag100 R .nil) R I3 ⟨⟨_,R,I4⟩,⟨_,R,I4⟩,trivial⟩
     ·intro H;refine .sr (.fa y7F R (.lb nag4 R (.ns ?_)));refine .cc hm R (fun hm=>?_) fun hm=> .skip ((H _ hm).sub [] R);refine .seq ?_;refine .sub (τ:=⟨[(9,.q 1 0),(8,.q 3 0),(0,.q 0 0)],[(0,.bx 206 (lx206 u)),(1,.bx 100 [lF qI s.1,lF qI j.1,lH 2,lI e,lB ((decide (e≥0))&&j.2.1),lI 0,lB false]),(2,ROW qI 3 p),(3,.bx 100 [lN,lN,lN,lI 0,lB false,lI 0,lB false])],6⟩) ?_ [] R;refine bS hm fun b9 a1 hm=>?_;refine .drg 6 [(6,[]),(6,[]),(6,[oF,oT]),(6,[oF,oT,oT]),(6,fA 1 (tT 3)),(6,fA 1 (tT 4)),(6,[]),(6,[oF,oF,oF,oF,oF,oF,oT]),(6,[oF,oF,oF,oF,oF,oF,oT,oT]),(6,fA 6 (tT 3)),(6,[]),(6,[oF,oF,oF,oF,oF,oF,oF,oF,oF,oF,oT]),(6,fA 1 (tT 11)),(6,tT 13),(6,tT 14),(6,tT 15)] [_,_,_,_,_,_,_,_,_,_,_,_,_,_,_,_] ⟨[(9,.q 1 0),(8,.q 3 0),(0,.q 0 0)],[(0,.bx 206 [lF qI u.1.1.1,lI u.1.1.2.1,lF qI u.1.1.2.2.1,lF qT u.1.1.2.2.2,lF qI u.1.2.1.1,lI u.1.2.1.2.1,lF qI u.1.2.1.2.2.1,lF qT u.1.2.1.2.2.2,lF qI u.1.2.2,lI b9,lI u.2.2.1,lB u.2.2.2]),(1,.bx 100 [lF qI s.1,lF qI j.1,lH 2,lI e,lB ((decide (e≥0))&&j.2.1),lI 0,lB false]),(2,ROW qI 3 p),(3,.bx 100 [lN,lN,lN,lI 0,lB false,lI 0,lB false])],6⟩ ⟨O.mv Z R R,O.mv Z R R,O.nc .B Z R R,O.faP y6O Z R R,O.faP y3A Z R R,O.lg (l':=(lx35 u.1.1)) ag35 Z R (.B R) R R R,O.mv Z R R,O.nc .B Z R R,O.faP y8F Z R R,O.ld nag3 Z R (.B R) R R,O.faP y6b Z R R,O.ld nag3 Z R (.B R) R R,O.ca0 (yK a1) cf55 R R Z R R R,O.nc .B Z R R,O.faP y8F Z R R,O.st nag3.sz Z R R R R R,trivial⟩ (by kernel_rfl) R ?_;exact .seqN (.reg (.mv R (.fa y6b R (.lb nag3 R (.op (O.bsF (r:=qI) (zs:=([e]:List Int)) bs32 R R Z R R R (.c .k .n) R R R) R (bS hm fun c0 a2 hm=> .op (O.ca (r':= .tp []) [0] [(0,.bx 206 (lx206 c0))] none (y5M a2) cf189 R R Z R R R R ⟨⟨_,R,I4⟩,trivial⟩ I3 R) R (.nil ((H _ hm).sub [] R))))))))
    ·intro T;rcases Bool.eq_false_or_eq_true (decide (e≥0)) with hc|hc
     ·refine .know (d:=109) R hc ?_;exact .op (O.mv (Gu.mk R R) R R) R (.op (O.pkT Z R R R R) R ((T j.2.1 (andT hc).symm).sub [] R))
     ·refine .know (d:=109) R hc ?_;exact .sk R (.op (O.pkF Z R R R R) R ((T false (andF hc).symm).sub [] R))
   refine .iter (fun (m:Int×Int)=>⟨[(12,.i m.1),(2,.f qI w),(9,.q 1 0),(8,.q 3 0),(5,.q 4 0),(0,.q 0 0)],[(0,.bx 206 (lx206 v)),(1,.bx 100 [lF qI s.1,lN,lH 2,lI m.2,lB false,lI 0,lB false]),(2,ROW qI 3 p),(3,.bx 100 [lN,lN,lN,lI 0,lB false,lI 0,lB false]),(4,.bx 114 [lF qI p1.1,lF qI p1.2.1,lI p1.2.2])],5⟩) X [] R ?_;intro m S hm b2 b0;unfold y1E at hm;refine .seq (.sr (.mv R (.mv R (.ln sl32 R (.bi R (.mv R ?_))))));refine .cut 4 (fun (N:Bool)=>((decide (m.1<(w.length:Int)))&&(decide (m.2<0)))=N) (fun N=>⟨[(75,.b N),(12,.i m.1),(2,.f qI w),(9,.q 1 0),(8,.q 3 0),(5,.q 4 0),(0,.q 0 0)],[(0,.bx 206 (lx206 v)),(1,.bx 100 [lF qI s.1,lN,lH 2,lI m.2,lB false,lI 0,lB false]),(2,ROW qI 3 p),(3,.bx 100 [lN,lN,lN,lI 0,lB false,lI 0,lB false]),(4,.bx 114 [lF qI p1.1,lF qI p1.2.1,lI p1.2.2])],5⟩) ?_ ?_
   ·rintro _ rfl;refine .ns ?_;refine .cc hm R (fun hm=>?_) fun hm=> .exit (.seqX (.seqX ((b4 _ (b0 _ (oi hm).symm)).sub [] R)));refine .skip (.seqN ?_);refine .join1 (fun (F:Int)=>y1D m F=some S) (fun F=>⟨[(12,.i m.1),(2,.f qI w),(9,.q 1 0),(8,.q 3 0),(5,.q 4 0),(0,.q 0 0)],[(0,.bx 206 (lx206 v)),(1,.bx 100 [lF qI s.1,lN,lH 2,lI F,lB false,lI 0,lB false]),(2,ROW qI 3 p),(3,.bx 100 [lN,lN,lN,lI 0,lB false,lI 0,lB false]),(4,.bx 114 [lF qI p1.1,lF qI p1.2.1,lI p1.2.2])],5⟩) ?_ ?_
    ·intro F hm;unfold y1D at hm;exact .reg (.mv R (.bi R (.sa R (.nil ((b2 _ (oi hm).symm).sub [] R)))))
    ·intro I;refine .block (.sr (.mv R (.mv R (bS hm fun c5 a5 hm=> .ix sl32 a5 R (.le nag3 lv3 R (.bi R (.mv R (bS hm fun b5 eb50 hm=>?_))))))));refine .cut 7 (fun (P:Bool)=>b5=P) (fun P=>⟨[(90,.b P),(12,.i m.1),(2,.f qI w),(9,.q 1 0),(8,.q 3 0),(5,.q 4 0),(0,.q 0 0)],[(0,.bx 206 (lx206 v)),(1,.bx 100 [lF qI s.1,lN,lH 2,lI m.2,lB false,lI 0,lB false]),(2,ROW qI 3 p),(3,.bx 100 [lN,lN,lN,lI 0,lB false,lI 0,lB false]),(4,.bx 114 [lF qI p1.1,lF qI p1.2.1,lI p1.2.2])],5⟩) ?_ ?_
     ·rintro _ rfl;exact .ns (.cc hm R (fun hm=> .reg (.mv R (.mv R (bS hm fun c6 a6 hm=> .ix sl32 a6 R (.le nag3 lv3 R (.fa y6b R (.st nag3.sz R (.nil (.blkN ((I _ hm).sub [] R)))))))))) fun hm=> .skip (.blkN ((I _ hm).sub [] R)))
     ·intro V;rcases ifS eb50 with ⟨hc,hm⟩|⟨hc,hm⟩
      ·refine .know (d:=83) R hc ?_;exact .op (O.mv (Gu.mk R R) R R) R (.op (O.mv (Gu.mk R R) R R) R (.op (O.mv (Gu.mk R R) R R) R (bS hm fun c7 a7 hm=> .op (O.ix sl32 (Gu.mk R R) R R a7 R) R (.op (O.ld nag3 (Gu.mk R R) R (.E lv3) R R) R (bS hm fun c1 a3 hm=> .op (O.caZ (y8y a3) cf190 R R (Gu.mk R R) R ⟨⟨R,(.q R LnL.rf),trivial⟩,⟨R,LnL.rf⟩,trivial⟩ (fun _ _ _ _ _ h=>h) R) R (.op (O.pkT Z R R R R) R ((V c1 (oi hm).symm).sub [] R)))))))
      ·refine .know (d:=83) R hc ?_;exact .sk R (.sk R (.sk R (.sk R (.sk R (.sk R (.op (O.pkF Z R R R R) R ((V false (oi hm).symm).sub [] R)))))))
   ·intro U;rcases Bool.eq_false_or_eq_true (decide (m.1<(w.length:Int))) with hc|hc
    ·refine .know (d:=71) R hc ?_;exact .op (O.faP y6b (Gu.mk R R) R R) R (.op (O.ld nag3 (Gu.mk R R) R (.B R) R R) R (.op (O.bi (Gu.mk R R) R R R R) R (.op (O.pkT Z R R R R) R ((U (decide (m.2<0)) (andT hc).symm).sub [] R))))
    ·refine .know (d:=71) R hc ?_;exact .sk R (.sk R (.sk R (.op (O.pkF Z R R R R) R ((U false (andF hc).symm).sub [] R))))
  ·intro G;refine .sr (.mv R (.op (O.not Z R R) R (.ns ?_)));exact .cc hm R (fun hm=> .reg (.fa y8b R (.lb nag3 R (.op (O.bsF (r:=qI) (zs:=([p1.2.2]:List Int)) bs32 R R Z R R R (.c .k .n) R R R) R (.sa R (.nil ((G _ hm).sub [] R))))))) fun hm=> .skip ((G _ hm).sub [] R)
 refine .nlb qI 3 3 2 R R (.iter (fun (t:Int×List Int)=>⟨[(11,.i t.1),(10,.h 1),(9,.q 2 0),(8,.q 4 0),(5,.q 5 0),(0,.q 0 0),(2,.f qI p2),(3,.b p3)],[(0,.bx 206 (lx206 v)),(1,ROW qI 3 y),(2,.bx 100 [lF qI s.1,lN,lH 3,lI (-1),lB false,lI 0,lB false]),(3,ROW qI 3 t.2),(4,.bx 100 [lN,lN,lN,lI 0,lB false,lI 0,lB false]),(5,.bx 114 [lF qI p1.1,lF qI p1.2.1,lI p1.2.2])],6⟩) W [(1,5),(2,3),(3,6),(4,2),(5,1)] R ?_);intro t Q hm b1 a9;unfold y1H at hm;refine .seq (.sr (.mv R (.mv R (.op (O.lenH sl32 Z R R R) R (.bi R (.ns ?_))))));refine .cc hm R (fun hm=>?_) fun hm=> .exit (.seqX (.seqX ((b3 _ (a9 _ (oi hm).symm)).sub [(1,2),(2,3),(3,4),(4,5)] R)));refine .skip (.seqN ?_);refine .join1 (fun (D:List Int)=>y1G t D=some Q) (fun D=>⟨[(11,.i t.1),(10,.h 1),(9,.q 2 0),(8,.q 4 0),(5,.q 5 0),(0,.q 0 0),(2,.f qI p2),(3,.b p3)],[(0,.bx 206 (lx206 v)),(1,ROW qI 3 y),(2,.bx 100 [lF qI s.1,lN,lH 3,lI (-1),lB false,lI 0,lB false]),(3,ROW qI 3 D),(4,.bx 100 [lN,lN,lN,lI 0,lB false,lI 0,lB false]),(5,.bx 114 [lF qI p1.1,lF qI p1.2.1,lI p1.2.2])],6⟩) ?_ ?_
 ·intro D hm;unfold y1G at hm;exact .reg (.mv R (.bi R (.sa R (.nil ((b1 _ (oi hm).symm).sub [] R)))))
 ·intro J;refine .block (.seq ?_);refine .sub (τ:=⟨[(11,.i t.1),(10,.h 1),(9,.q 2 0),(8,.q 4 0),(5,.q 5 0),(0,.q 0 0),(2,.f qI p2),(3,.b p3)],[(0,.bx 206 (lx206 v)),(1,ROW qI 3 y),(2,.bx 100 [lF qI s.1,lN,lH 3,lI (-1),lB false,lI 0,lB false]),(3,ROW qI 3 t.2),(4,.bx 100 [lN,lN,lN,lI 0,lB false,lI 0,lB false]),(5,.bx 114 [lF qI p1.1,lF qI p1.2.1,lI p1.2.2])],6⟩) ?_ [] R;refine bS hm fun c8 K hm=>bS hm fun c2 a4 hm=>?_;refine .drw [(6,[]),(6,[oT]),(6,[oT,oT]),(6,tT 3),(6,tT 4),(6,[]),(6,[oF,oF,oF,oF,oF,oT]),(6,[oF,oF,oF,oF,oF,oT,oT]),(6,fA 5 (tT 3)),(6,[]),(6,[]),(6,[oF,oF,oF,oF,oF,oF,oF,oF,oF,oT,oT]),(6,fA 9 (tT 3)),(6,tT 13),(6,tT 14)] [_,_,_,_,_,_,_,_,_,_,_,_,_,_,_] ⟨[(52,.b (decide (c2≥0))),(11,.i t.1),(10,.h 1),(9,.q 2 0),(8,.q 4 0),(5,.q 5 0),(0,.q 0 0),(2,.f qI p2),(3,.b p3)],[(0,.bx 206 (lx206 v)),(1,ROW qI 3 y),(2,.bx 100 [lF qI s.1,lN,lH 3,lI (-1),lB false,lI 0,lB false]),(3,ROW qI 3 t.2),(4,.bx 100 [lN,lN,lN,lI 0,lB false,lI 0,lB false]),(5,.bx 114 [lF qI p1.1,lF qI p1.2.1,lI p1.2.2])],6⟩ ⟨O.mv Z R R,O.nc .B Z R R,O.faP y6O Z R R,O.faP y4B Z R R,O.lg (l':=(lx35 v.1.2.1)) ag35 Z R (.B R) R R R,O.mv Z R R,O.nc .B Z R R,O.faP yaD Z R R,O.ld nag3 Z R (.B R) R R,O.mv Z R R,O.mv Z R R,O.ir sl32 Z R R R K R,O.ld nag3 Z R (.R R K lv3) R R,O.ca0 (yK a4) cf55 R R Z R R R,O.bi Z R R R R,trivial⟩ (by kernel_rfl) R ?_;refine .seqN ?_;refine .cc hm R (fun hm=>?_) fun hm=> .skip (.blkN ((J _ hm).sub [] R));refine .sub (τ:=⟨[(11,.i t.1),(10,.h 1),(9,.q 2 0),(8,.q 4 0),(5,.q 5 0),(0,.q 0 0),(2,.f qI p2),(3,.b p3)],[(0,.bx 206 (lx206 v)),(1,ROW qI 3 y),(2,.bx 100 [lF qI s.1,lN,lH 3,lI (-1),lB false,lI 0,lB false]),(3,ROW qI 3 t.2),(4,.bx 100 [lN,lN,lN,lI 0,lB false,lI 0,lB false]),(5,.bx 114 [lF qI p1.1,lF qI p1.2.1,lI p1.2.2])],6⟩) ?_ [] R;refine bS hm fun c3 L hm=>bS hm fun c4 a8 hm=>?_;refine .drg 7 [(6,[]),(6,[oT]),(6,[]),(6,[]),(6,[oF,oF,oT,oT]),(6,fA 2 (tT 3)),(6,fA 2 (tT 4)),(6,tT 7),(7,tT 8),(7,tT 9)] [_,_,_,_,_,_,_,_,_,_] ⟨[(11,.i t.1),(10,.h 1),(9,.q 2 0),(8,.q 4 0),(5,.q 5 0),(0,.q 0 0),(2,.f qI p2),(3,.b p3)],[(0,.bx 206 (lx206 v)),(1,ROW qI 3 y),(2,.bx 100 [lF qI s.1,lN,lH 6,lI (-1),lB false,lI 0,lB false]),(6,ROW qI 3 c4),(4,.bx 100 [lN,lN,lN,lI 0,lB false,lI 0,lB false]),(5,.bx 114 [lF qI p1.1,lF qI p1.2.1,lI p1.2.2])],7⟩ ⟨O.faP y8D Z R R,O.ld nag32 Z R (.B R) R R,O.mv Z R R,O.mv Z R R,O.ir sl32 Z R R R L R,O.ld nag3 Z R (.R R L lv3) R R,O.bsF (r:=qI) (zs:=([c3]:List Int)) bs32 R R Z R R R (.c .k .n) R R R,O.ap 6 Tryz.underlying32 el3 R R Z R R (.fr R) a8 R,O.faP y8D Z R R,O.st nag32.sz Z R R R R R,trivial⟩ (by kernel_rfl) R ?_;exact .blkN ((J _ hm).sub [(3,6)] R)
def y3X(p1:List CycT)(p2:List Int)(p3:Bool)(a:Int×(List StpT)×(PbT×Int×Int×Bool)):Option ((Int×(List StpT)×(PbT×Int×Int×Bool))⊕(List StpT)):=
 if decide (a.1<(p1.length:Int)) then
  (idx p1 a.1).bind fun c=>
  (y2z a.2.2 c p2 p3).bind fun b=>
  (app a.2.1 ([b.1]:List StpT)).bind fun d=>
  some (.inl (W (a.1+1),d,b.2))
 else
  some (.inr a.2.1)
def y3L(p0:PbT)(p1:List CycT)(p2:List Int)(p3:Bool):Option (List StpT):=
 (iter (y3X p1 p2 p3) (0,([]:List StpT),p0,0,0,false)).bind fun a=>
 some a
theorem y7I{p1:List CycT}{p3:Bool}{r:(List StpT)}(hm:y3L p0 p1 p2 p3=some r):
  F0 51 [.a (lx37 p0),.f rE114 p1,.f qI p2,.b p3] [] (.h 0) [ROW rE100 100 r]:=by
 unfold y3L at hm;refine Fw.mk2 Tryz.func51 Tryz.ntmps51 R (fun C=>?_) R;refine .sr (.bo 0 R (.an R (.sr (.op (O.lg (l':=(lx37 p0)) ag37 Z R (.B R) R R R) R (.op (O.bu (l:=[lF qI p0.1.1,lI p0.1.2.1,lF qI p0.1.2.2.1,lF qT p0.1.2.2.2,lF qI p0.2.1.1,lI p0.2.1.2.1,lF qI p0.2.1.2.2.1,lF qT p0.2.1.2.2.2,lF qI p0.2.2,lI 0,lI 0,lB false]) pl206 R Z R R R) R (.bo 1 R (.an R (.sr (.an R (.seq (.sr (.an R (.block (bS hm fun j o hm=>?_))))))))))))));refine .cut1 (z:= .exit 0) j (fun (j:(List StpT))=>⟨[(10,.h 0)],[(0,ROW rE100 100 j)],1⟩) ?_ fun x=>?_
 ·skip
  refine .blkE (.seqN (.sr (.mv R (.an R (.ret ?_)))));cases hm;exact .rr [0] Tryz.results51 (.tmp R .nil) R I3 ⟨⟨_,R,I4⟩,trivial⟩
 refine .nlg rE100 100 10 0 R R (.iter (fun (e:Int×(List StpT)×(PbT×Int×Int×Bool))=>⟨[(11,.i e.1),(10,.h 0),(9,.q 1 0),(1,.f rE114 p1),(2,.f qI p2),(3,.b p3)],[(0,ROW rE100 100 e.2.1),(1,.bx 206 (lx206 e.2.2))],2⟩) o [(0,2)] R ?_);intro e y hm w v;unfold y3X at hm;refine .seq (.sr (.mv R (.mv R (.ln sl94 R (.bi R (.ns ?_))))));exact .cc hm R (fun hm=> .skip (.seqN (.seq (.block (.reg (.mv R (.mv R (.mv R (.mv R (bS hm fun m t hm=> .ix sl94 t R (.op (O.lg (l':=[lF qI m.1,lF qI m.2.1,lI m.2.2]) ag114 Z R (.E lv114) R R R) R (.mv R (.mv R (bS hm fun d s hm=> .op (O.ca (r':= .g [lF qI d.1.1,lF qI d.1.2.1,lH 2,lI d.1.2.2.2.1,lB d.1.2.2.2.2.1,lI d.1.2.2.2.2.2.1,lB d.1.2.2.2.2.2.2]) [1,2] [(0,.bx 206 (lx206 d.2)),(1,ROW qI 3 d.1.2.2.1)] (some 3) (y9n s) cf125 R R Z R R R R ⟨⟨_,R,I4⟩,⟨_,R,I4⟩,trivial⟩ I3 R) R (.fz 2 [29] [] R R fR R R (.op (O.bsF (r:=rE100) (zs:=([d.1]:List StpT)) bs91 R R Z R R R (.c (.p .l (.p .l (.p .l (.p .k (.p .b (.p .k .b)))))) .n) R R R) R (bS hm fun D u hm=> .op (O.ap 3 Tryz.underlying91 el100 R R Z R R (.fr R) u R) R (.sa R (.nil (.blkN (.seqN (.reg (.mv R (.bi R (.sa R (.nil ((w _ (oi hm).symm).sub [(0,3)] R))))))))))))))))))))))))))) fun hm=> .exit (.seqX (.seqX ((x _ (v _ (oi hm).symm)).sub [] R)))
def y3f(p0:List StpT)(p1:List StpT)(c:Int):Option (Int⊕(Unit⊕Unit)):=
 if decide (c<(p0.length:Int)) then
  (idx p0 c).bind fun a=>
  (idx p1 c).bind fun b=>
  (y1h a.1 b.1).bind fun f=>
  (if (!f) then
   some true
  else
   (y1h a.2.1 b.2.1).bind fun h=>
   some (!h)).bind fun d=>
  (if d then
   some true
  else
   (y1h a.2.2.1 b.2.2.1).bind fun g=>
   some (!g)).bind fun e=>
  if((((e||(a.2.2.2.1 != b.2.2.2.1))||(a.2.2.2.2.1 != b.2.2.2.2.1))||(a.2.2.2.2.2.1 != b.2.2.2.2.2.1))||(a.2.2.2.2.2.2 != b.2.2.2.2.2.2)) then
   some (.inr (.inr (())))
  else
   some (.inl (W (c+1)))
 else
  some (.inr (.inl ()))
def y1u(p0:List StpT)(p1:List StpT):Option Bool:=
 if((p0.length:Int) != (p1.length:Int)) then
  some false
 else
  (iter (y3f p0 p1) 0).bind fun a=>
  match a with
  | .inl b=>
   some true
  | .inr (c)=>
   some false
theorem y7V{p0:List StpT}{p1:List StpT}{r:Bool}(hm:y1u p0 p1=some r):
    F0 58 [.f rE100 p0,.f rE100 p1] [] (.b r) []:=by
  unfold y1u at hm;refine Fw.mk2 Tryz.func58 Tryz.ntmps58 R (fun C=>?_) R;refine .sr (.an R (.seq (.sr (.mv R (.ln sl91 R (.mv R (.ln sl91 R (.bi R (.ns ?_)))))))));refine .cc hm R (fun hm=>?_) fun hm=>?_
  ·refine .sr (.an R (.ret (.seqR ?_)));cases hm;exact .rr [] Tryz.results58 (.tmp R .nil) R I3 trivial
  ·refine .skip (.seqN (.seq (.sr (.an R (.block (bS hm fun F G hm=>?_))))));refine .cutU (z:= .exit 0) (fun j=> .inl j=F) (fun (j:Unit)=>⟨[],[],0⟩) ?_ fun N=>?_
   · rintro j rfl;dsimp only at hm;refine .blkE (.seqN (.sr (.an R (.ret ?_))));cases hm;exact .rr [] Tryz.results58 (.tmp R .nil) R I3 trivial
   refine .cutU (z:= .ret) (fun k=> .inr (k)=F) (fun (k:Unit)=>⟨[(4,.b false)],[],0⟩) ?_ fun P=>?_
   · rintro k rfl;dsimp only at hm;refine .blkR (.seqR ?_);cases hm;exact .rr [] Tryz.results58 (.tmp R .nil) R I3 trivial
   refine .iter (fun (e:Int)=>⟨[(5,.i e),(0,.f rE100 p0),(1,.f rE100 p1)],[],0⟩) G [] R ?_;intro e U hm M h;unfold y3f at hm;refine .seq (.sr (.mv R (.mv R (.ln sl91 R (.bi R (.ns ?_))))));refine .cc hm R (fun hm=>?_) fun hm=> .exit (.seqX (.seqX ((N _ (h _ (oi hm).symm)).sub [] R)));refine .skip (.seqN (.seq (.block (.seq ?_))));refine .sub (τ:=⟨[(5,.i e),(0,.f rE100 p0),(1,.f rE100 p1)],[],0⟩) ?_ [] R;refine bS hm fun a K hm=>bS hm fun c L hm=>?_;refine .drz 2 [(8,0),(9,1)] [(0,[],[],[]),(0,[],[],[]),(0,[oT,oT],[],[]),(0,[oT,oT,oT],[],[]),(0,[],[],[]),(0,[],[],[]),(0,[oF,oF,oF,oF,oT,oT],[],[]),(0,[oF,oF,oF,oF,oT,oT,oT],[],[]),(0,[],[],[]),(0,[],[],[]),(2,[oT,oT,oT,oT,oF,oF,oF,oF,oT,oT],[],[]),(2,[oT,oT,oT,oT,oT,oT,oT,oT,oT,oT,oT],[],[(8,0)])] [_,_,_,_,_,_,_,_,_,_,_,_] ⟨[(7,.q 1 0),(6,.q 0 0),(5,.i e),(0,.f rE100 p0),(1,.f rE100 p1)],[(1,.bx 100 (lx100 c)),(0,.bx 100 (lx100 a))],2⟩ ⟨O.mv Z R R,O.mv Z R R,O.ix sl91 Z R R K R,O.lg (l':=(lx100 a)) ag100 Z R (.E lv100) R R R,O.mv Z R R,O.mv Z R R,O.ix sl91 Z R R L R,O.lg (l':=(lx100 c)) ag100 Z R (.E lv100) R R R,O.al 0 R zz100 R Z R,O.al 1 R zz100 R Z R,O.st ag100.sz Z R R R R R,O.st ag100.sz Z R R R R R,trivial⟩ (by kernel_rfl) R ?_;refine .seqN (.sr (.fa y8c R (.lb nag32 R (.fa y8c R (.lb nag32 R (bS hm fun V H hm=> .c0 (y4I H) cf59 R (.op (O.not Z R R) R (.mv R (bS hm fun Q eb30 hm=>?_)))))))));refine .cut 7 (fun (m:Bool)=>Q=m) (fun m=>⟨[(40,.b m),(7,.q 1 0),(6,.q 0 0),(5,.i e),(0,.f rE100 p0),(1,.f rE100 p1)],[(1,.bx 100 (lx100 c)),(0,.bx 100 (lx100 a))],2⟩) ?_ ?_
   · rintro _ rfl;refine .mv R (bS hm fun g eb33 hm=>?_);refine .cut 7 (fun (n:Bool)=>g=n) (fun n=>⟨[(48,.b n),(7,.q 1 0),(6,.q 0 0),(5,.i e),(0,.f rE100 p0),(1,.f rE100 p1)],[(1,.bx 100 (lx100 c)),(0,.bx 100 (lx100 a))],2⟩) ?_ ?_
     · rintro _ rfl;refine .mv R ?_;refine .cut 6 (fun (o:Bool)=>(g||(a.2.2.2.1 != c.2.2.2.1))=o) (fun o=>⟨[(55,.b o),(7,.q 1 0),(6,.q 0 0),(5,.i e),(0,.f rE100 p0),(1,.f rE100 p1)],[(1,.bx 100 (lx100 c)),(0,.bx 100 (lx100 a))],2⟩) ?_ ?_
       · rintro _ rfl;refine .mv R ?_;refine .cut 6 (fun (p:Bool)=>((g||(a.2.2.2.1 != c.2.2.2.1))||(a.2.2.2.2.1 != c.2.2.2.2.1))=p) (fun p=>⟨[(62,.b p),(7,.q 1 0),(6,.q 0 0),(5,.i e),(0,.f rE100 p0),(1,.f rE100 p1)],[(1,.bx 100 (lx100 c)),(0,.bx 100 (lx100 a))],2⟩) ?_ ?_
         · rintro _ rfl;refine .mv R ?_;refine .cut 6 (fun (s:Bool)=>(((g||(a.2.2.2.1 != c.2.2.2.1))||(a.2.2.2.2.1 != c.2.2.2.2.1))||(a.2.2.2.2.2.1 != c.2.2.2.2.2.1))=s) (fun s=>⟨[(69,.b s),(7,.q 1 0),(6,.q 0 0),(5,.i e),(0,.f rE100 p0),(1,.f rE100 p1)],[(1,.bx 100 (lx100 c)),(0,.bx 100 (lx100 a))],2⟩) ?_ ?_
           · rintro _ rfl;refine .mv R ?_;refine .cut 6 (fun (t:Bool)=>((((g||(a.2.2.2.1 != c.2.2.2.1))||(a.2.2.2.2.1 != c.2.2.2.2.1))||(a.2.2.2.2.2.1 != c.2.2.2.2.2.1))||(a.2.2.2.2.2.2 != c.2.2.2.2.2.2))=t) (fun t=>⟨[(76,.b t),(5,.i e),(0,.f rE100 p0),(1,.f rE100 p1)],[],2⟩) ?_ ?_
             · rintro _ rfl;exact .ns (.cc hm R (fun hm=> .sr (.an R (.ret (.blkR (.seqR (.seqR ((P _ (h _ (oi hm).symm)).sub [] R))))))) fun hm=> .skip (.blkN (.seqN (.reg (.mv R (.bi R (.sa R (.nil ((M _ (oi hm).symm).sub [] R)))))))))
             · intro D;rcases Bool.eq_false_or_eq_true (((g||(a.2.2.2.1 != c.2.2.2.1))||(a.2.2.2.2.1 != c.2.2.2.2.1))||(a.2.2.2.2.2.1 != c.2.2.2.2.2.1)) with hc|hc
               · refine .know (d:=70) R hc ?_;exact .sk R (.sk R (.sk R (.sk R (.sk R (.op (O.pkT Z R R R R) R ((D true (orT hc).symm).sub [] R))))))
               · refine .know (d:=70) R hc ?_;exact .op (O.faP yaC (Gu.mk R R) R R) R (.op (O.ld nag4 (Gu.mk R R) R (.B R) R R) R (.op (O.faP yaC (Gu.mk R R) R R) R (.op (O.ld nag4 (Gu.mk R R) R (.B R) R R) R (.op (O.bne Tryz.underlying4 (Gu.mk R R) R R R) R (.op (O.pkF Z R R R R) R ((D (a.2.2.2.2.2.2 != c.2.2.2.2.2.2) (orF hc).symm).sub [] R))))))
           · intro y;rcases Bool.eq_false_or_eq_true ((g||(a.2.2.2.1 != c.2.2.2.1))||(a.2.2.2.2.1 != c.2.2.2.2.1)) with hc|hc
             · refine .know (d:=63) R hc ?_;exact .sk R (.sk R (.sk R (.sk R (.sk R (.op (O.pkT Z R R R R) R ((y true (orT hc).symm).sub [] R))))))
             · refine .know (d:=63) R hc ?_;exact .op (O.faP yaB (Gu.mk R R) R R) R (.op (O.ld nag3 (Gu.mk R R) R (.B R) R R) R (.op (O.faP yaB (Gu.mk R R) R R) R (.op (O.ld nag3 (Gu.mk R R) R (.B R) R R) R (.op (O.bi (Gu.mk R R) R R R R) R (.op (O.pkF Z R R R R) R ((y (a.2.2.2.2.2.1 != c.2.2.2.2.2.1) (orF hc).symm).sub [] R))))))
         · intro x;rcases Bool.eq_false_or_eq_true (g||(a.2.2.2.1 != c.2.2.2.1)) with hc|hc
           · refine .know (d:=56) R hc ?_;exact .sk R (.sk R (.sk R (.sk R (.sk R (.op (O.pkT Z R R R R) R ((x true (orT hc).symm).sub [] R))))))
           · refine .know (d:=56) R hc ?_;exact .op (O.faP y7F (Gu.mk R R) R R) R (.op (O.ld nag4 (Gu.mk R R) R (.B R) R R) R (.op (O.faP y7F (Gu.mk R R) R R) R (.op (O.ld nag4 (Gu.mk R R) R (.B R) R R) R (.op (O.bne Tryz.underlying4 (Gu.mk R R) R R R) R (.op (O.pkF Z R R R R) R ((x (a.2.2.2.2.1 != c.2.2.2.2.1) (orF hc).symm).sub [] R))))))
       · intro w;rcases Bool.eq_false_or_eq_true g with hc|hc
         · refine .know (d:=49) R hc ?_;exact .sk R (.sk R (.sk R (.sk R (.sk R (.op (O.pkT Z R R R R) R ((w true (orT hc).symm).sub [] R))))))
         · refine .know (d:=49) R hc ?_;exact .op (O.faP y6b (Gu.mk R R) R R) R (.op (O.ld nag3 (Gu.mk R R) R (.B R) R R) R (.op (O.faP y6b (Gu.mk R R) R R) R (.op (O.ld nag3 (Gu.mk R R) R (.B R) R R) R (.op (O.bi (Gu.mk R R) R R R R) R (.op (O.pkF Z R R R R) R ((w (a.2.2.2.1 != c.2.2.2.1) (orF hc).symm).sub [] R))))))
     · intro v;rcases ifS eb33 with ⟨hc,hm⟩|⟨hc,hm⟩
       · refine .know (d:=41) R hc ?_;exact .sk R (.sk R (.sk R (.sk R (.sk R (.sk R (.op (O.pkT Z R R R R) R ((v true (oi hm).symm).sub [] R)))))))
       · refine .know (d:=41) R hc ?_;exact .op (O.faP y8D (Gu.mk R R) R R) R (.op (O.ld nag32 (Gu.mk R R) R (.B R) R R) R (.op (O.faP y8D (Gu.mk R R) R R) R (.op (O.ld nag32 (Gu.mk R R) R (.B R) R R) R (bS hm fun S I hm=> .op (O.ca0 (y4I I) cf59 R R (Gu.mk R R) R R R) R (.op (O.not (Gu.mk R R) R R) R (.op (O.pkF Z R R R R) R ((v (!S) (oi hm).symm).sub [] R)))))))
   · intro u;rcases ifS eb30 with ⟨hc,hm⟩|⟨hc,hm⟩
     · refine .know (d:=33) R hc ?_;exact .sk R (.sk R (.sk R (.sk R (.sk R (.sk R (.op (O.pkT Z R R R R) R ((u true (oi hm).symm).sub [] R)))))))
     · refine .know (d:=33) R hc ?_;exact .op (O.faP y8E (Gu.mk R R) R R) R (.op (O.ld nag32 (Gu.mk R R) R (.B R) R R) R (.op (O.faP y8E (Gu.mk R R) R R) R (.op (O.ld nag32 (Gu.mk R R) R (.B R) R R) R (bS hm fun T J hm=> .op (O.ca0 (y4I J) cf59 R R (Gu.mk R R) R R R) R (.op (O.not (Gu.mk R R) R R) R (.op (O.pkF Z R R R R) R ((u (!T) (oi hm).symm).sub [] R)))))))
def y4G(p0:List CycT)(a:Int):Option (Int⊕(Unit⊕Unit)):=
 if decide (a<(p0.length:Int)) then
  (idx p0 a).bind fun c=>
  (if decide ((c.1.length:Int)>5) then
   some true
  else
   (idx p0 a).bind fun d=>
   some (decide ((d.2.1.length:Int)>5))).bind fun b=>
  if b then
   some (.inr (.inr (())))
  else
   some (.inl (W (a+1)))
 else
  some (.inr (.inl ()))
def y5G(p0:List CycT):Option Bool:=
 if((decide ((p0.length:Int)>10))&&((decide ((p0.length:Int)<255))||(decide ((p0.length:Int)>258)))) then
  some false
 else
  (iter (y4G p0) 0).bind fun a=>
  match a with
  | .inl b=>
   some true
  | .inr (c)=>
   some false
theorem yaK{p0:List CycT}{r:Bool}(hm:y5G p0=some r):
    F0 61 [.f rE114 p0] [] (.b r) []:=by
  unfold y5G at hm;refine Fw.mk2 Tryz.func61 Tryz.ntmps61 R (fun C=>?_) R;refine .sr (.an R (.seq (.sr (.mv R (.ln sl94 R (.bi R (.mv R ?_)))))));refine .cut 9 (fun (s:Bool)=>((decide ((p0.length:Int)>10))&&((decide ((p0.length:Int)<255))||(decide ((p0.length:Int)>258))))=s) (fun s=>⟨[(16,.b s),(0,.f rE114 p0)],[],0⟩) ?_ ?_
  · rintro _ rfl;refine .ns ?_;refine .cc hm R (fun hm=>?_) fun hm=>?_
    ·refine .sr (.an R (.ret (.seqR ?_)));cases hm;exact .rr [] Tryz.results61 (.tmp R .nil) R I3 trivial
    ·refine .skip (.seqN (.seq (.sr (.an R (.block (bS hm fun m n hm=>?_))))));refine .cutU (z:= .exit 0) (fun e=> .inl e=m) (fun (e:Unit)=>⟨[],[],0⟩) ?_ fun u=>?_
     · rintro e rfl;dsimp only at hm;refine .blkE (.seqN (.sr (.an R (.ret ?_))));cases hm;exact .rr [] Tryz.results61 (.tmp R .nil) R I3 trivial
     refine .cutU (z:= .ret) (fun g=> .inr (g)=m) (fun (g:Unit)=>⟨[(2,.b false)],[],0⟩) ?_ fun v=>?_
     · rintro g rfl;dsimp only at hm;refine .blkR (.seqR ?_);cases hm;exact .rr [] Tryz.results61 (.tmp R .nil) R I3 trivial
     refine .iter (fun (a:Int)=>⟨[(3,.i a),(0,.f rE114 p0)],[],0⟩) n [] R ?_;intro a y hm q c;unfold y4G at hm;refine .seq (.sr (.mv R (.mv R (.ln sl94 R (.bi R (.ns ?_))))));refine .cc hm R (fun hm=>?_) fun hm=> .exit (.seqX (.seqX ((u _ (c _ (oi hm).symm)).sub [] R)));refine .skip (.seqN (.seq (.block (.sr (.mv R (.mv R (bS hm fun B o hm=> .ix sl94 o R (.fe yaw R (.le nag32 lv114 R (.ln sl32 R (.bi R (.mv R (bS hm fun w eb16 hm=>?_)))))))))))));refine .cut 8 (fun (h:Bool)=>w=h) (fun h=>⟨[(38,.b h),(3,.i a),(0,.f rE114 p0)],[],0⟩) ?_ ?_
     · rintro _ rfl;exact .ns (.cc hm R (fun hm=> .sr (.an R (.ret (.blkR (.seqR (.seqR ((v _ (c _ (oi hm).symm)).sub [] R))))))) fun hm=> .skip (.blkN (.seqN (.reg (.mv R (.bi R (.sa R (.nil ((q _ (oi hm).symm).sub [] R)))))))))
     · intro k;rcases ifS eb16 with ⟨hc,hm⟩|⟨hc,hm⟩
       · refine .know (d:=30) R hc ?_;exact .sk R (.sk R (.sk R (.sk R (.sk R (.sk R (.sk R (.op (O.pkT Z R R R R) R ((k true (oi hm).symm).sub [] R))))))))
       · refine .know (d:=30) R hc ?_;exact .op (O.mv (Gu.mk R R) R R) R (.op (O.mv (Gu.mk R R) R R) R (bS hm fun x p hm=> .op (O.ix sl94 (Gu.mk R R) R R p R) R (.op (O.faE yax (Gu.mk R R) R R) R (.op (O.ld nag32 (Gu.mk R R) R (.E lv114) R R) R (.op (O.len sl32 (Gu.mk R R) R R) R (.op (O.bi (Gu.mk R R) R R R R) R (.op (O.pkF Z R R R R) R ((k (decide ((x.2.1.length:Int)>5)) (oi hm).symm).sub [] R))))))))
  · intro t;rcases Bool.eq_false_or_eq_true (decide ((p0.length:Int)>10)) with hc|hc
    · refine .know (d:=7) R hc ?_;refine .op (O.mv (Gu.mk R R) R R) R (.op (O.len sl94 (Gu.mk R R) R R) R (.op (O.bi (Gu.mk R R) R R R R) R (.op (O.mv (Gu.mk R R) R R) R ?_)));refine .cut 4 (fun (j:Bool)=>((decide ((p0.length:Int)<255))||(decide ((p0.length:Int)>258)))=j) (fun j=>⟨[(15,.b j),(7,.b true),(0,.f rE114 p0)],[],0⟩) ?_ ?_
      · rintro _ rfl;exact .op (O.pkT Z R R R R) R ((t ((decide ((p0.length:Int)<255))||(decide ((p0.length:Int)>258))) (andT hc).symm).sub [] R)
      · intro l;rcases Bool.eq_false_or_eq_true (decide ((p0.length:Int)<255)) with hc|hc
        · refine .know (d:=11) R hc ?_;exact .sk R (.sk R (.sk R (.op (O.pkT (Gu.mk R R) R R R R) R ((l true (orT hc).symm).sub [] R))))
        · refine .know (d:=11) R hc ?_;exact .op (O.mv (Gu.mk R R) R R) R (.op (O.len sl94 (Gu.mk R R) R R) R (.op (O.bi (Gu.mk R R) R R R R) R (.op (O.pkF (Gu.mk R R) R R R R) R ((l (decide ((p0.length:Int)>258)) (orF hc).symm).sub [] R))))
    · refine .know (d:=7) R hc ?_;exact .sk R (.sk R (.sk R (.sk R (.op (O.skipU R R R) R (.op (O.skipU R R R) R (.op (O.skipU R R R) R (.sk R (.op (O.pkF Z R R R R) R ((t false (andF hc).symm).sub [] R)))))))))
def y3Y(p0:PbT)(p1:List Int)(a:Int):Option (Int⊕(Unit⊕Int)):=
 if decide (a<(p1.length:Int)) then
  (idx p1 a).bind fun e=>
  (yo p0.1.1 e).bind fun b=>
  if(!b) then
   some (.inr (.inr (9)))
  else
   (idx p1 a).bind fun f=>
   (yo p0.2.2 f).bind fun c=>
   if(!c) then
    some (.inr (.inr (13)))
   else
    (slc p1 0 a).bind fun g=>
    (idx p1 a).bind fun h=>
    (yo g h).bind fun d=>
    if d then
     some (.inr (.inr (8)))
    else
     some (.inl (W (a+1)))
 else
  some (.inr (.inl ()))
def y3M(p0:PbT)(p1:List Int):Option Int:=
 if decide ((p1.length:Int)>3) then
  some 3
 else
  (iter (y3Y p0 p1) 0).bind fun a=>
  match a with
  | .inl c=>
   some 0
  | .inr (b)=>
   some b
theorem y7J{p1:List Int}{r:Int}(hm:y3M p0 p1=some r):
    F0 132 [.a (lx37 p0),.f qI p1] [] (.i r) []:=by
  unfold y3M at hm;refine Fw.mk2 Tryz.func132 Tryz.ntmps132 R (fun C=>?_) R;refine .sr (.bo 0 R (.an R (.seq (.sr (.mv R (.ln sl32 R (.bi R (.ns ?_))))))));refine .cc hm R (fun hm=>?_) fun hm=>?_
  ·refine .sr (.an R (.ret (.seqR ?_)));cases hm;exact .rr [] Tryz.results132 (.tmp R .nil) R I3 trivial
  ·refine .skip (.seqN (.seq (.sr (.an R (.block (bS hm fun j k hm=>?_))))));refine .cutU (z:= .exit 0) (fun h=> .inl h=j) (fun (h:Unit)=>⟨[],[],0⟩) ?_ fun v=>?_
   · rintro h rfl;dsimp only at hm;refine .blkE (.seqN (.sr (.an R (.ret ?_))));cases hm;exact .rr [] Tryz.results132 (.tmp R .nil) R I3 trivial
   refine .cutU (z:= .ret) (fun e=> .inr (e)=j) (fun (e:Int)=>⟨[(4,.i e)],[],0⟩) ?_ fun g=>?_
   · rintro e rfl;dsimp only at hm;refine .blkR (.seqR ?_);cases hm;exact .rr [] Tryz.results132 (.tmp R .nil) R I3 trivial
   refine .iter (fun (c:Int)=>⟨[(5,.i c),(2,.q 0 0),(1,.f qI p1)],[(0,.bx 37 (lx37 p0))],1⟩) k [] R ?_;intro c D hm u d;unfold y3Y at hm;refine .seq (.sr (.mv R (.mv R (.ln sl32 R (.bi R (.ns ?_))))));refine .cc hm R (fun hm=>?_) fun hm=> .exit (.seqX (.seqX ((v _ (d _ (oi hm).symm)).sub [] R)));refine .skip (.seqN (.seq (.block (.block (.seq ?_)))));refine .sub (τ:=⟨[(5,.i c),(2,.q 0 0),(1,.f qI p1)],[(0,.bx 37 (lx37 p0))],1⟩) ?_ [] R;refine bS hm fun F o hm=>bS hm fun w l hm=>?_;refine .drw [(1,[]),(1,[oT]),(1,[oT,oT]),(1,[]),(1,[]),(1,[oF,oF,oF,oT,oT]),(1,fA 3 (tT 3)),(1,tT 7),(1,tT 8),(1,tT 9)] [_,_,_,_,_,_,_,_,_,_] ⟨[(15,.b (!w)),(5,.i c),(2,.q 0 0),(1,.f qI p1)],[(0,.bx 37 (lx37 p0))],1⟩ ⟨O.faP y3A Z R R,O.faP yT Z R R,O.ld nag32 Z R (.B R) R R,O.mv Z R R,O.mv Z R R,O.ix sl32 Z R R o R,O.ld nag3 Z R (.E lv3) R R,O.ca0 (yA l) cf54 R R Z R R R,O.not Z R R,O.as Z R R,trivial⟩ (by kernel_rfl) R ?_;refine .seqN (.cc hm R (fun hm=> .sr (.an R (.ret (.blkR (.blkR (.seqR (.seqR ((g _ (d _ (oi hm).symm)).sub [] R)))))))) fun hm=>(.seq ?_));refine .sub (τ:=⟨[(5,.i c),(2,.q 0 0),(1,.f qI p1)],[(0,.bx 37 (lx37 p0))],1⟩) ?_ [] R;refine bS hm fun G p hm=>bS hm fun x m hm=>?_;refine .drw [(1,[]),(1,[oT]),(1,[]),(1,[]),(1,[oF,oF,oT,oT]),(1,fA 2 (tT 3)),(1,tT 6),(1,tT 7),(1,tT 8)] [_,_,_,_,_,_,_,_,_] ⟨[(25,.b (!x)),(5,.i c),(2,.q 0 0),(1,.f qI p1)],[(0,.bx 37 (lx37 p0))],1⟩ ⟨O.faP y7N Z R R,O.ld nag32 Z R (.B R) R R,O.mv Z R R,O.mv Z R R,O.ix sl32 Z R R p R,O.ld nag3 Z R (.E lv3) R R,O.ca0 (yA m) cf54 R R Z R R R,O.not Z R R,O.as Z R R,trivial⟩ (by kernel_rfl) R ?_;refine .seqN (.cc hm R (fun hm=> .sr (.an R (.ret (.blkR (.blkR (.seqR (.seqR ((g _ (d _ (oi hm).symm)).sub [] R)))))))) fun hm=>(.seq ?_));refine .sub (τ:=⟨[(5,.i c),(2,.q 0 0),(1,.f qI p1)],[(0,.bx 37 (lx37 p0))],1⟩) ?_ [] R;refine bS hm fun H s hm=>bS hm fun I t hm=>bS hm fun y n hm=>?_;refine .drw [(1,[]),(1,[]),(1,[oT,oT]),(1,[]),(1,[]),(1,[oF,oF,oF,oT,oT]),(1,fA 3 (tT 3)),(1,tT 7),(1,tT 8)] [_,_,_,_,_,_,_,_,_] ⟨[(34,.b y),(5,.i c),(2,.q 0 0),(1,.f qI p1)],[(0,.bx 37 (lx37 p0))],1⟩ ⟨O.mv Z R R,O.mv Z R R,O.sh sl32 Z R R s R,O.mv Z R R,O.mv Z R R,O.ix sl32 Z R R t R,O.ld nag3 Z R (.E lv3) R R,O.ca0 (yA n) cf54 R R Z R R R,O.as Z R R,trivial⟩ (by kernel_rfl) R ?_;exact .seqN (.cc hm R (fun hm=> .sr (.an R (.ret (.blkR (.blkR (.seqR (.seqR ((g _ (d _ (oi hm).symm)).sub [] R)))))))) fun hm=> .skip (.blkN (.blkN (.seqN (.reg (.mv R (.bi R (.sa R (.nil ((u _ (oi hm).symm).sub [] R))))))))))
def y1l(a:Int):Option (Int⊕(Unit⊕Int)):=
 some (.inl (W (a+1)))
def y2t(p0:PbT)(p1:List CycT)(a:Int):Option (Int⊕(Unit⊕Int)):=
 if decide (a<(p1.length:Int)) then
  (idx p1 a).bind fun g=>
  (y3M p0 g.1).bind fun c=>
  if(c != 0) then
   some (.inr (.inr (c)))
  else
   (idx p1 a).bind fun h=>
   (y3M p0 h.2.1).bind fun d=>
   if(d != 0) then
    some (.inr (.inr (d)))
   else
    (idx p1 a).bind fun b=>
    if(b.2.2==(-1)) then
     y1l a
    else
     (yo p0.1.1 b.2.2).bind fun e=>
     if(!e) then
      some (.inr (.inr (9)))
     else
      (yo p0.2.2 b.2.2).bind fun f=>
      if f then
       some (.inr (.inr (13)))
      else
       y1l a
 else
  some (.inr (.inl ()))
def y2Z(p0:PbT)(p1:List CycT):Option Int:=
 if decide ((p1.length:Int)>256) then
  some 3
 else
  (iter (y2t p0 p1) 0).bind fun a=>
  match a with
  | .inl c=>
   some 0
  | .inr (b)=>
   some b
theorem y8z{p1:List CycT}{r:Int}(hm:y2Z p0 p1=some r):
    F0 63 [.a (lx37 p0),.f rE114 p1] [] (.i r) []:=by
  unfold y2Z at hm;refine Fw.mk2 Tryz.func63 Tryz.ntmps63 R (fun C=>?_) R;refine .sr (.bo 0 R (.an R (.seq (.sr (.mv R (.ln sl94 R (.bi R (.ns ?_))))))));refine .cc hm R (fun hm=>?_) fun hm=>?_
  ·refine .sr (.an R (.ret (.seqR ?_)));cases hm;exact .rr [] Tryz.results63 (.tmp R .nil) R I3 trivial
  ·refine .skip (.seqN (.seq (.sr (.an R (.block (bS hm fun k m hm=>?_))))));refine .cutU (z:= .exit 0) (fun h=> .inl h=k) (fun (h:Unit)=>⟨[],[],0⟩) ?_ fun x=>?_
   · rintro h rfl;dsimp only at hm;refine .blkE (.seqN (.sr (.an R (.ret ?_))));cases hm;exact .rr [] Tryz.results63 (.tmp R .nil) R I3 trivial
   refine .cutU (z:= .ret) (fun e=> .inr (e)=k) (fun (e:Int)=>⟨[(4,.i e)],[],0⟩) ?_ fun d=>?_
   · rintro e rfl;dsimp only at hm;refine .blkR (.seqR ?_);cases hm;exact .rr [] Tryz.results63 (.tmp R .nil) R I3 trivial
   refine .iter (fun (b:Int)=>⟨[(5,.i b),(2,.q 0 0),(1,.f rE114 p1)],[(0,.bx 37 (lx37 p0))],1⟩) m [] R ?_;intro b j hm w c;unfold y2t at hm;refine .seq (.sr (.mv R (.mv R (.ln sl94 R (.bi R (.ns ?_))))));refine .cc hm R (fun hm=>?_) fun hm=> .exit (.seqX (.seqX ((x _ (c _ (oi hm).symm)).sub [] R)));refine .skip (.seqN ?_);refine .join0 (y1l b=some j) (⟨[(5,.i b),(2,.q 0 0),(1,.f rE114 p1)],[(0,.bx 37 (lx37 p0))],1⟩) ?_ ?_
   · intro hm;unfold y1l at hm;exact .reg (.mv R (.bi R (.sa R (.nil ((w _ (oi hm).symm).sub [] R)))))
   · intro g;refine .block (.seq (.seq ?_));refine .sub (τ:=⟨[(5,.i b),(2,.q 0 0),(1,.f rE114 p1)],[(0,.bx 37 (lx37 p0))],1⟩) ?_ [] R;refine bS hm fun H t hm=>bS hm fun y n hm=>?_;refine .drw [(1,[]),(1,[]),(1,[]),(1,[oF,oT,oT]),(1,fA 1 (tT 3)),(1,fA 1 (tT 4)),(1,tT 6),(1,tT 7)] [_,_,_,_,_,_,_,_] ⟨[(6,.i y),(5,.i b),(2,.q 0 0),(1,.f rE114 p1)],[(0,.bx 37 (lx37 p0))],1⟩ ⟨O.lg (l':=(lx37 p0)) ag37 Z R (.B R) R R R,O.mv Z R R,O.mv Z R R,O.ix sl94 Z R R t R,O.faE yaw Z R R,O.ld nag32 Z R (.E lv114) R R,O.ca0 (y7J n) cf132 R R Z R R R,O.as Z R R,trivial⟩ (by kernel_rfl) R ?_;refine .seqN (.sr (.mv R (.bi R (.ns ?_))));refine .cc hm R (fun hm=> .sr (.mv R (.an R (.ret (.seqR (.blkR (.seqR (.seqR ((d _ (c _ (oi hm).symm)).sub [] R))))))))) fun hm=>?_;refine .skip (.seqN (.seq (.seq ?_)));refine .sub (τ:=⟨[(5,.i b),(2,.q 0 0),(1,.f rE114 p1)],[(0,.bx 37 (lx37 p0))],1⟩) ?_ [] R;refine bS hm fun I u hm=>bS hm fun D o hm=>?_;refine .drw [(1,[]),(1,[]),(1,[]),(1,[oF,oT,oT]),(1,fA 1 (tT 3)),(1,fA 1 (tT 4)),(1,tT 6),(1,tT 7)] [_,_,_,_,_,_,_,_] ⟨[(7,.i D),(5,.i b),(2,.q 0 0),(1,.f rE114 p1)],[(0,.bx 37 (lx37 p0))],1⟩ ⟨O.lg (l':=(lx37 p0)) ag37 Z R (.B R) R R R,O.mv Z R R,O.mv Z R R,O.ix sl94 Z R R u R,O.faE yax Z R R,O.ld nag32 Z R (.E lv114) R R,O.ca0 (y7J o) cf132 R R Z R R R,O.as Z R R,trivial⟩ (by kernel_rfl) R ?_;refine .seqN (.sr (.mv R (.bi R (.ns ?_))));refine .cc hm R (fun hm=> .sr (.mv R (.an R (.ret (.seqR (.blkR (.seqR (.seqR ((d _ (c _ (oi hm).symm)).sub [] R))))))))) fun hm=>?_;refine .skip (.seqN (.sr (.mv R (.mv R (bS hm fun J v hm=> .ix sl94 v R (.fe y8b R (.le nag3 lv114 R (.an R (.block (.sr (.mv R (.bi R (.an R ?_)))))))))))));refine .cc hm R (fun hm=> .skip (.blkN (.blkN ((g hm).sub [] R)))) fun hm=>?_;refine .sr (.fa y3A R (.fa yT R (.lb nag32 R (.mv R (bS hm fun F p hm=> .c0 (yA p) cf54 R (.op (O.not Z R R) R (.an R ?_)))))));refine .cc hm R (fun hm=> .sr (.an R (.ret (.blkR (.blkR (.seqR (.seqR ((d _ (c _ (oi hm).symm)).sub [] R)))))))) fun hm=>?_;refine .sr (.fa y7N R (.lb nag32 R (.mv R (bS hm fun G s hm=> .c0 (yA s) cf54 R (.an R ?_)))));exact .cc hm R (fun hm=> .sr (.an R (.ret (.blkR (.blkR (.seqR (.seqR ((d _ (c _ (oi hm).symm)).sub [] R)))))))) fun hm=> .skip (.blkN (.blkN ((g hm).sub [] R)))
def y2C(p0:PbT)(p1:List Int)(a:Int):Option (Int⊕(Unit⊕Int)):=
 if decide (a<(p1.length:Int)) then
  (idx p1 a).bind fun b=>
  (ye p0.1.1 b).bind fun c=>
  if(!c) then
   some (.inr (.inr (9)))
  else
   (ye p0.2.2 b).bind fun d=>
   if d then
    some (.inr (.inr (13)))
   else
    (slc p1 0 a).bind fun f=>
    (ye f b).bind fun e=>
    if e then
     some (.inr (.inr (8)))
    else
     some (.inl (W (a+1)))
 else
  some (.inr (.inl ()))
def y3n(p0:PbT)(p1:List Int):Option Int:=
 (iter (y2C p0 p1) 0).bind fun b=>
 match b with
 | .inl c=>
  some 0
 | .inr (a)=>
  some a
theorem y8W{p1:List Int}{r:Int}(hm:y3n p0 p1=some r):
  F0 133 [.a (lx37 p0),.f qI p1] [] (.i r) []:=by
 unfold y3n at hm;refine Fw.mk2 Tryz.func133 Tryz.ntmps133 R (fun C=>?_) R;refine .sr (.bo 0 R (.an R (.seq (.sr (.mv R (.ln sl32 R (.mv R (.ns (.block (bS hm fun s o hm=>?_))))))))));refine .cutU (z:= .exit 0) (fun e=> .inl e=s) (fun (e:Unit)=>⟨[],[],0⟩) ?_ fun n=>?_
 ·rintro e rfl;dsimp only at hm;refine .blkE (.seqN (.sr (.an R (.ret ?_))));cases hm;exact .rr [] Tryz.results133 (.tmp R .nil) R I3 trivial
 refine .cutU (z:= .ret) (fun c=> .inr (c)=s) (fun (c:Int)=>⟨[(4,.i c)],[],0⟩) ?_ fun d=>?_
 ·rintro c rfl;dsimp only at hm;refine .blkR (.seqR ?_);cases hm;exact .rr [] Tryz.results133 (.tmp R .nil) R I3 trivial
 refine .iter (fun (g:Int)=>⟨[(9,.i g),(8,.i (p1.length:Int)),(7,.f qI p1),(2,.q 0 0),(1,.f qI p1)],[(0,.bx 37 (lx37 p0))],1⟩) o [] R ?_;intro g t hm p b;unfold y2C at hm;refine .sr (.bi R (.ns (.seq ?_)));refine .cc hm R (fun hm=>?_) fun hm=> .exit (.seqX (.seqX ((n _ (b _ (oi hm).symm)).sub [] R)));refine .skip (.seqN (.seq (.block (.sr (.mv R (bS hm fun x l hm=> .ix sl32 l R (.le nag3 lv3 R (.sa R (.an R (.block (.sr (.fa y3A R (.fa yT R (.lb nag32 R (.mv R (bS hm fun u h hm=> .c0 (yg h) cf104 R (.op (O.not Z R R) R (.an R ?_))))))))))))))))));refine .cc hm R (fun hm=> .sr (.an R (.ret (.blkR (.blkR (.seqR (.seqR ((d _ (b _ (oi hm).symm)).sub [] R)))))))) fun hm=>?_;refine .sr (.fa y7N R (.lb nag32 R (.mv R (bS hm fun v j hm=> .c0 (yg j) cf104 R (.an R ?_)))));refine .cc hm R (fun hm=> .sr (.an R (.ret (.blkR (.blkR (.seqR (.seqR ((d _ (b _ (oi hm).symm)).sub [] R)))))))) fun hm=>?_;refine .sr (.mv R (.mv R (bS hm fun y m hm=> .op (O.sh sl32 Z R R m R) R (.mv R (bS hm fun w k hm=> .c0 (yg k) cf104 R (.an R ?_))))));exact .cc hm R (fun hm=> .sr (.an R (.ret (.blkR (.blkR (.seqR (.seqR ((d _ (b _ (oi hm).symm)).sub [] R)))))))) fun hm=> .skip (.blkN (.blkN (.seqN (.reg (.bi R (.mv R (.nil ((p _ (oi hm).symm).sub [] R))))))))
def y3o(a:List Int)(p0:Int→Option Bool):Option Int:=
 (y4D a p0).bind fun b=>
 if decide (b≥0) then
  (idx a b).bind fun c=>
  some c
 else
  some (-1)
theorem y8X{d:List Int}{p0:Int→Option Bool}{r:Int}(hm:y3o d p0=some r):
    F0 135 [.o (lW Tryz.prog (fun (x:Int)=> [.i x]) (fun (r:Bool)=> .b r) p0),.o (lQ 32 [lF qI d] 0)] [] (.i r) []:=by
  unfold y3o at hm;refine Fw.mk2 Tryz.func135 Tryz.ntmps135 R (fun C=>?_) R;refine .sr (.an R (.seq (.sr (.lq nag32 R (.mv R (bS hm fun e a hm=> .c0 (y7u a) cf136 R (.an R (.sr (.mv R (.bi R (.ns ?_)))))))))));refine .cc hm R (fun hm=>?_) fun hm=>?_
  ·refine .sr (.lq nag32 R (.mv R (bS hm fun f c hm=> .ix sl32 c R (.le nag3 lv3 R (.an R (.ret (.seqR ?_)))))));cases hm;exact .rr [] Tryz.results135 (.tmp R .nil) R I3 trivial
  ·refine .skip (.seqN (.sr (.an R (.ret ?_))));cases hm;exact .rr [] Tryz.results135 (.tmp R .nil) R I3 trivial
def y3Z(a:List Int)(p0:CycT):Option ((Int→Option Bool)→Option Int):=
 some (y3o a)
theorem y9y{c:List Int}{p0:CycT}{r:((Int→Option Bool)→Option Int)}(hm:y3Z c p0=some r):
  F0 134 [.a [lF qI p0.1,lF qI p0.2.1,lI p0.2.2],.o (lQ 32 [lF qI c] 0)] [] (.o (lW Tryz.prog (fun (x:(Int→Option Bool))=> [.o (lW Tryz.prog (fun (x:Int)=> [.i x]) (fun (r:Bool)=> .b r) x)]) (fun (r:Int)=> .i r) r)) []:=by
 unfold y3Z at hm;refine Fw.mk2 Tryz.func134 Tryz.ntmps134 R (fun C=>?_) R;refine .sr (.bo 0 R (.an R (.sr (.op (O.mf (args:=(fun (x:(Int→Option Bool))=> [.o (lW Tryz.prog (fun (x:Int)=> [.i x]) (fun (r:Bool)=> .b r) x)])) (res:=(fun (r:Int)=> .i r)) (m:=(y3o c)) cf135 (fun x r h=>y8X h) (fun _=>R) R Z R R) R (.an R (.ret ?_))))));cases hm;exact .rr [] Tryz.results134 (.tmp R .nil) R I3 trivial
def y4H(p0:PbT)(p1:List Int)(p2:List CycT):Option ((List StpT)×Int):=
 (y1K p0 p2).bind fun a=>
 if(a != 0) then
  some (([]:List StpT),a)
 else
  (y3n p0 p1).bind fun b=>
  if(b != 0) then
   some (([]:List StpT),b)
  else
   (y5L p0 p2 (y3Z p1)).bind fun c=>
   some c
theorem y9Y{p1:List Int}{p2:List CycT}{r:(List StpT)×Int}(hm:y4H p0 p1 p2=some r):
    F0 64 [.a (lx37 p0),.f qI p1,.f rE114 p2] [] (.tp [.h 0,.i r.2]) [ROW rE100 100 r.1]:=by
  unfold y4H at hm;refine Fw.mk2 Tryz.func64 Tryz.ntmps64 R (fun C=>?_) R;refine .sr (.bo 0 R (.bo 1 R (.sa R (.an R (.seq (.sr (.op (O.lg (l':=(lx37 p0)) ag37 Z R (.B R) R R R) R (.mv R (bS hm fun j c hm=> .c0 (y6g c) cf65 R (.an R (.sr (.mv R (.bi R (.ns ?_))))))))))))));refine .cc hm R (fun hm=>?_) fun hm=>?_
  ·refine .sr (.mv R (.sa R (.an R (.ret (.seqR (.nlg rE100 100 6 0 R R ?_))))));cases hm;exact .rr [2] Tryz.results64 (.tmp R (.tmp R .nil)) R I3 ⟨⟨_,R,I4⟩,trivial⟩
  ·refine .skip (.seqN (.seq (.sr (.op (O.lg (l':=(lx37 p0)) ag37 Z R (.B R) R R R) R (.lb nag32 R (bS hm fun k d hm=> .c0 (y8W d) cf133 R (.an R (.sr (.mv R (.bi R (.ns ?_)))))))))));refine .cc hm R (fun hm=>?_) fun hm=>?_
   ·refine .sr (.mv R (.sa R (.an R (.ret (.seqR (.nlg rE100 100 6 0 R R ?_))))));cases hm;exact .rr [2] Tryz.results64 (.tmp R (.tmp R .nil)) R I3 ⟨⟨_,R,I4⟩,trivial⟩
   ·refine .skip (.seqN (.sr (.op (O.lg (l':=(lx37 p0)) ag37 Z R (.B R) R R R) R (.mv R (.fz 1 [4] [] R R fB R R (.op (O.mf (args:=(fun (x:CycT)=> [.a [lF qI x.1,lF qI x.2.1,lI x.2.2]])) (res:=(fun (r:(Int→Option Bool)→Option Int)=> .o (lW Tryz.prog (fun (x:(Int→Option Bool))=> [.o (lW Tryz.prog (fun (x:Int)=> [.i x]) (fun (r:Bool)=> .b r) x)]) (fun (r:Int)=> .i r) r))) (m:=(y3Z p1)) cf134 (fun x r h=>y9y h) (fun _=>R) R Z R R) R (bS hm fun g e hm=> .op (O.ca (r':= .tp [.h 2,.i g.2]) [2] [(0,ROW rE100 100 g.1)] (some 3) (y9k e) cf128 R R Z R R R R ⟨⟨_,R,I4⟩,trivial⟩ I3 R) R (.ex R (.ex R (.sa R (.an R (.ret ?_))))))))))));cases hm;exact .rr [2] Tryz.results64 (.tmp R (.tmp R .nil)) R I3 ⟨⟨_,R,I4⟩,trivial⟩
def yk(a:Int×Int)(b:Int):Option ((Int×Int)⊕Int):=
 some (.inl (W (a.1+1),b))
def yG(p2:List Int)(e:PbT)(a:Int×Int):Option ((Int×Int)⊕Int):=
 if((decide (a.1<(p2.length:Int)))&&(a.2==0)) then
  (idx p2 a.1).bind fun f=>
  (yo e.1.1 f).bind fun b=>
  if(!b) then
   yk a 9
  else
   (idx p2 a.1).bind fun g=>
   (yo e.2.2 g).bind fun c=>
   if c then
    yk a 13
   else
    (slc p2 0 a.1).bind fun h=>
    (idx p2 a.1).bind fun i=>
    (yo h i).bind fun d=>
    if d then
     yk a 8
    else
     yk a a.2
 else
  some (.inr a.2)
def yH(p1:List CycT)(p2:List Int)(d:PbT)(b:Int):Option Bool:=
 (y4U d p1).bind fun c=>
 (y4H d p2 p1).bind fun a=>
 (y1K d p1).bind fun f=>
 if(f != b) then
  some false
 else
  if(b != 0) then
   some (((((c.1.length:Int)==0)&&(c.2==b))&&((a.1.length:Int)==0))&&(a.2==b))
  else
   (y3L d p1 ([]:List Int) false).bind fun g=>
   (y1u c.1 g).bind fun h=>
   if((!h)||(c.2 != 0)) then
    some false
   else
    (iter (yG p2 d) (0,b)).bind fun e=>
    if(e != 0) then
     some (((a.1.length:Int)==0)&&(a.2==e))
    else
     (y3L d p1 p2 true).bind fun i=>
     (y1u a.1 i).bind fun j=>
     some (j&&(a.2==0))
def y3h(p0:((Int×y1I)×(Int×y1I)×Int)×Bool)(p1:List CycT)(p2:List Int):Option Bool:=
 (y5h).bind fun g=>
 (if (!g) then
  some true
 else
  (y5G p1).bind fun e=>
  some (!e)).bind fun f=>
 if(f||(decide ((p2.length:Int)>6))) then
  (y5h).bind fun h=>
  some h
 else
  (y3D p0).bind fun a=>
  (y2R a).bind fun b=>
  (yF a).bind fun c=>
  if(c != b) then
   some false
  else
   if(b==0) then
    (y2Z a p1).bind fun d=>
    yH p1 p2 a d
   else
    yH p1 p2 a b
theorem y7L{p0:((Int×y1I)×(Int×y1I)×Int)×Bool}{p1:List CycT}{r:Bool}(hm:y3h p0 p1 p2=some r):
    F0 11 [.a (lx84 p0),.f rE114 p1,.f qI p2] [] (.b r) []:=by
  unfold y3h at hm;refine Fw.mk2 Tryz.func11 Tryz.ntmps11 R (fun C=>?_) R;refine .sr (.bo 0 R (.an R (.seq (.sr (bS hm fun r1 b7 hm=> .c0 (y7H b7) cf46 R (.op (O.not Z R R) R (.mv R (bS hm fun T eb2 hm=>?_))))))));refine .cut 4 (fun (v3:Bool)=>T=v3) (fun v3=>⟨[(20,.b v3),(3,.q 0 0),(1,.f rE114 p1),(2,.f qI p2)],[(0,.bx 84 (lx84 p0))],1⟩) ?_ ?_
  · rintro _ rfl;refine .mv R ?_;refine .cut 4 (fun (v5:Bool)=>(T||(decide ((p2.length:Int)>6)))=v5) (fun v5=>⟨[(25,.b v5),(3,.q 0 0),(1,.f rE114 p1),(2,.f qI p2)],[(0,.bx 84 (lx84 p0))],1⟩) ?_ ?_
    · rintro _ rfl;refine .ns ?_;refine .cc hm R (fun hm=>?_) fun hm=>?_
      ·refine .sr (bS hm fun r7 b8 hm=> .c0 (y7H b8) cf46 R (.an R (.ret (.seqR ?_))));cases hm;exact .rr [] Tryz.results11 (.tmp R .nil) R I3 trivial
      ·refine .skip (.seqN (.sr (.op (O.lg (l':=(lx84 p0)) ag84 Z R (.B R) R R R) R (bS hm fun j b9 hm=> .op (O.ca (r':= .g [lF qI j.1.1,lI j.1.2.1,lF qI j.1.2.2.1,lF qT j.1.2.2.2,lH 1,lI j.2.1.2.1,lH 2,lH 3,lH 4]) [1,2,3,4] [(0,ROW qI 3 j.2.1.1),(1,ROW qI 3 j.2.1.2.2.1),(2,ROW qT 124 j.2.1.2.2.2),(3,ROW qI 3 j.2.2)] (some 5) (y9m b9) cf47 R R Z R R R R ⟨⟨_,R,I4⟩,⟨_,R,I4⟩,⟨_,R,I4⟩,⟨_,R,I4⟩,trivial⟩ I3 R) R (.al 5 zz37 R (.st ag37.sz R (.nr (.op (O.lg (l':=[lF qI j.1.1,lI j.1.2.1,lF qI j.1.2.2.1,lF qT j.1.2.2.2,lH 1,lI j.2.1.2.1,lH 2,lH 3,lH 4]) ag37 Z R (.B R) R R R) R (bS hm fun r9 c1 hm=> .op (O.caZ (ya8 c1) cf48 R R Z R ⟨⟨R,.rf,.rf,.rf,.rf,.hr R,.rf,.hr R,.hr R,.hr R,trivial⟩,trivial⟩ (fun _ _ _ _ _ h=>h) R) R (.an R (.seq (.sr (.op (O.lg (l':=[lF qI j.1.1,lI j.1.2.1,lF qI j.1.2.2.1,lF qT j.1.2.2.2,lH 1,lI j.2.1.2.1,lH 2,lH 3,lH 4]) ag37 Z R (.B R) R R R) R (bS hm fun c8 V hm=> .op (O.caZ (y6U V) cf62 R R Z R ⟨⟨R,.rf,.rf,.rf,.rf,.hr R,.rf,.hr R,.hr R,.hr R,trivial⟩,trivial⟩ (fun _ _ _ _ _ h=>h) R) R (.mv R (.bi R (.ns ?_)))))))))))))))));refine .cc hm R (fun hm=>?_) fun hm=>?_
       ·refine .sr (.an R (.ret (.seqR ?_)));cases hm;exact .rr [] Tryz.results11 (.tmp R .nil) R I3 trivial
       ·refine .skip (.seqN ?_);refine .join1 (fun (o:Int)=>yH p1 p2 j o=some r) (fun o=>⟨[(8,.i o),(7,.q 0 0),(1,.f rE114 p1),(2,.f qI p2)],[(0,.bx 37 [lF qI j.1.1,lI j.1.2.1,lF qI j.1.2.2.1,lF qT j.1.2.2.2,lH 1,lI j.2.1.2.1,lH 2,lH 3,lH 4]),(1,ROW qI 3 j.2.1.1),(2,ROW qI 3 j.2.1.2.2.1),(3,ROW qT 124 j.2.1.2.2.2),(4,ROW qI 3 j.2.2)],5⟩) ?_ ?_
        · intro o hm;unfold yH at hm;refine .sr (.op (O.lg (l':=[lF qI j.1.1,lI j.1.2.1,lF qI j.1.2.2.1,lF qT j.1.2.2.2,lH 1,lI j.2.1.2.1,lH 2,lH 3,lH 4]) ag37 Z R (.B R) R R R) R (.mv R (.fz 1 [41] [0] R R fR R R (.fz 2 [41] [0] R R fR R R (.fz 3 [41] [0] R R fR R R (.fz 4 [41] [0] R R fR R R (bS hm fun m W hm=> .op (O.ca (r':= .tp [.h 5,.i m.2]) [5] [(0,ROW rE100 100 m.1)] (some 6) (y7w W) cf57 R R Z R R R R ⟨⟨_,R,I4⟩,trivial⟩ I3 R) R (.mv R (.ex R (.ex R (.sa R (.an R (.sr (.op (O.lg (l':=(lx37 j)) ag37 Z R (.B R) R R R) R (.mv R (.mv R (bS hm fun e X hm=> .op (O.ca (r':= .tp [.h 6,.i e.2]) [6] [(0,ROW rE100 100 e.1)] (some 7) (y9Y X) cf64 R R Z R R R R ⟨⟨_,R,I4⟩,trivial⟩ I3 R) R (.mv R (.ex R (.ex R (.sa R (.an R (.seq (.sr (.op (O.lg (l':=(lx37 j)) ag37 Z R (.B R) R R R) R (.mv R (bS hm fun c9 Y hm=> .c0 (y6g Y) cf65 R (.mv R (.bi R ?_)))))))))))))))))))))))))))));refine .ns ?_;refine .cc hm R (fun hm=>?_) fun hm=>?_
          ·refine .sr (.an R (.ret (.seqR ?_)));cases hm;exact .rr [] Tryz.results11 (.tmp R .nil) R I3 trivial
          ·refine .skip (.seqN (.seq (.sr (.mv R (.bi R (.ns ?_))))));refine .cc hm R (fun hm=>?_) fun hm=>?_
           ·refine .sr (.mv R (.op (O.lenH sl91 Z R R R) R (.bi R (.mv R ?_))));refine .cut 4 (fun (v:Bool)=>(((m.1.length:Int)==0)&&(m.2==o))=v) (fun v=>⟨[(67,.b v),(12,.i e.2),(11,.h 6),(8,.i o)],[(6,ROW rE100 100 e.1)],7⟩) ?_ ?_
            · rintro _ rfl;refine .mv R ?_;refine .cut 4 (fun (w:Bool)=>((((m.1.length:Int)==0)&&(m.2==o))&&((e.1.length:Int)==0))=w) (fun w=>⟨[(72,.b w),(12,.i e.2),(8,.i o)],[],7⟩) ?_ ?_
              · rintro _ rfl;refine .mv R ?_;refine .cut 4 (fun (x:Bool)=>(((((m.1.length:Int)==0)&&(m.2==o))&&((e.1.length:Int)==0))&&(e.2==o))=x) (fun x=>⟨[(77,.b x)],[],7⟩) ?_ ?_
                · rintro _ rfl;refine .an R (.ret (.seqR ?_));cases hm;exact .rr [] Tryz.results11 (.tmp R .nil) R I3 trivial
                · intro K;rcases Bool.eq_false_or_eq_true ((((m.1.length:Int)==0)&&(m.2==o))&&((e.1.length:Int)==0)) with hc|hc
                  · refine .know (d:=73) R hc ?_;exact .op (O.mv (Gu.mk R R) R R) R (.op (O.mv (Gu.mk R R) R R) R (.op (O.bi (Gu.mk R R) R R R R) R (.op (O.pkT Z R R R R) R ((K (e.2==o) (andT hc).symm).sub [] R))))
                  · refine .know (d:=73) R hc ?_;exact .sk R (.sk R (.sk R (.op (O.pkF Z R R R R) R ((K false (andF hc).symm).sub [] R))))
              · intro J;rcases Bool.eq_false_or_eq_true (((m.1.length:Int)==0)&&(m.2==o)) with hc|hc
                · refine .know (d:=68) R hc ?_;exact .op (O.mv (Gu.mk R R) R R) R (.op (O.lenH sl91 (Gu.mk R R) R R R) R (.op (O.bi (Gu.mk R R) R R R R) R (.op (O.pkT Z R R R R) R ((J ((e.1.length:Int)==0) (andT hc).symm).sub [] R))))
                · refine .know (d:=68) R hc ?_;exact .sk R (.sk R (.sk R (.op (O.pkF Z R R R R) R ((J false (andF hc).symm).sub [] R))))
            · intro I;rcases Bool.eq_false_or_eq_true ((m.1.length:Int)==0) with hc|hc
              · refine .know (d:=63) R hc ?_;exact .op (O.mv (Gu.mk R R) R R) R (.op (O.mv (Gu.mk R R) R R) R (.op (O.bi (Gu.mk R R) R R R R) R (.op (O.pkT Z R R R R) R ((I (m.2==o) (andT hc).symm).sub [] R))))
              · refine .know (d:=63) R hc ?_;exact .sk R (.sk R (.sk R (.op (O.pkF Z R R R R) R ((I false (andF hc).symm).sub [] R))))
           ·refine .skip (.seqN (.seq (.sr (.mv R (.op (O.lg (l':=(lx37 j)) ag37 Z R (.B R) R R R) R (.mv R (bS hm fun c2 a0 hm=> .op (O.cac (r':= .h 7) [7] [(0,ROW rE100 100 c2)] (some 8) (y7I a0) cf51 R R Z R R ⟨⟨R,.rf⟩,⟨R,.rf⟩,⟨R,(.c (.nf (r:=qI)) .n)⟩,⟨R,.rf⟩,trivial⟩ R ⟨⟨_,R,I4⟩,trivial⟩ I3 R) R (bS hm fun Q a1 hm=> .op (O.caZ (y7V a1) cf58 R R Z R ⟨⟨R,.hr R,trivial⟩,⟨R,.hr R,trivial⟩,trivial⟩ (fun _ _ _ _ _ h=>h) R) R (.op (O.not Z R R) R (.mv R ?_))))))))));refine .cut 3 (fun (y:Bool)=>((!Q)||(m.2 != 0))=y) (fun y=>⟨[(87,.b y),(12,.i e.2),(11,.h 6),(8,.i o),(7,.q 0 0),(1,.f rE114 p1),(2,.f qI p2)],[(6,ROW rE100 100 e.1),(0,.bx 37 (lx37 j))],8⟩) ?_ ?_
            · rintro _ rfl;refine .ns ?_;refine .cc hm R (fun hm=>?_) fun hm=>?_
              ·refine .sr (.an R (.ret (.seqR ?_)));cases hm;exact .rr [] Tryz.results11 (.tmp R .nil) R I3 trivial
              ·refine .skip (.seqN (.seq (.sr (.an R (.block (bS hm fun s U hm=>?_))))));refine .cut1 (z:= .exit 0) s (fun (s:Int)=>⟨[(12,.i e.2),(11,.h 0),(8,.i s),(7,.q 1 0),(1,.f rE114 p1),(2,.f qI p2)],[(0,ROW rE100 100 e.1),(1,.bx 37 (lx37 j))],2⟩) ?_ fun b6=>?_
               · skip
                 refine .blkE (.seqN (.seq (.sr (.mv R (.bi R (.ns ?_))))));refine .cc hm R (fun hm=>?_) fun hm=>?_
                 ·refine .sr (.mv R (.op (O.lenH sl91 Z R R R) R (.bi R (.mv R ?_))));refine .cut 4 (fun (D:Bool)=>(((e.1.length:Int)==0)&&(e.2==s))=D) (fun D=>⟨[(134,.b D)],[],2⟩) ?_ ?_
                  · rintro _ rfl;refine .an R (.ret (.seqR ?_));cases hm;exact .rr [] Tryz.results11 (.tmp R .nil) R I3 trivial
                  · intro M;rcases Bool.eq_false_or_eq_true ((e.1.length:Int)==0) with hc|hc
                    · refine .know (d:=130) R hc ?_;exact .op (O.mv (Gu.mk R R) R R) R (.op (O.mv (Gu.mk R R) R R) R (.op (O.bi (Gu.mk R R) R R R R) R (.op (O.pkT Z R R R R) R ((M (e.2==s) (andT hc).symm).sub [] R))))
                    · refine .know (d:=130) R hc ?_;exact .sk R (.sk R (.sk R (.op (O.pkF Z R R R R) R ((M false (andF hc).symm).sub [] R))))
                 ·refine .skip (.seqN (.sr (.mv R (.op (O.lg (l':=(lx37 j)) ag37 Z R (.B R) R R R) R (.mv R (.mv R (bS hm fun c3 a2 hm=> .op (O.ca (r':= .h 2) [2] [(0,ROW rE100 100 c3)] (some 3) (y7I a2) cf51 R R Z R R R R ⟨⟨_,R,I4⟩,trivial⟩ I3 R) R (bS hm fun S a3 hm=> .op (O.caZ (y7V a3) cf58 R R Z R ⟨⟨R,.hr R,trivial⟩,⟨R,.hr R,trivial⟩,trivial⟩ (fun _ _ _ _ _ h=>h) R) R (.mv R ?_)))))))));refine .cut 3 (fun (F:Bool)=>(S&&(e.2==0))=F) (fun F=>⟨[(144,.b F)],[],3⟩) ?_ ?_
                  · rintro _ rfl;refine .an R (.ret ?_);cases hm;exact .rr [] Tryz.results11 (.tmp R .nil) R I3 trivial
                  · intro N;rcases Bool.eq_false_or_eq_true S with hc|hc
                    · refine .know (d:=141) R hc ?_;exact .op (O.mv (Gu.mk R R) R R) R (.op (O.bi (Gu.mk R R) R R R R) R (.op (O.pkT Z R R R R) R ((N (e.2==0) (andT hc).symm).sub [] R)))
                    · refine .know (d:=141) R hc ?_;exact .sk R (.sk R (.op (O.pkF Z R R R R) R ((N false (andF hc).symm).sub [] R)))
               refine .iter (fun (k:Int×Int)=>⟨[(13,.i k.1),(12,.i e.2),(11,.h 0),(8,.i k.2),(7,.q 1 0),(1,.f rE114 p1),(2,.f qI p2)],[(0,ROW rE100 100 e.1),(1,.bx 37 (lx37 j))],2⟩) U [(0,6),(1,0)] R ?_;intro k H hm b5 b4;unfold yG at hm;refine .seq (.sr (.mv R (.mv R (.ln sl32 R (.bi R (.mv R ?_))))));refine .cut 3 (fun (G:Bool)=>((decide (k.1<(p2.length:Int)))&&(k.2==0))=G) (fun G=>⟨[(95,.b G),(13,.i k.1),(12,.i e.2),(11,.h 0),(8,.i k.2),(7,.q 1 0),(1,.f rE114 p1),(2,.f qI p2)],[(0,ROW rE100 100 e.1),(1,.bx 37 (lx37 j))],2⟩) ?_ ?_
               · rintro _ rfl;refine .ns ?_;refine .cc hm R (fun hm=>?_) fun hm=> .exit (.seqX (.seqX ((b6 _ (b4 _ (oi hm).symm)).sub [] R)));refine .skip (.seqN ?_);refine .join1 (fun (t:Int)=>yk k t=some H) (fun t=>⟨[(8,.i t),(13,.i k.1),(12,.i e.2),(11,.h 0),(7,.q 1 0),(1,.f rE114 p1),(2,.f qI p2)],[(0,ROW rE100 100 e.1),(1,.bx 37 (lx37 j))],2⟩) ?_ ?_
                 · intro t hm;unfold yk at hm;exact .reg (.mv R (.bi R (.sa R (.nil ((b5 _ (oi hm).symm).sub [] R)))))
                 · intro p;refine .block (.block (.seq ?_));refine .sub (τ:=⟨[(13,.i k.1),(12,.i e.2),(11,.h 0),(8,.i k.2),(7,.q 1 0),(1,.f rE114 p1),(2,.f qI p2)],[(0,ROW rE100 100 e.1),(1,.bx 37 (lx37 j))],2⟩) ?_ [] R;refine bS hm fun d1 a9 hm=>bS hm fun c4 a4 hm=>?_;refine .drw [(2,[]),(2,[oT]),(2,[oT,oT]),(2,[]),(2,[]),(2,[oF,oF,oF,oT,oT]),(2,fA 3 (tT 3)),(2,tT 7),(2,tT 8),(2,tT 9)] [_,_,_,_,_,_,_,_,_,_] ⟨[(98,.b (!c4)),(13,.i k.1),(12,.i e.2),(11,.h 0),(8,.i k.2),(7,.q 1 0),(1,.f rE114 p1),(2,.f qI p2)],[(0,ROW rE100 100 e.1),(1,.bx 37 (lx37 j))],2⟩ ⟨O.faP y3A Z R R,O.faP yT Z R R,O.ld nag32 Z R (.B R) R R,O.mv Z R R,O.mv Z R R,O.ix sl32 Z R R a9 R,O.ld nag3 Z R (.E lv3) R R,O.ca0 (yA a4) cf54 R R Z R R R,O.not Z R R,O.as Z R R,trivial⟩ (by kernel_rfl) R ?_;refine .seqN (.cc hm R (fun hm=> .reg (.sa R (.nil (.blkN (.blkN ((p _ hm).sub [] R)))))) fun hm=>(.seq ?_));refine .sub (τ:=⟨[(13,.i k.1),(12,.i e.2),(11,.h 0),(8,.i k.2),(7,.q 1 0),(1,.f rE114 p1),(2,.f qI p2)],[(0,ROW rE100 100 e.1),(1,.bx 37 (lx37 j))],2⟩) ?_ [] R;refine bS hm fun d2 b0 hm=>bS hm fun c5 a5 hm=>?_;refine .drw [(2,[]),(2,[oT]),(2,[]),(2,[]),(2,[oF,oF,oT,oT]),(2,fA 2 (tT 3)),(2,tT 6),(2,tT 7)] [_,_,_,_,_,_,_,_] ⟨[(108,.b c5),(13,.i k.1),(12,.i e.2),(11,.h 0),(8,.i k.2),(7,.q 1 0),(1,.f rE114 p1),(2,.f qI p2)],[(0,ROW rE100 100 e.1),(1,.bx 37 (lx37 j))],2⟩ ⟨O.faP y7N Z R R,O.ld nag32 Z R (.B R) R R,O.mv Z R R,O.mv Z R R,O.ix sl32 Z R R b0 R,O.ld nag3 Z R (.E lv3) R R,O.ca0 (yA a5) cf54 R R Z R R R,O.as Z R R,trivial⟩ (by kernel_rfl) R ?_;refine .seqN (.cc hm R (fun hm=> .reg (.sa R (.nil (.blkN (.blkN ((p _ hm).sub [] R)))))) fun hm=>(.seq ?_));refine .sub (τ:=⟨[(13,.i k.1),(12,.i e.2),(11,.h 0),(8,.i k.2),(7,.q 1 0),(1,.f rE114 p1),(2,.f qI p2)],[(0,ROW rE100 100 e.1),(1,.bx 37 (lx37 j))],2⟩) ?_ [] R;refine bS hm fun d3 b1 hm=>bS hm fun d4 b3 hm=>bS hm fun c6 a6 hm=>?_;refine .drw [(2,[]),(2,[]),(2,[oT,oT]),(2,[]),(2,[]),(2,[oF,oF,oF,oT,oT]),(2,fA 3 (tT 3)),(2,tT 7),(2,tT 8)] [_,_,_,_,_,_,_,_,_] ⟨[(116,.b c6),(13,.i k.1),(12,.i e.2),(11,.h 0),(8,.i k.2),(7,.q 1 0),(1,.f rE114 p1),(2,.f qI p2)],[(0,ROW rE100 100 e.1),(1,.bx 37 (lx37 j))],2⟩ ⟨O.mv Z R R,O.mv Z R R,O.sh sl32 Z R R b1 R,O.mv Z R R,O.mv Z R R,O.ix sl32 Z R R b3 R,O.ld nag3 Z R (.E lv3) R R,O.ca0 (yA a6) cf54 R R Z R R R,O.as Z R R,trivial⟩ (by kernel_rfl) R ?_;exact .seqN (.cc hm R (fun hm=> .reg (.sa R (.nil (.blkN (.blkN ((p _ hm).sub [] R)))))) fun hm=> .skip (.blkN (.blkN ((p _ hm).sub [] R))))
               · intro P;rcases Bool.eq_false_or_eq_true (decide (k.1<(p2.length:Int))) with hc|hc
                 · refine .know (d:=92) R hc ?_;exact .op (O.mv (Gu.mk R R) R R) R (.op (O.bi (Gu.mk R R) R R R R) R (.op (O.pkT Z R R R R) R ((P (k.2==0) (andT hc).symm).sub [] R)))
                 · refine .know (d:=92) R hc ?_;exact .sk R (.sk R (.op (O.pkF Z R R R R) R ((P false (andF hc).symm).sub [] R)))
            · intro L;rcases Bool.eq_false_or_eq_true (!Q) with hc|hc
              · refine .know (d:=84) R hc ?_;exact .sk R (.sk R (.op (O.pkT Z R R R R) R ((L true (orT hc).symm).sub [] R)))
              · refine .know (d:=84) R hc ?_;exact .op (O.mv (Gu.mk R R) R R) R (.op (O.bi (Gu.mk R R) R R R R) R (.op (O.pkF Z R R R R) R ((L (m.2 != 0) (orF hc).symm).sub [] R)))
        · intro u;refine .sr (.mv R (.bi R (.ns ?_)));exact .cc hm R (fun hm=> .reg (.op (O.lg (l':=[lF qI j.1.1,lI j.1.2.1,lF qI j.1.2.2.1,lF qT j.1.2.2.2,lH 1,lI j.2.1.2.1,lH 2,lH 3,lH 4]) ag37 Z R (.B R) R R R) R (.mv R (bS hm fun d0 a7 hm=> .op (O.caZ (y8z a7) cf63 R R Z R ⟨⟨R,.rf,.rf,.rf,.rf,.hr R,.rf,.hr R,.hr R,.hr R,trivial⟩,⟨R,LnL.rf⟩,trivial⟩ (fun _ _ _ _ _ h=>h) R) R (.sa R (.nil ((u _ hm).sub [(0,5)] R))))))) fun hm=> .skip ((u _ hm).sub [(0,5)] R)
    · intro J6;rcases Bool.eq_false_or_eq_true T with hc|hc
      · refine .know (d:=21) R hc ?_;exact .sk R (.sk R (.sk R (.op (O.pkT Z R R R R) R ((J6 true (orT hc).symm).sub [] R))))
      · refine .know (d:=21) R hc ?_;exact .op (O.mv (Gu.mk R R) R R) R (.op (O.len sl32 (Gu.mk R R) R R) R (.op (O.bi (Gu.mk R R) R R R R) R (.op (O.pkF Z R R R R) R ((J6 (decide ((p2.length:Int)>6)) (orF hc).symm).sub [] R))))
  · intro J4;rcases ifS eb2 with ⟨hc,hm⟩|⟨hc,hm⟩
    · refine .know (d:=16) R hc ?_;exact .sk R (.sk R (.sk R (.op (O.pkT Z R R R R) R ((J4 true (oi hm).symm).sub [] R))))
    · refine .know (d:=16) R hc ?_;exact .op (O.mv (Gu.mk R R) R R) R (bS hm fun c7 a8 hm=> .op (O.ca0 (yaK a8) cf61 R R (Gu.mk R R) R R R) R (.op (O.not (Gu.mk R R) R R) R (.op (O.pkF Z R R R R) R ((J4 (!c7) (oi hm).symm).sub [] R))))
end
end Go.Proofs.YtecmobjeeonmaaaGreatDoor
namespace Go.Proofs.YtecmobjeeonmaaaGreatDoor
open Go.RowKit Go.Shelf
structure St where
 s:Int
 p:Int
 e:Int
def St.cells(x:St):List Value:=[.int .i64 x.s,.int .i64 x.p,.int .i64 x.e]
end Go.Proofs.YtecmobjeeonmaaaGreatDoor
