/- SimulationChecks returns true for all arguments, and leaves its arguments as they were. The condition: three tables of Go's library (math/bits, internal/strconv) hold what their source text lays, and the card ties this to the text. -/
import Derived.Deep.Slices
import Derived.ChangeSame
import Derived.ProofKit
import Derived.Test.YtecmobjeeonmaaaGreatDoorProg
import Derived.Test.YtecmobjeeonmaaaGreatDoorRows
import Derived.Test.YtecmobjeeonmaaaGreatDoorTie
import Derived.Test.YtecmobjeeonmaaaGreatDoorCards
import Derived.Lay
import Derived.LaidMore
import Derived.LaidHandle
import Derived.SevenTiedAt
import Derived.Stop.Joined
import Derived.Test.YtecmobjeeonmaaaGreatDoorQk6
set_option maxRecDepth 100000
namespace Go.Proofs.YtecmobjeeonmaaaGreatDoor
open Go Go.RowKit
def insP(x:Ins):Int×Int:=(x.op,x.arg)
theorem ya2{l ps:List (Int×Int)}{i o:Int}(h:l.length+ps.length≤4294967296):yv (l,i,o) ps=some (l++ps,i,o):=by
 have hi:iter (y1R ps) (l,0)=some (l++ps):=by
  have:=y5I (f:=y1R ps) (fun k=>(l++ps.take k,(k:Int))) ps.length (by omega) (o:=l++ps) (fun k hk=>by
   rw [y1R,if_pos (by simp;omega)];dsimp only;rw [ya hk,yOb,yr (by simp;omega),yOb,show(k:Int)+1=((k+1:Nat):Int) by omega,W_nat (by omega),List.take_succ_eq_append_getElem hk,List.append_assoc]) (by
   rw [y1R,if_neg (by simp)];simp)
  simpa using this
 rw [yv,hi];rfl
theorem yac{l:List (Int×Int)}{i o k:Int}(h0:0≤i∧i≤1000000)(h1:0≤o∧o≤1000000)(h2:0≤k∧k≤1000000):yJ (l,i,o) k=some (i+o+k):=by
 rw [yJ];dsimp only;rw [W_of (x:=i+o) (by omega) (by omega),W_of (by omega) (by omega)]
theorem ydE{l:List (Int×Int)}{i o k:Int}(h0:0≤i∧i≤1000000)(h2:0≤k∧k≤1000000):y1Q (l,i,o) k=some (i+k):=by
 rw [y1Q];dsimp only;rw [W_of (by omega) (by omega)]
theorem ygs(moved:Nat)(e:Nat×Nat):(edgeI moved e).map insP= [(1,(e.1:Int)),(4,(moved:Int)),(10,(e.1:Int)),(9,(e.2:Int)),(9,(moved:Int))]:=rfl
theorem flat5{moved:Nat}{E:List (Nat×Nat)}:((E.flatMap (edgeI moved)).map insP).length=5*E.length:=by rw [List.length_map,y6L]
theorem yfC{l:List (Int×Int)}{M C moved:Nat}{E:List Ed}(hE:∀x∈E,0≤x.f∧x.f≤100000∧0≤x.t∧x.t≤100000)(hM:M≤100000)(hC:C≤100000)(hl:l.length+5*E.length≤4000000000):
  iter (y1s (moved:Int) (E.map edP)) (l,(M:Int),(C:Int),0)=some (l++((E.map fun x=>(M+C+x.f.toNat,M+C+x.t.toNat)).flatMap (edgeI moved)).map insP,(M:Int),(C:Int)):=by
 have:=y5I (f:=y1s (moved:Int) (E.map edP)) (fun k=>(l++(((E.take k).map fun x=>(M+C+x.f.toNat,M+C+x.t.toNat)).flatMap (edgeI moved)).map insP,(M:Int),(C:Int),(k:Int))) E.length (by omega) (o:=(l++((E.map fun x=>(M+C+x.f.toNat,M+C+x.t.toNat)).flatMap (edgeI moved)).map insP,(M:Int),(C:Int))) (fun k hk=>by
  have hx:=hE E[k] (List.getElem_mem hk);rw [y1s,if_pos (by simp;omega)];dsimp only;rw [ya (by simpa using hk),yOb,List.getElem_map];dsimp only [edP];rw [yac (by omega) (by omega) (by omega),yOb,yac (by omega) (by omega) (by omega),yOb,ya2 (by simp only [List.length_append,y6L,List.length_map,List.length_take,List.length_cons,List.length_nil];omega),yOb,
   show(k:Int)+1=((k+1:Nat):Int) by omega,W_nat (by omega),List.take_succ_eq_append_getElem hk,List.map_append,List.flatMap_append,List.map_append,List.append_assoc]
  have e1:((M+C+E[k].f.toNat:Nat):Int)=M+C+E[k].f:=by omega
  have e2:((M+C+E[k].t.toNat:Nat):Int)=M+C+E[k].t:=by omega
  rw [List.map_cons,List.map_nil,List.flatMap_cons,List.flatMap_nil,List.append_nil,ygs];dsimp only;rw [e1,e2]) (by
  rw [y1s,if_neg (by simp),List.take_length])
 simpa using this
theorem yhq{l:List (Int×Int)}{M C i moved alarm:Nat}{E:List Ed}(hE:∀x∈E,0≤x.f∧x.f≤100000∧0≤x.t∧x.t≤100000)(hM:M≤100000)(hC:C≤100000)(hl:l.length+5*E.length≤3000000000):
  y3j (l,(M:Int),(C:Int)) (i:Int) (moved:Int) (alarm:Int) (E.map edP)=
   some (l++(y6W i moved alarm (E.map fun x=>(M+C+x.f.toNat,M+C+x.t.toNat)) l.length).map insP,(M:Int),(C:Int)):=by
 have hX:∀X:List (Int×Int),X.length=5*E.length→
   (idx (l++[(2,(i:Int)),(12,0)]++[(1,(i:Int)),(10,(moved:Int))]++X++[(2,(moved:Int)),(9,(alarm:Int))]) (W (((l++[(2,(i:Int)),(12,0)]).length:Int)-1)))=some (12,0)∧
   upd (l++[(2,(i:Int)),(12,0)]++[(1,(i:Int)),(10,(moved:Int))]++X++[(2,(moved:Int)),(9,(alarm:Int))]) (W (((l++[(2,(i:Int)),(12,0)]).length:Int)-1)) (12,((l++[(2,(i:Int)),(12,0)]++[(1,(i:Int)),(10,(moved:Int))]++X++[(2,(moved:Int)),(9,(alarm:Int))]).length:Int))=
    some (l++([(2,(i:Int)),(12,((l.length+6+5*E.length:Nat):Int)),(1,(i:Int)),(10,(moved:Int))]++(X++[(2,(moved:Int)),(9,(alarm:Int))]))):=by
  intro X hX;have e0:W (((l++[(2,(i:Int)),(12,0)]).length:Int)-1)=((l.length+1:Nat):Int):=by
   rw [List.length_append,List.length_cons,List.length_cons,List.length_nil,show(((l.length+(0+1+1):Nat):Int)-1)=((l.length+1:Nat):Int) by omega,W_nat (by omega)]
  rw [e0];have e1:(l++[(2,(i:Int)),(12,0)]++[(1,(i:Int)),(10,(moved:Int))]++X++[(2,(moved:Int)),(9,(alarm:Int))])=l++((2,(i:Int))::(12,0)::([(1,(i:Int)),(10,(moved:Int))]++(X++[(2,(moved:Int)),(9,(alarm:Int))]))):=by simp
  rw [e1];constructor
  ·rw [ybH,List.getElem?_append_right (by omega),show l.length+1-l.length=1 by omega];rfl
  ·unfold upd;rw [if_pos ⟨by omega,by simp only [List.length_append,List.length_cons,List.length_nil];omega⟩,Int.toNat_natCast,List.set_append_right _ _ (by omega),show l.length+1-l.length=1 by omega];simp only [List.set_cons_succ,List.set_cons_zero,List.length_append,List.length_cons,List.length_nil,hX,List.cons_append,List.nil_append];congr 4;simp only [Prod.mk.injEq,true_and];omega
 have hflat:(((E.map fun x=>(M+C+x.f.toNat,M+C+x.t.toNat)).flatMap (edgeI moved)).map insP).length=5*E.length:=by rw [flat5,List.length_map]
 rw [y3j,ya2 (by simp;omega),yOb,ya2 (by simp;omega),yOb,yfC hE hM hC (by simp;omega),yOb,ya2 (by simp only [List.length_append,List.length_map,y6L,List.length_cons,List.length_nil];omega),yOb];dsimp only;obtain⟨g1,g2⟩:=hX _ hflat;rw [g1,yOb];dsimp only;rw [g2,yOb,y6W];simp only [List.map_append,List.map_cons,List.map_nil,insP,List.length_map]
theorem yen{l:List (Int×Int)}{M C:Nat}{ms:List Nat}(hms:∀x∈ms,x≤100000)(hM:M≤100000)(hC:C≤100000)(hl:l.length+ms.length≤3000000000):
  iter (y1e (ms.map fun k:Nat=>(k:Int))) (l,(M:Int),(C:Int),0)=
   some (l++(match ms with | []=> []|m::r=>(⟨1,((M+C+m:Nat):Int)⟩:Ins)::r.map (fun k:Nat=>(⟨5,((M+C+k:Nat):Int)⟩:Ins))).map insP,(M:Int),(C:Int)):=by
 have hL:∀k,(h:k<ms.length)→((match ms with | []=> []|m::r=>(⟨1,((M+C+m:Nat):Int)⟩:Ins)::r.map (fun k:Nat=>(⟨5,((M+C+k:Nat):Int)⟩:Ins))).map insP)[k]? =some (if k=0 then 1 else 5,((M+C+ms[k]:Nat):Int)):=by
  intro k h;cases ms with
  | nil=>simp at h
  | cons m r=>
   cases k with
   | zero=>rfl
   | succ k=>simp at h;simp [h,insP]
 have hlen:((match ms with | []=> []|m::r=>(⟨1,((M+C+m:Nat):Int)⟩:Ins)::r.map (fun k:Nat=>(⟨5,((M+C+k:Nat):Int)⟩:Ins))).map insP).length=ms.length:=by cases ms <;> simp
 generalize ((match ms with | []=> []|m::r=>(⟨1,((M+C+m:Nat):Int)⟩:Ins)::r.map (fun k:Nat=>(⟨5,((M+C+k:Nat):Int)⟩:Ins))).map insP)=L at hL hlen;have:=y5I (f:=y1e (ms.map fun k:Nat=>(k:Int))) (fun k=>(l++L.take k,(M:Int),(C:Int),(k:Int))) ms.length (by omega) (o:=(l++L,(M:Int),(C:Int))) (fun k hk=>by
  have hx:=hms ms[k] (List.getElem_mem hk);rw [y1e,if_pos (by simp;omega)];dsimp only;rw [ya (by simpa using hk),yOb,List.getElem_map];have hop:idx ([1,5]:List Int) (if 1<(k:Int) then 1 else(k:Int))=some (if k=0 then 1 else 5):=by
   by_cases h0:k=0
   ·subst h0;rfl
   ·have:(if 1<(k:Int) then 1 else(k:Int))=1:=by split <;> omega
    rw [this,if_neg h0];rfl
  rw [hop,yOb,yac (by omega) (by omega) (by omega),yOb,ya2 (by simp only [List.length_append,List.length_take,List.length_cons,List.length_nil];omega),yOb,
   show(k:Int)+1=((k+1:Nat):Int) by omega,W_nat (by omega),List.append_assoc]
  have hk':k<L.length:=by omega
  have e:=hL k hk;rw [yGe hk',Option.some.injEq] at e;rw [List.take_succ_eq_append_getElem hk',e];rfl) (by
  rw [y1e,if_neg (by simp),List.take_of_length_le (by omega)])
 simpa using this
theorem yfD{l:List (Int×Int)}{M C o:Nat}{ms:List Nat}(hms:∀x∈ms,x≤100000)(hM:M≤100000)(hC:C≤100000)(hl:l.length+ms.length≤2000000000):
  y2O (l,(M:Int),(C:Int)) (o:Int) (ms.map fun k:Nat=>(k:Int))=some (l++(y3y o (ms.map fun k=>M+C+k)).map insP,(M:Int),(C:Int)):=by
 rw [y2O];cases ms with
 | nil=>
  rw [if_pos (by simp),ya2 (by simp;simp at hl;omega),yOb];rfl
 | cons m r=>
  rw [if_neg (by simp;omega),yen hms hM hC (show l.length+(m::r).length≤3000000000 by omega),yOb,ya2 (by simp at hl ⊢;omega),yOb];simp [y3y,insP,List.append_assoc]
theorem yfE{β:Type}(d:β)(m:List (Int×β))(k:Int)(v:β)(k':Int):(kget (kput m k v) k').getD d=if k=k' then v else(kget m k').getD d:=by
 rw [y5Z];by_cases h:k=k'
 ·rw [if_pos h,if_pos h.symm];rfl
 ·rw [if_neg h,if_neg fun e=>h e.symm]
def y3p{β:Type}(f:Ed→β)(es:List Ed):List (Int×List β):=es.foldl (fun m x=>kput m x.e (((kget m x.e).getD [])++[f x])) []
theorem y9G{β:Type}(f:Ed→β)(k:Int):∀(es:List Ed) (m:List (Int×List β)),((kget (es.foldl (fun m x=>kput m x.e ((kget m x.e).getD []++[f x])) m) k).getD [])=((kget m k).getD [])++(es.filter fun x=>x.e==k).map f
 | [],m=>by simp
 | x::es,m=>by
  rw [List.foldl_cons,y9G f k es,yfE];by_cases h:x.e=k
  ·rw [if_pos h,List.filter_cons_of_pos (by simpa using h),h];simp
  ·rw [if_neg h,List.filter_cons_of_neg (by simpa using h)]
theorem ycK{β:Type}(f:Ed→β)(es:List Ed)(k:Int):(((kget (y3p f es) k).getD [])).length≤es.length:=by
 rw [y3p,y9G];simp only [kget,List.find?_nil,Option.map_none,Option.getD_none,List.nil_append,List.length_map];exact List.length_filter_le _ _
theorem yc7{β:Type}(f:Ed→β)(es:List Ed)(x:Ed):y3p f (es++[x])=kput (y3p f es) x.e (((kget (y3p f es) x.e).getD [])++[f x]):=by simp [y3p]
theorem yhr{a:Aut}(hl:a.es.length≤1000000):iter (y3v (autP a)) (0,([]:List (Int×List Int)),([]:List (Int×List (Int×Int×Int))))=some (y3p (fun x=>x.f) a.es,y3p edP a.es):=by
 have hlen:(autP a).2.2.2.length=a.es.length:=by simp [autP]
 have:=y5I (f:=y3v (autP a)) (fun k=>((k:Int),y3p (fun x=>x.f) (a.es.take k),y3p edP (a.es.take k))) a.es.length (by omega) (o:=(y3p (fun x=>x.f) a.es,y3p edP a.es)) (fun k hk=>by
  rw [y3v,if_pos (by rw [hlen];simp;omega)];dsimp only;have h1:=ycK edP (a.es.take k) a.es[k].e;have h2:=ycK (fun x=>x.f) (a.es.take k) a.es[k].e;rw [List.length_take] at h1 h2;rw [ya (by rw [hlen];exact hk),yOb,show(autP a).2.2.2[k]'(by rw [hlen];exact hk)=edP a.es[k] from by simp [autP]];dsimp only [edP];rw [yr (by simp only [List.length_cons,List.length_nil];omega),yOb,yr (by simp only [List.length_cons,List.length_nil];omega),yOb,
   show(k:Int)+1=((k+1:Nat):Int) by omega,W_nat (by omega),List.take_succ_eq_append_getElem hk,yc7,yc7]
  rfl) (by
  rw [y3v,if_neg (by rw [hlen];simp),List.take_length])
 simpa [y3p] using this
theorem ya3(moved alarm:Nat):∀(l:List (Nat×List (Nat×Nat))) (x:Nat×List (Nat×Nat)) (s:Nat),y1v moved alarm (l++[x]) s=y1v moved alarm l s++y6W x.1 moved alarm x.2 (s+(y1v moved alarm l s).length)
 | [],x,s=>by simp [y1v]
 | (i,es)::l,x,s=>by
  rw [List.cons_append,y1v,y1v,ya3 moved alarm l x,List.append_assoc,List.length_append,y6C];congr 3;omega
theorem yaM(l:List (Nat×List Nat))(x:Nat×List Nat):y1f (l++[x])=y1f l++y3y x.1 x.2:=by simp [y1f]
theorem yeG(o:Nat)(ms:List Nat):(y3y o ms).length≤ms.length+3:=by cases ms <;> simp [y3y]
structure GenIn (a:Aut) (ctrl:List Int) (n:Nat):Prop where
 hn:a.n=n
 n0:0<n
 n1:n≤64
 es:a.es.length≤256
 al:a.al.length≤32
 ct:ctrl.length≤32
 ed:∀x∈a.es,0≤x.f∧x.f<(n:Int)∧0≤x.t∧x.t<(n:Int)
def ya4(a:Aut)(ctrl:List Int):List (Nat×List (Nat×Nat)):=(evsOf a).map fun x=>(x.1,x.2.map fun e=>(a.al.length+(ctrl.length+1)+e.1,a.al.length+(ctrl.length+1)+e.2))
def y9q(a:Aut)(ctrl:List Int):List (Nat×List Nat):=(cmsOf a ctrl).map fun x=>(a.al.length+x.1,x.2.map fun y=>a.al.length+(ctrl.length+1)+y)
section
variable{a:Aut}{ctrl:List Int}{n:Nat}
theorem y8r :(ya4 a ctrl).length=a.al.length:=by simp [ya4,evsOf]
theorem y9H :(y9q a ctrl).length=ctrl.length:=by simp [y9q,cmsOf]
theorem ydF{k:Nat}(hk:k<a.al.length):(ya4 a ctrl)[k]'(by rw [y8r];exact hk)=(k,(a.es.filter fun x=>x.e==a.al[k]).map fun x=>(a.al.length+(ctrl.length+1)+x.f.toNat,a.al.length+(ctrl.length+1)+x.t.toNat)):=by
 simp [ya4,evsOf,List.getD_eq_getElem?_getD,hk,List.map_map,Function.comp_def]
theorem ydG{k:Nat}(hk:k<ctrl.length):(y9q a ctrl)[k]'(by rw [y9H];exact hk)=(a.al.length+k,(a.es.filter fun x=>x.e==ctrl[k]).map fun x=>a.al.length+(ctrl.length+1)+x.f.toNat):=by
 simp [y9q,cmsOf,List.getD_eq_getElem?_getD,hk,List.map_map,Function.comp_def]
theorem ybT(k:Int):(a.es.filter fun x=>x.e==k).length≤a.es.length:=List.length_filter_le _ _
theorem ydb{moved alarm:Nat}(h:GenIn a ctrl n):∀k,k≤a.al.length→(y1v moved alarm ((ya4 a ctrl).take k) 0).length≤k*2000
 | 0,_=>by simp [y1v]
 | k+1,hk=>by
  have ih:=ydb (moved:=moved) (alarm:=alarm) h k (by omega);rw [List.take_succ_eq_append_getElem (by rw [y8r];omega),ya3,List.length_append,y6C,ydF (by omega)];have:=ybT (a:=a) a.al[k];have:=h.es;simp only [List.length_map];omega
theorem yfF(h:GenIn a ctrl n):iter (y3u (autP a) ctrl (y3p (fun x=>x.f) a.es,y3p edP a.es)) (0,([]:List (Int×Int)),(a.al.length:Int),((ctrl.length+1:Nat):Int))=
  some ((y1v (a.al.length+(ctrl.length+1)+n) (a.al.length+ctrl.length) (ya4 a ctrl) 0).map insP,(a.al.length:Int),((ctrl.length+1:Nat):Int)):=by
 have h1:=h.n1;have h2:=h.es;have h3:=h.al;have h4:=h.ct;have h5:=h.hn;refine y5I (f:=y3u (autP a) ctrl (y3p (fun x=>x.f) a.es,y3p edP a.es)) (fun k=>((k:Int),(y1v (a.al.length+(ctrl.length+1)+n) (a.al.length+ctrl.length) ((ya4 a ctrl).take k) 0).map insP,(a.al.length:Int),((ctrl.length+1:Nat):Int))) a.al.length (by omega) (fun k hk=>?_) ?_
 ·rw [y3u,if_pos (by simp [autP];omega)];dsimp only [autP];have hg:=ydb (moved:=a.al.length+(ctrl.length+1)+n) (alarm:=a.al.length+ctrl.length) h k (by omega);have hf:=ybT (a:=a) a.al[k];rw [ya hk,yOb,yac (by omega) (by omega) (by omega),yOb,ydE (by omega) (by omega),yOb,
   show(kget (y3p edP a.es) a.al[k]).getD []=(a.es.filter fun x=>x.e==a.al[k]).map edP from by rw [y3p,y9G];rfl,
   show(a.al.length:Int)+((ctrl.length+1:Nat):Int)+a.n=((a.al.length+(ctrl.length+1)+n:Nat):Int) by omega,
   show(a.al.length:Int)+(ctrl.length:Int)=((a.al.length+ctrl.length:Nat):Int) by omega,
   yhq (fun x hx=>by have:=h.ed x (List.mem_filter.1 hx).1;omega) (by omega) (by omega) (by rw [List.length_map];omega),yOb,
   show(k:Int)+1=((k+1:Nat):Int) by omega,W_nat (by omega),List.take_succ_eq_append_getElem (by rw [y8r];exact hk),ya3,List.map_append,ydF hk,Nat.zero_add,List.length_map]
 ·rw [y3u,if_neg (by simp [autP]),List.take_of_length_le (by rw [y8r];omega)]
set_option maxHeartbeats 1000000 in
theorem yeo(h:GenIn a ctrl n){L:List (Int×Int)}(hL:L.length≤100000):iter (y3t ctrl (y3p (fun x=>x.f) a.es,y3p edP a.es)) (0,L,(a.al.length:Int),((ctrl.length+1:Nat):Int))=
  some (L++(y1f (y9q a ctrl)).map insP,(a.al.length:Int),((ctrl.length+1:Nat):Int)):=by
 have h1:=h.n1;have h2:=h.es;have h3:=h.al;have h4:=h.ct;have h5:=h.hn;have hcl:∀k,k≤ctrl.length→(y1f ((y9q a ctrl).take k)).length≤k*2000:=by
  intro k
  induction k with
  | zero=>intro _;simp [y1f]
  | succ k ih=>
   intro hk;have:=ih (by omega);rw [List.take_succ_eq_append_getElem (by rw [y9H];omega)];rw [yaM,List.length_append,ydG (by omega)];have hf:=ybT (a:=a) ctrl[k];have:=yeG (a.al.length+k) ((a.es.filter fun x=>x.e==ctrl[k]).map fun x=>a.al.length+(ctrl.length+1)+x.f.toNat);rw [List.length_map] at this;dsimp only;omega
 have key:=y5I (f:=y3t ctrl (y3p (fun x=>x.f) a.es,y3p edP a.es)) (fun k=>((k:Int),L++(y1f ((y9q a ctrl).take k)).map insP,(a.al.length:Int),((ctrl.length+1:Nat):Int))) ctrl.length (by omega) (o:=(L++(y1f (y9q a ctrl)).map insP,(a.al.length:Int),((ctrl.length+1:Nat):Int))) (fun k hk=>by
  rw [y3t,if_pos (by simp;omega)];dsimp only;have hg:=hcl k (by omega);have hf:=ybT (a:=a) ctrl[k];have hms:(kget (y3p (fun x=>x.f) a.es) ctrl[k]).getD []=(((a.es.filter fun x=>x.e==ctrl[k]).map fun x=>x.f.toNat).map fun k:Nat=>(k:Int)):=by
   rw [y3p,y9G,List.map_map];simp only [kget,List.find?_nil,Option.map_none,Option.getD_none,List.nil_append];refine List.map_congr_left fun x hx=>?_;have:=h.ed x (List.mem_filter.1 hx).1;simp only [Function.comp_def];omega
  rw [ya hk,yOb,ydE (by omega) (by omega),yOb,hms,
   show(a.al.length:Int)+(k:Int)=((a.al.length+k:Nat):Int) by omega,
   yfD (fun x hx=>by
    obtain⟨y,hy,rfl⟩:=List.mem_map.1 hx;have:=h.ed y (List.mem_filter.1 hy).1;omega) (by omega) (by omega) (by simp only [List.length_append,List.length_map];omega),yOb,
   show(k:Int)+1=((k+1:Nat):Int) by omega,W_nat (by omega),List.take_succ_eq_append_getElem (by rw [y9H];exact hk),List.append_assoc,←List.map_append]
  rw [yaM,ydG hk,List.map_map];rfl) (by
  rw [y3t,if_neg (by simp),List.take_of_length_le (by rw [y9H];omega)])
 rw [List.take_zero] at key;simpa [y1f] using key
def codeP(a:Aut)(ctrl:List Int)(n:Nat):(Int×Int×Int×List Bool×List (Int×Int))×List Int×List Int×Int:=
 (((a.al.length:Int),((ctrl.length+1:Nat):Int),((n+1:Nat):Int),true::List.replicate n false,(genP a ctrl).map insP),a.al,ctrl,(n:Int))
set_option maxHeartbeats 1000000 in
theorem yeH(h:GenIn a ctrl n)(hms:a.ms.length≤1000000)(he:a.err=0)(hc:yD 32 none ctrl=0)(hs:y1c ctrl a.al=some true):yU (autP a) ctrl=some (codeP a ctrl n,0):=by
 have h0:=h.n0;have h1:=h.n1;have h2:=h.es;have h3:=h.al;have h4:=h.ct;have h5:=h.hn;have hg:=ydb (moved:=a.al.length+(ctrl.length+1)+n) (alarm:=a.al.length+ctrl.length) h a.al.length (Nat.le_refl _);rw [List.take_of_length_le (by rw [y8r];omega)] at hg;rw [yU,yb6 (by omega) (by omega) (by omega),yOb,he,if_neg (by simp),ya1 (by omega),yOb,hc,if_neg (by simp),
  show y1c ctrl (autP a).1=some true from hs,yOb,if_neg (by simp),if_neg (by simp [autP];omega),if_neg (by simp [autP];omega),yhr (by omega),yOb,
  show(autP a).1.length=a.al.length from rfl,show W ((ctrl.length:Int)+1)=((ctrl.length+1:Nat):Int) by rw [show (ctrl.length:Int)+1=((ctrl.length+1:Nat):Int) by omega,W_nat (by omega)],
  yfF h,yOb,yeo h (by rw [List.length_map];omega),yOb,
  show W ((autP a).2.1+1)=((n+1:Nat):Int) by
   show W (a.n+1)=_;rw [show a.n+1=((n+1:Nat):Int) by omega,W_nat (by omega)],
  y9b (by omega) (by omega),yOb,Int.toNat_natCast]
 have hi:idx (List.replicate (n+1) false) 0=some false:=by rw [List.replicate_succ];rfl
 have hu:upd (List.replicate (n+1) false) 0 true=some (true::List.replicate n false):=by
  unfold upd;rw [if_pos (by simp),List.replicate_succ];rfl
 rw [hi,yOb,hu,yOb,show(autP a).1=a.al from rfl,y9Z (by omega),yOb,y9Z (by omega),yOb];have e2:(autP a).2.1=(n:Int):=h5;rw [e2];simp only [codeP,genP,genI,List.map_append,List.length_cons,List.length_replicate,h5,Int.toNat_natCast];rfl
end
def prgP(m c n:Nat)(start:List Bool)(L:List Ins):Int×Int×Int×List Bool×List (Int×Int):=((m:Int),(c:Int),(n:Int),start,L.map insP)
def stB(op:Int)(acc v:Bool):Bool:=if op=7 then acc else if op=8 then !acc else if op=9 then v||acc else v && !acc
theorem yfG{op:Int}(h1:7≤op)(h2:op≤10)(k:Int)(acc:Bool)(b:List Bool):y7e ⟨op,k⟩ acc b=b.set k.toNat (stB op acc (b.getD k.toNat false)):=by
 have hc:op=7∨op=8∨op=9∨op=10:=by omega
 rcases hc with rfl|rfl|rfl|rfl <;> rfl
theorem yep{op:Int}(h1:1≤op)(h2:op≤13):∃T e,y1i=some T∧T.length=13∧idx T (W (op-1))=some e∧
    ((op≤6∧e.2.2.2.1=none∧e.2.2.2.2=none∧∃f,e.2.2.1=some f∧∀acc v k,f acc v=some (yam ⟨op,k⟩ acc v))∨
     (7≤op∧op≤10∧e.2.2.1=none∧e.2.2.2.2=none∧∃f,e.2.2.2.1=some f∧∀acc v,f acc v=some (stB op acc v))∨
     (11≤op∧e.2.2.1=none∧e.2.2.2.1=none∧∃f,e.2.2.2.2=some f∧∀acc,f acc=some (if op=11 then true else if op=12 then acc else !acc))):=by
  have hc:op=1∨op=2∨op=3∨op=4∨op=5∨op=6∨op=7∨op=8∨op=9∨op=10∨op=11∨op=12∨op=13:=by omega
  rcases hc with rfl|rfl|rfl|rfl|rfl|rfl|rfl|rfl|rfl|rfl|rfl|rfl|rfl
  all_goals refine⟨_,_,rfl,rfl,rfl,?_⟩
  · exact .inl ⟨by decide,rfl,rfl,_,rfl,fun _ _ _=>rfl⟩
  · exact .inl ⟨by decide,rfl,rfl,_,rfl,fun _ _ _=>rfl⟩
  · exact .inl ⟨by decide,rfl,rfl,_,rfl,fun _ _ _=>rfl⟩
  · exact .inl ⟨by decide,rfl,rfl,_,rfl,fun _ _ _=>rfl⟩
  · exact .inl ⟨by decide,rfl,rfl,_,rfl,fun _ _ _=>rfl⟩
  · exact .inl ⟨by decide,rfl,rfl,_,rfl,fun _ _ _=>rfl⟩
  · exact .inr (.inl ⟨by decide,by decide,rfl,rfl,_,rfl,fun _ _=>rfl⟩)
  · exact .inr (.inl ⟨by decide,by decide,rfl,rfl,_,rfl,fun _ _=>rfl⟩)
  · exact .inr (.inl ⟨by decide,by decide,rfl,rfl,_,rfl,fun _ _=>rfl⟩)
  · exact .inr (.inl ⟨by decide,by decide,rfl,rfl,_,rfl,fun _ _=>rfl⟩)
  · exact .inr (.inr ⟨by decide,rfl,rfl,_,rfl,fun _=>rfl⟩)
  · exact .inr (.inr ⟨by decide,rfl,rfl,_,rfl,fun _=>rfl⟩)
  · exact .inr (.inr ⟨by decide,rfl,rfl,_,rfl,fun _=>rfl⟩)
structure PrgIn (m c n:Nat) (start:List Bool) (L:List Ins):Prop where
 hm:m≤256
 hc:c≤256
 hn:n≤256
 st:start.length=n
 len:L.length≤2048
 ok:∀(i:Nat) (x:Ins),L[i]? =some x→InsOk L.length (m+c+n) m i x
section
variable{m c n:Nat}{start:List Bool}{L:List Ins}
theorem yio(h:PrgIn m c n start L):y4m (prgP m c n start L)=some 0:=by
 have h1:=h.hm;have h2:=h.hc;have h3:=h.hn;have h4:=h.st;have h5:=h.len;have hi:iter (y3k (prgP m c n start L)) 0=some (.inl ()):=by
  refine y5I (f:=y3k (prgP m c n start L)) (fun k=>(k:Int)) 3 (by omega) (fun k hk=>?_) ?_
  ·rw [y3k,if_pos (by simp;omega)];have hx:∃x:Nat,idx ([(prgP m c n start L).1,(prgP m c n start L).2.1,(prgP m c n start L).2.2.1]:List Int) (k:Int)=some (x:Int)∧x≤256:=by
    have:k=0∨k=1∨k=2:=by omega
    rcases this with rfl|rfl|rfl
    ·exact ⟨m,rfl,h1⟩
    ·exact ⟨c,rfl,h2⟩
    ·exact ⟨n,rfl,h3⟩
   obtain⟨x,hx,hle⟩:=hx;rw [hx,yOb,if_neg (by simp only [Bool.or_eq_true,decide_eq_true_eq];omega),show(k:Int)+1=((k+1:Nat):Int) by omega,W_nat (by omega)]
  ·rfl
 rw [y4m,hi,yOb];dsimp only;rw [if_neg (by simp [prgP,h4]),if_neg (by simp [prgP];omega)]
theorem yhs(h:PrgIn m c n start L):y4w (prgP m c n start L)=some ((m+c+n:Nat):Int):=by
 have h1:=h.hm;have h2:=h.hc;have h3:=h.hn;rw [y4w];dsimp only [prgP];rw [W_of (x:=(m:Int)+c) (by omega) (by omega),W_of (by omega) (by omega)];simp
theorem yiL(h:PrgIn m c n start L){i:Nat}(hi:i<L.length):y2r (prgP m c n start L) (i:Int)=some 0:=by
 have hk:=h.ok i L[i] (yGe hi);obtain⟨T,e,hT,hl,he,hcase⟩:=yep hk.op.1 hk.op.2;have hat:idx (prgP m c n start L).2.2.2.2 (i:Int)=some (insP L[i]):=by
  rw [ya (by simpa [prgP] using hi)];simp [prgP]
 have hop:=hk.op;rw [y2r,hat,yOb,hT,yOb,if_neg (by rw [hl];simp only [Bool.or_eq_true,decide_eq_true_eq];show ¬(L[i].op<1∨L[i].op>((13:Nat):Int));omega),
  show idx T (W ((insP L[i]).1-1))=some e from he,yOb]
 have hw:=yhs h;have hj:∀b:Bool,yC (prgP m c n start L) (insP L[i]) e b=if b then some 2 else if(e.2.2.2.1.isSome&&decide (L[i].arg<(m:Int))) then some 19 else some 0:=fun b=>rfl
 have hbit:e.2.2.2.2=none→L[i].op≤10→(e.2.2.2.1.isSome=true→7≤L[i].op)→(if e.2.2.2.2.isSome=true then(if ((decide ((insP L[i]).2≤(i:Int)))||(decide ((insP L[i]).2>((prgP m c n start L).2.2.2.2.length:Int))))=true then some 2 else some 0) else if decide ((insP L[i]).2<0)=true then yC (prgP m c n start L) (insP L[i]) e true else(y4w (prgP m c n start L)).bind fun r51=>yC (prgP m c n start L) (insP L[i]) e (decide ((insP L[i]).2≥r51)))=some 0:=by
  intro h1 h2 h3;have hb:=hk.bit h2;rw [if_neg (by rw [h1];simp),if_neg (show ¬decide ((insP L[i]).2<0)=true by rw [decide_eq_true_eq];show ¬L[i].arg<0;omega),hw,yOb,hj,if_neg (show ¬decide ((insP L[i]).2≥((m+c+n:Nat):Int))=true by rw [decide_eq_true_eq];show ¬L[i].arg≥_;omega)];rw [if_neg];rw [Bool.and_eq_true,decide_eq_true_eq];rintro⟨h4,h5⟩;have:=hk.store (h3 h4) h2;omega
 rcases hcase with ⟨h1,h2,h3,_⟩|⟨h1,h2,h3,h4,_⟩|⟨h1,h2,h3,f,h4,_⟩
 ·exact hbit h3 (by omega) (fun h=>by rw [h2] at h;cases h)
 ·exact hbit h4 h2 (fun _=>h1)
 ·have hb:=hk.jump h1;have hlen:(prgP m c n start L).2.2.2.2.length=L.length:=by simp [prgP]
  rw [if_pos (by rw [h4];rfl),if_neg];rw [hlen];simp only [Bool.or_eq_true,decide_eq_true_eq];show ¬(L[i].arg≤(i:Int)∨L[i].arg>(L.length:Int));omega
theorem ycL(h:PrgIn m c n start L):y4x (prgP m c n start L)=some 0:=by
 have h5:=h.len;have hlen:(prgP m c n start L).2.2.2.2.length=L.length:=by simp [prgP]
 have hi:iter (y3w (prgP m c n start L)) 0=some (.inl ()):=by
  refine y5I (f:=y3w (prgP m c n start L)) (fun k=>(k:Int)) L.length (by omega) (fun k hk=>?_) ?_
  ·rw [y3w,if_pos (by rw [hlen];simp;omega),yiL h hk,yOb,if_neg (by simp),show(k:Int)+1=((k+1:Nat):Int) by omega,W_nat (by omega)]
  ·rw [y3w,if_neg (by rw [hlen];simp)]
 rw [y4x,yio h,yOb,if_neg (by simp),hi];rfl
theorem yht(h:PrgIn m c n start L):y4y (prgP m c n start L)=some ((List.replicate c false,start),0):=by
 have h2:=h.hc;have h3:=h.hn;have h4:=h.st;rw [y4y,ycL h,yOb,if_neg (by simp)];dsimp only [prgP];rw [y9b (by omega) (by omega),yOb,yr (by simp;omega),yOb];simp
end
end Go.Proofs.YtecmobjeeonmaaaGreatDoor
namespace Go.Proofs.YtecmobjeeonmaaaGreatDoor
def y5w :Nat→List Int→List Int→List Int→List Int
 | 0,_,_,out=>out
 | _+1,[],[],out=>out
 | f+1,[],_::vs,out=>y5w f [] vs out
 | f+1,a::us,[],out=>y5w f us [] (out++[a])
 | f+1,a::us,b::vs,out=>if a<b then y5w f us (b::vs) (out++[a]) else if b<a then y5w f (a::us) vs out else y5w f us vs out
theorem y7h :∀(f:Nat) (us vs out:List Int),Inc us→Inc vs→us.length+vs.length≤f→y5w f us vs out=out++us.filter fun x=>!hasB vs x
 | 0,us,vs,out,_,_,h=>by
  have ha:us= []:=List.eq_nil_of_length_eq_zero (by omega);rw [ha,y5w];simp
 | f+1,[],[],out,_,_,_=>by rw [y5w];simp
 | f+1,[],b::vs,out,ha,hb,h=>by
  rw [y5w,y7h f [] vs out ha (List.pairwise_cons.1 hb).2 (by simp at h ⊢;omega)];simp
 | f+1,a::us,[],out,ha,hb,h=>by
  rw [y5w,y7h f us [] _ (List.pairwise_cons.1 ha).2 hb (by simp at h ⊢;omega),List.filter_cons_of_pos (by simp [hasB]),List.append_assoc];rfl
 | f+1,a::us,b::vs,out,ha,hb,h=>by
  obtain⟨ha1,ha2⟩:=List.pairwise_cons.1 ha;obtain⟨hb1,hb2⟩:=List.pairwise_cons.1 hb;rw [List.length_cons,List.length_cons] at h;rw [y5w];by_cases h1:a<b
  ·have hn:hasB (b::vs) a=false:=by
    rw [y9A];intro hm;rcases List.mem_cons.1 hm with h2|h2
    ·omega
    ·have:=hb1 a h2;omega
   rw [if_pos h1,y7h f us (b::vs) _ ha2 hb (by rw [List.length_cons];omega),List.filter_cons_of_pos (by rw [hn];rfl),List.append_assoc];rfl
  ·rw [if_neg h1];by_cases h2:b<a
   ·rw [if_pos h2,y7h f (a::us) vs out ha hb2 (by rw [List.length_cons];omega)];congr 1;apply List.filter_congr;intro x hx;have hx2:a≤x:=by
     rcases List.mem_cons.1 hx with h3|h3
     ·omega
     ·have:=ha1 x h3;omega
    congr 1;rw [Bool.eq_iff_iff,yb,yb,List.mem_cons];exact⟨.inr,fun h3=>h3.elim (fun h4=>by omega) id⟩
   ·have hab:a=b:=by omega
    subst hab;rw [if_neg h2,y7h f us vs out ha2 hb2 (by omega),List.filter_cons_of_neg (by rw [yb.2 (List.mem_cons_self ..)];simp)];congr 1;apply List.filter_congr;intro x hx;have hx2:=ha1 x hx;congr 1;rw [Bool.eq_iff_iff,yb,yb,List.mem_cons];exact⟨.inr,fun h3=>h3.elim (fun h4=>by omega) id⟩
def subB(us vs:List Int):Bool:=us.all (hasB vs)
theorem ygt{us vs:List Int}(ha:Inc us)(hb:Inc vs):(y5w (us.length+vs.length) us vs []= [])↔subB us vs=true:=by
 rw [y7h _ us vs [] ha hb (Nat.le_refl _),List.nil_append,List.filter_eq_nil_iff,subB,List.all_eq_true];exact⟨fun h x hx=>by simpa using h x hx,fun h x hx=>by rw [h x hx];simp⟩
end Go.Proofs.YtecmobjeeonmaaaGreatDoor
namespace Go.Proofs.YtecmobjeeonmaaaGreatDoor
open Go Go.RowKit
theorem yhu :∀(f:Nat) (us vs out:List Int),us.length+vs.length≤f→out.length+us.length≤4294967296→iterF (yf yB) (f+1) (out,us,vs)=some (y5w f us vs out):=by
 intro f
 induction f with
 | zero=>
  intro us vs out h _;have h1:us= []:=List.eq_nil_of_length_eq_zero (by omega);have h2:vs= []:=List.eq_nil_of_length_eq_zero (by omega);subst h1;subst h2;rfl
 | succ f ih=>
  intro us vs out h ho;rw [yc];cases us with
  | nil=>
   cases vs with
   | nil=>rfl
   | cons b vs=>
    have e:yf yB (out,[],b::vs)=some (.inl (out,[],vs)):=by
     rw [yf];dsimp only;rw [if_pos (by simp),if_neg (by simp),yw];dsimp only;rw [if_pos (by simp),if_pos (by simp),yl,if_neg (by simp),yi,if_pos rfl];dsimp only;rw [y2e,yOb,y5H,yOb];rfl
    rw [e];exact ih [] vs out (by simp at h ⊢;omega) ho
  | cons a us=>
   rw [List.length_cons] at h ho;have ho':app out ([a]:List Int)=some (out++[a]):=yr (by simp;omega);cases vs with
   | nil=>
    have e:yf yB (out,a::us,[])=some (.inl (out++[a],us,[])):=by
     rw [yf];dsimp only;rw [if_pos (by simp),if_pos (by simp),if_pos (by simp),yw];dsimp only;rw [if_neg (by simp),yl,if_pos rfl];dsimp only;rw [y2e,yOb,y5H,yOb,yi,if_neg (by simp),yp,show yB true false=some true from rfl,yOb,if_pos rfl];dsimp only;rw [ho',yOb]
    rw [e];exact ih us [] (out++[a]) (by simp at h ⊢;omega) (by simp;omega)
   | cons b vs=>
    rw [List.length_cons] at h;have e0:yf yB (out,a::us,b::vs)=yl yB (out,a::us,b::vs) (decide (a≤b)) (decide (b≤a)):=by
     rw [yf];dsimp only;rw [if_pos (by simp),if_pos (by simp),if_neg (by simp;omega),y2e,yOb,y2e,yOb,yw];dsimp only;rw [if_pos (by simp),if_neg (by simp;omega),y2e,yOb,y2e,yOb]
    rw [e0,y5w,yl];dsimp only;by_cases h1:a<b
    ·rw [if_pos (show decide (a≤b)=true by simp;omega),y2e,yOb,y5H,yOb,yi,if_neg (by simp;omega),yp,show decide (a≤b)=true by simp;omega,show decide (b≤a)=false by simp;omega,
      show yB true false=some true from rfl,yOb,if_pos rfl,if_pos h1]
     dsimp only;rw [ho',yOb];exact ih us (b::vs) (out++[a]) (by simp;omega) (by simp;omega)
    ·rw [if_neg h1];by_cases h2:b<a
     ·rw [if_neg (show ¬decide (a≤b)=true by simp;omega),yi,if_pos (show decide (b≤a)=true by simp;omega)];dsimp only;rw [y2e,yOb,y5H,yOb,yp,show decide (a≤b)=false by simp;omega,show decide (b≤a)=true by simp;omega,
       show yB false true=some false from rfl,yOb,if_neg (by simp),if_pos h2]
      exact ih (a::us) vs out (by simp;omega) (by simp;omega)
     ·rw [if_pos (show decide (a≤b)=true by simp;omega),y2e,yOb,y5H,yOb,yi,if_pos (show decide (b≤a)=true by simp;omega)];dsimp only;rw [y2e,yOb,y5H,yOb,yp,show decide (a≤b)=true by simp;omega,show decide (b≤a)=true by simp;omega,
       show yB true true=some false from rfl,yOb,if_neg (by simp),if_neg h2]
      exact ih us vs out (by omega) (by omega)
theorem yhv{us vs:List Int}(hu:us.length≤4294967296)(hv:vs.length≤4294967296):y3P us vs=some (y5w (us.length+vs.length) us vs []):=by
 have h:iter (yf yB) (([]:List Int),us,vs)=some (y5w (us.length+vs.length) us vs []):=y5i (by omega) (yhu _ us vs [] (Nat.le_refl _) (by simpa using hu));rw [y3P,y3g,h];rfl
theorem ydH{us vs:List Int}(hu:us.length≤4294967296)(hv:vs.length≤4294967296)(iu:Inc us)(iv:Inc vs):y1c us vs=some (subB us vs):=by
 rw [y1c,yhv hu hv,yOb];have h:=ygt iu iv;cases hb:subB us vs with
 | true=>rw [h.2 hb];rfl
 | false=>
  have hn:y5w (us.length+vs.length) us vs []≠ []:=fun e=>by rw [h.1 e] at hb;cases hb
  have:(y5w (us.length+vs.length) us vs []).length≠0:=fun e=>hn (List.eq_nil_of_length_eq_zero e);rw [show (((y5w (us.length+vs.length) us vs []).length:Int)==0)=false from by simpa using hn]
theorem yhw{us al:List Int}(hu:us.length<4294967296)(ha:al.length<4294967296)(iu:Inc us)(ia:Inc al)(he:yD 32 none us=0)(hs:subB us al=true):y6u us al=some 0:=by
 rw [y6u,ya1 (by omega),he,yOb,if_neg (by simp),ydH (by omega) (by omega) iu ia,hs,yOb];rfl
theorem yhx{ys:List Bool}{k:Nat}(h:k<ys.length):(ys.take k++List.replicate (ys.length-k) false).set k ys[k]=ys.take (k+1)++List.replicate (ys.length-(k+1)) false:=by
 have hl:(ys.take k).length=k:=by simp;omega
 rw [List.set_append_right _ _ (by omega),hl,Nat.sub_self,show ys.length-k=(ys.length-(k+1))+1 by omega,List.replicate_succ,List.set_cons_zero,List.take_succ_eq_append_getElem h,List.append_assoc];rfl
theorem ygu{p:Int×Int×Int×List Bool×List (Int×Int)}{al ctrl ev:List Int}{n:Int}(ha:al.length<4294967296)(he:ev.length<4294967296)(ia:Inc al)(ie:Inc ev)(hs:yD 32 none ev=0)(hb:subB ev al=true):
  y6m (p,al,ctrl,n) ev=some (al.map (hasB ev),0):=by
 have hi:iter (y4g (p,al,ctrl,n) ev) (0,List.replicate al.length false)=some (al.map (hasB ev)):=by
  have hml:(al.map (hasB ev)).length=al.length:=List.length_map ..;have e0:((0:Int),List.replicate al.length false)=(fun k:Nat=>((k:Int),(al.map (hasB ev)).take k++List.replicate ((al.map (hasB ev)).length-k) false)) 0:=by simp
  refine Eq.trans (congrArg _ e0) (y5I (f:=y4g (p,al,ctrl,n) ev) (fun k:Nat=>((k:Int),(al.map (hasB ev)).take k++List.replicate ((al.map (hasB ev)).length-k) false)) al.length (by omega) (fun k hk=>?_) ?_)
  ·rw [y4g];dsimp only;have hk2:k<((al.map (hasB ev)).take k++List.replicate ((al.map (hasB ev)).length-k) false).length:=by simp;omega
   rw [if_pos (by simp;omega),ya hk,yOb,y7y he ie,yOb,ya hk2,yOb,upd,if_pos ⟨by omega,by omega⟩,yOb,Int.toNat_natCast,
    show(k:Int)+1=((k+1:Nat):Int) by omega,W_nat (by omega),show hasB ev al[k]=(al.map (hasB ev))[k]'(by rw [hml];exact hk) by simp,yhx (by rw [hml];exact hk)]
  ·rw [y4g];dsimp only;rw [if_neg (by simp),hml,Nat.sub_self,List.take_of_length_le (by omega),List.replicate_zero,List.append_nil]
 rw [y6m];dsimp only;rw [yhw he ha ie ia hs hb,yOb,if_neg (by simp),y9b (by omega) (by omega),yOb,Int.toNat_natCast,hi];rfl
theorem ygv{x y z:List Bool}(h:x.length+y.length+z.length≤100000):y5t [x,y,z]=some (x++y++z):=by
 have h1:iter (y2j [x,y,z]) (0,0)=some ((x.length+y.length+z.length:Nat):Int):=by
  refine y5i (n:=4) (by omega) ?_;have hn:∀(i:Nat) (k:Nat) (l:List Bool),[x,y,z][i]? =some l→k+l.length≤100000→i<3→y2j [x,y,z] ((i:Int),(k:Int))=some (.inl (((i+1:Nat):Int),((k+l.length:Nat):Int))):=fun i k l hl hk hi=>by
   rw [y2j];dsimp only;rw [if_pos (by simp;omega),ybH,hl,yOb,show(k:Int)+(l.length:Int)=((k+l.length:Nat):Int) by omega,W_nat (by omega),if_neg (by simp;omega),y5A];dsimp only;rw [show (i:Int)+1=((i+1:Nat):Int) by omega,W_nat (by omega)]
  rw [yc,show y2j [x,y,z] (0,0)=_ from hn 0 0 x rfl (by omega) (by omega)];dsimp only;rw [yc,hn (0+1) (0+x.length) y rfl (by omega) (by omega)];dsimp only;rw [yc,hn (0+1+1) (0+x.length+y.length) z rfl (by omega) (by omega)];dsimp only;rw [yc,y2j,if_neg (by simp)];show some ((0+x.length+y.length+z.length:Nat):Int)=_;rw [Nat.zero_add]
 have h2:iter (y2i [x,y,z]) (0,([]:List Bool))=some (x++y++z):=by
  refine y5i (n:=4) (by omega) ?_;have hn:∀(i:Nat) (k l:List Bool),[x,y,z][i]? =some l→k.length+l.length≤100000→i<3→y2i [x,y,z] ((i:Int),k)=some (.inl (((i+1:Nat):Int),k++l)):=fun i k l hl hk hi=>by
   rw [y2i];dsimp only;rw [if_pos (by simp;omega),ybH,hl,yOb,yr (by omega),yOb,show(i:Int)+1=((i+1:Nat):Int) by omega,W_nat (by omega)]
  rw [yc,show y2i [x,y,z] (0,[])=_ from hn 0 [] x rfl (by simp;omega) (by omega)];dsimp only;rw [yc,hn (0+1) ([]++x) y rfl (by simp;omega) (by omega)];dsimp only;rw [yc,hn (0+1+1) ([]++x++y) z rfl (by simp;omega) (by omega)];dsimp only;rw [yc,y2i,if_neg (by simp)];rfl
 rw [y5t,h1,yOb,y5V,if_pos ⟨rfl,by omega,by omega⟩,yOb,h2];rfl
theorem yhy{m c n:Nat}{start:List Bool}{L:List Ins}(h:PrgIn m c n start L){inp out mem:List Bool}(hi:inp.length=m)(ho:out.length=c)(hm:mem.length=n):
  y5D (prgP m c n start L) (out,mem) inp=some (inp++out++mem,0):=by
 have h1:=h.hm;have h2:=h.hc;have h3:=h.hn;rw [y5D,ycL h,yOb,if_neg (by simp),if_neg (by simp [prgP,hi,ho,hm]),ygv (by show inp.length+out.length+mem.length≤_;omega)];rfl
theorem ygw{m c n:Nat}{start:List Bool}{L:List Ins}(h:PrgIn m c n start L){T}(hT:y1i=some T){i:Nat}(hi:i<L.length){acc:Bool}{xs:List Int}{b:List Bool}(hx:xs.length≤i)(hb:b.length=m+c+n):
  y1U (prgP m c n start L) T (b,(i:Int),acc,xs)=some (.inl ((y4V L[i] i acc b).2.2,((y4V L[i] i acc b).1:Int),(y4V L[i] i acc b).2.1,xs++[(i:Int)])):=by
 have hlen:=h.len;have hk:=h.ok i L[i] (yGe hi);obtain⟨T',e,hT',hl,he,hcase⟩:=yep hk.op.1 hk.op.2;rw [hT] at hT';cases hT';have hop:=hk.op;have hat:idx (prgP m c n start L).2.2.2.2 (i:Int)=some (insP L[i]):=by
  rw [ya (by simpa [prgP] using hi)];simp [prgP]
 have hinc:W ((i:Int)+1)=((i+1:Nat):Int):=by rw [show (i:Int)+1=((i+1:Nat):Int) by omega,W_nat (by omega)]
 rw [y1U];dsimp only;rw [if_pos (by simp [prgP];omega),yr (by simp;omega),yOb,hat,yOb,show idx T (W ((insP L[i]).1-1))=some e from he,yOb,hinc];have hbit:L[i].op≤10→idx b (insP L[i]).2=some (b.getD L[i].arg.toNat false):=fun h10=>by
  have h1:=hk.bit h10;show idx b L[i].arg=_;rw [show L[i].arg=(L[i].arg.toNat:Int) by omega,ya (by omega),Int.toNat_natCast,List.getD_eq_getElem?_getD,yGe (by omega)];rfl
 rcases hcase with ⟨h1,h2,h3,f,hf,hf2⟩|⟨h1,h1',h2,h3,f,hf,hf2⟩|⟨h1,h2,h3,f,hf,hf2⟩
 ·rw [if_pos (by rw [hf];rfl),hbit (by omega),yOb,hf,yOb,hf2 _ _ L[i].arg,yOb];have e1:y7B L[i] i acc=i+1:=by rw [y7B,if_pos ⟨hop.1,by omega⟩]
  have e2:y7e L[i] acc b=b:=by
   rw [y7e,if_neg (by omega),if_neg (by omega),if_neg (by omega),if_neg (by omega)]
  simp only [y4V,e1,e2]
 ·have h10:=hk.bit h1';rw [if_neg (by rw [h2];simp),if_pos (by rw [hf];rfl),hbit h1',yOb,hf,yOb,hf2,yOb,yOb];have e1:y7B L[i] i acc=i+1:=by rw [y7B,if_pos ⟨hop.1,by omega⟩]
  have e2:∀v,yam L[i] acc v=acc:=fun v=>by
   rw [yam,if_neg (by omega),if_neg (by omega),if_neg (by omega),if_neg (by omega),if_neg (by omega),if_neg (by omega)]
  have e3:=yfG h1 h1' L[i].arg acc b;rw [show upd b (insP L[i]).2 (stB L[i].op acc (b.getD L[i].arg.toNat false))=some (y7e L[i] acc b) from by
   rw [show y7e L[i] acc b=_ from e3];exact if_pos ⟨h10.1,by show L[i].arg<_;omega⟩,yOb]
  simp only [y4V,e1,e2]
 ·have hj:=hk.jump h1;rw [if_neg (by rw [h2];simp),if_neg (by rw [h3];simp),hf,yOb,hf2,yOb];have e2:∀v,yam L[i] acc v=acc:=fun v=>by
   rw [yam,if_neg (by omega),if_neg (by omega),if_neg (by omega),if_neg (by omega),if_neg (by omega),if_neg (by omega)]
  have e3:y7e L[i] acc b=b:=by
   rw [y7e,if_neg (by omega),if_neg (by omega),if_neg (by omega),if_neg (by omega)]
  have e1:((y7B L[i] i acc:Nat):Int)=if(if L[i].op=11 then true else if L[i].op=12 then acc else !acc)=true then L[i].arg else((i+1:Nat):Int):=by
   rw [y7B,if_neg (by omega)];have ha:(L[i].arg.toNat:Int)=L[i].arg:=by omega
   by_cases h11:L[i].op=11
   ·rw [if_pos h11,if_pos h11,if_pos rfl,ha]
   ·rw [if_neg h11,if_neg h11];by_cases h12:L[i].op=12
    ·rw [if_pos h12,if_pos h12];cases acc
     ·rfl
     ·rw [if_pos rfl,if_pos rfl,ha]
    ·rw [if_neg h12,if_neg h12];cases acc
     ·show ((if false=true then i+1 else L[i].arg.toNat:Nat):Int)=_;rw [if_neg (by simp)];exact ha
     ·rfl
  simp only [y4V,e2,e3,e1];generalize (if L[i].op=11 then true else if L[i].op=12 then acc else !acc)=q;cases q <;> rfl
theorem PrgIn.fwd{m c n:Nat}{start:List Bool}{L:List Ins}(h:PrgIn m c n start L):Fwd L:=fun i x hx ho=>by
 have hk:=h.ok i x hx;have:=hk.op;exact(hk.jump (by omega)).1
theorem yeI(x:Ins)(acc:Bool)(b:List Bool):(y7e x acc b).length=b.length:=by
 unfold y7e;split
 ·simp
 ·split
  ·simp
  ·split
   ·simp
   ·split <;> simp
theorem yip{m c n:Nat}{start:List Bool}{L:List Ins}(h:PrgIn m c n start L){T}(hT:y1i=some T):∀(f i:Nat) (acc:Bool) (xs:List Int) (b:List Bool),L.length≤i+f→xs.length≤i→b.length=m+c+n→
  (yu L i acc b).length=b.length∧∃ys,iterF (y1U (prgP m c n start L) T) (f+1) (b,(i:Int),acc,xs)=some (yu L i acc b,ys):=by
 intro f
 induction f with
 | zero=>
  intro i acc xs b h1 h2 h3;rw [yaQ (by omega)];refine⟨rfl,xs,?_⟩;rw [yc,y1U];dsimp only;rw [if_neg (by simp [prgP];omega)]
 | succ f ih=>
  intro i acc xs b h1 h2 h3;by_cases hi:i<L.length
  ·have hx:L[i]? =some L[i]:=yGe hi;have hg:=yaP h.fwd hx acc b;have hl:(y4V L[i] i acc b).2.2.length=b.length:=yeI ..;obtain⟨e1,ys,e2⟩:=ih (y4V L[i] i acc b).1 (y4V L[i] i acc b).2.1 (xs++[(i:Int)]) (y4V L[i] i acc b).2.2 (by omega) (by simp;omega) (by omega);rw [y5O h.fwd hx,yc,ygw h hT hi h2 h3];exact⟨by omega,ys,e2⟩
  ·rw [yaQ (by omega)];refine⟨rfl,xs,?_⟩;rw [yc,y1U];dsimp only;rw [if_neg (by simp [prgP];omega)]
theorem yhz :∃T,y1i=some T:=by
 obtain⟨T,_,h,_⟩:=yep (op:=1) (by omega) (by omega);exact⟨T,h⟩
theorem yhA{m c n:Nat}{start:List Bool}{L:List Ins}(h:PrgIn m c n start L){b:List Bool}(hb:b.length=m+c+n):(yu L 0 false b).length=b.length∧∃ys,y5W (prgP m c n start L) b=some (ys,yu L 0 false b):=by
 obtain⟨T,hT⟩:=yhz;obtain⟨h1,ys,h2⟩:=yip h hT L.length 0 false [] b (by omega) (by simp) hb;have h5:=h.len;refine⟨h1,ys,?_⟩;rw [y5W,hT,yOb,show iter (y1U (prgP m c n start L) T) (b,0,false,([]:List Int))=_ from y5i (by omega) h2];rfl
theorem ygx{m c n:Nat}{start:List Bool}{L:List Ins}(h:PrgIn m c n start L){b:List Bool}(hb:b.length=m+c+n):y5E (prgP m c n start L) b=some ((b.drop m).take c,b.drop (m+c)):=by
 have h1:=h.hm;have h2:=h.hc;have h3:=h.hn;rw [y5E];dsimp only [prgP];rw [show (m:Int)+c=((m+c:Nat):Int) by omega,W_nat (by omega),slc3,if_pos ⟨by omega,by omega,by omega,by omega⟩,yOb,slc3,if_pos ⟨by omega,by omega,by omega,by omega⟩,yOb,
  Int.toNat_natCast,Int.toNat_natCast,Int.toNat_natCast,List.drop_take,List.take_of_length_le (Nat.le_refl _),show m+c-m=c by omega]
theorem yhB{m c n:Nat}{start:List Bool}{L:List Ins}(h:PrgIn m c n start L){inp out mem:List Bool}(hi:inp.length=m)(ho:out.length=c)(hm:mem.length=n):
  y5g (prgP m c n start L) (out,mem) inp=some ((((yu L 0 false (inp++out++mem)).drop m).take c,(yu L 0 false (inp++out++mem)).drop (m+c)),0):=by
 have hb:(inp++out++mem).length=m+c+n:=by simp;omega
 obtain⟨h1,ys,h2⟩:=yhA h hb;rw [y5g,yhy h hi ho hm,yOb,if_neg (by simp)];dsimp only;rw [h2,yOb];dsimp only;rw [ygx h (by omega)];rfl
section
variable{a:Aut}{ctrl:List Int}{n:Nat}
theorem yff(h:GenIn a ctrl n)(ia:Inc a.al)(ic:Inc ctrl):PrgIn a.al.length (ctrl.length+1) (n+1) (true::List.replicate n false) (genP a ctrl):=by
 have h0:=h.n0;have h1:=h.n1;have h2:=h.es;have h3:=h.al;have h4:=h.ct;have h5:=h.hn;have h6:=yhj ia ic (a:=a);exact⟨by omega,by omega,by omega,by simp,by omega,yih h5 h.ed⟩
theorem yhC(h:GenIn a ctrl n)(ia:Inc a.al)(ic:Inc ctrl){ev:List Int}(ie:Inc ev)(hl:ev.length<4294967296)(he:yD 32 none ev=0)(hs:subB ev a.al=true){out mem:List Bool}(ho:out.length=ctrl.length+1)(hm:mem.length=n+1):
  y6d (codeP a ctrl n) (out,mem) ev=some ((((yu (genP a ctrl) 0 false (a.al.map (hasB ev)++out++mem)).drop a.al.length).take (ctrl.length+1),(yu (genP a ctrl) 0 false (a.al.map (hasB ev)++out++mem)).drop (a.al.length+(ctrl.length+1))),0):=by
 have h3:=h.al;rw [y6d,codeP,ygu (by omega) hl ia ie he hs,yOb,if_neg (by simp)];show(y5g (prgP a.al.length (ctrl.length+1) (n+1) (true::List.replicate n false) (genP a ctrl)) (out,mem) (a.al.map (hasB ev))).bind (fun r=>some r)=_;rw [yhB (yff h ia ic) (by simp) ho hm];rfl
theorem ydc{out mem:List Bool}(ho:out.length=ctrl.length+1)(hm:mem.length=n+1):y5u (codeP a ctrl n) (out,mem)=some 0:=by
 rw [y5u,if_neg (by simp [codeP,ho,hm])]
theorem yfH(h:GenIn a ctrl n){out mem:List Bool}(ho:out.length=ctrl.length+1)(hm:mem.length=n+1):y5Y (codeP a ctrl n) (out,mem)=some (out.getD ctrl.length false,0):=by
 rw [y5Y,ydc ho hm,yOb,if_neg (by simp),show idx (out,mem).1 ((codeP a ctrl n).2.2.1.length:Int)=some (out[ctrl.length]'(by omega)) from ya (xs:=out) (i:=ctrl.length) (by omega),yOb,List.getD_eq_getElem?_getD,yGe (by omega)];rfl
theorem yfI(h:GenIn a ctrl n){out mem:List Bool}(ho:out.length=ctrl.length+1)(hm:mem.length=n+1){q:Int→Bool}(hq:∀k,k<ctrl.length→out.getD k false=q (ctrl.getD k 0)):
  y3V (codeP a ctrl n) (out,mem)=some (ctrl.filter q,0):=by
 have h4:=h.ct;have hi:iter (y3K (codeP a ctrl n) (out,mem)) (0,([]:List Int))=some (ctrl.filter q):=by
  have e0:((0:Int),([]:List Int))=(fun k:Nat=>((k:Int),(ctrl.take k).filter q)) 0:=by simp
  refine Eq.trans (congrArg _ e0) (y5I (f:=y3K (codeP a ctrl n) (out,mem)) (fun k:Nat=>((k:Int),(ctrl.take k).filter q)) ctrl.length (by omega) (fun k hk=>?_) ?_)
  ·rw [y3K];dsimp only;have ht:(ctrl.take (k+1)).filter q=(ctrl.take k).filter q++(if q ctrl[k] then [ctrl[k]] else []):=by
    rw [List.take_succ_eq_append_getElem hk,List.filter_append];cases hc:q ctrl[k] <;> simp [hc]
   have hk3:out[k]'(by omega)=q ctrl[k]:=by
    have:=hq k hk;rwa [List.getD_eq_getElem?_getD,yGe (by omega),List.getD_eq_getElem?_getD,yGe hk] at this
   have hlen:((ctrl.take k).filter q).length≤32:=Nat.le_trans (List.length_filter_le ..) (by simp;omega);rw [if_pos (show decide ((k:Int)<((codeP a ctrl n).2.2.1.length:Int))=true from decide_eq_true (show (k:Int)<(ctrl.length:Int) by omega)),show idx (codeP a ctrl n).2.2.1 (k:Int)=some ctrl[k] from ya hk,yOb,ya (by omega),yOb,hk3,ht];cases hc:q ctrl[k] with
   | true=>
    rw [if_pos rfl,yr (by simp;omega),yOb,y3J,show(k:Int)+1=((k+1:Nat):Int) by omega,W_nat (by omega)];rfl
   | false=>
    rw [if_neg (by simp),y3J,show(k:Int)+1=((k+1:Nat):Int) by omega,W_nat (by omega),if_neg (by simp),List.append_nil]
  ·rw [y3K];dsimp only;rw [if_neg (show ¬decide ((ctrl.length:Int)<((codeP a ctrl n).2.2.1.length:Int))=true from by rw [decide_eq_true_eq];show ¬(ctrl.length:Int)<(ctrl.length:Int);omega),List.take_of_length_le (Nat.le_refl _)]
 rw [y3V,ydc ho hm,yOb,if_neg (by simp),hi];rfl
theorem ygy(h:GenIn a ctrl n){out mem:List Bool}(ho:out.length=ctrl.length+1)(hm:mem.length=n+1){s:Nat}(hs:s<n)(hq:∀k,k<n→mem.getD k false=decide (k=s)):
  y6v (codeP a ctrl n) (out,mem)=some ((s:Int),0):=by
 have h1:=h.n1;have hl:(mem.take n).length=n:=by simp;omega
 have hi:iter (y4A (mem.take n)) (0,0,0)=some (1,(s:Int)):=by
  have e0:((0:Int),(0:Int),(0:Int))=(fun k:Nat=>((k:Int),(if s<k then 1 else 0:Int),(if s<k then(s:Int) else 0))) 0:=by simp
  refine Eq.trans (congrArg _ e0) (y5I (f:=y4A (mem.take n)) (fun k:Nat=>((k:Int),(if s<k then 1 else 0:Int),(if s<k then(s:Int) else 0))) n (by omega) (fun k hk=>?_) ?_)
  ·rw [y4A];dsimp only;have hk3:(mem.take n)[k]'(by omega)=decide (k=s):=by
    have:=hq k hk;rw [List.getElem_take];rwa [List.getD_eq_getElem?_getD,yGe (by omega)] at this
   rw [if_pos (by rw [hl];simp;omega),ya (by omega),yOb,hk3];by_cases hks:k=s
   ·subst hks;rw [if_pos (by simp),if_neg (by omega),if_neg (by omega),if_pos (by omega),if_pos (by omega),y4z,show(k:Int)+1=((k+1:Nat):Int) by omega,W_nat (by omega)];rfl
   ·rw [if_neg (by simpa using hks),y4z,show(k:Int)+1=((k+1:Nat):Int) by omega,W_nat (by omega)];by_cases hsk:s<k
    ·rw [if_pos hsk,if_pos hsk,if_pos (by omega),if_pos (by omega)]
    ·rw [if_neg hsk,if_neg hsk,if_neg (by omega),if_neg (by omega)]
  ·rw [y4A];dsimp only;rw [if_neg (by rw [hl];simp),if_pos hs,if_pos hs]
 rw [y6v,ydc ho hm,yOb,if_neg (by simp),show slc (out,mem).2 0 (codeP a ctrl n).2.2.2=some (mem.take n) from by
  show slc mem 0 (n:Int)=_;rw [slc,if_pos ⟨by omega,by omega,by omega⟩];simp,yOb,hi,yOb,if_neg (by simp)]
end
structure Shows (a:Aut) (ctrl:List Int) (n:Nat) (s:Nat) (al:Bool) (st:List Bool×List Bool):Prop where
 ho:st.1.length=ctrl.length+1
 hm:st.2.length=n+1
 hs:s<n
 hq:∀k,k<n→st.2.getD k false=decide (k=s)
 ha:st.1.getD ctrl.length false=al
theorem yhD{us vs:List Int}(h:subB us vs=true):∀x∈us,x∈vs:=fun x hx=>yb.1 (List.all_eq_true.1 h x hx)
theorem ygz{a:Aut}{ctrl:List Int}{n:Nat}(h:GenIn a ctrl n)(ia:Inc a.al)(ic:Inc ctrl){ev:List Int}(ie:Inc ev)(hl:ev.length<4294967296)(he:yD 32 none ev=0)(hsub:subB ev a.al=true){st:List Bool×List Bool}{s:Nat}{al:Bool}(hv:Shows a ctrl n s al st):
  ∃st',y6d (codeP a ctrl n) st ev=some (st',0)∧Shows a ctrl n (ev.foldl (y6e a.es) (s,al)).1 (ev.foldl (y6e a.es) (s,al)).2 st'∧
   ∀k,k<ctrl.length→st'.1.getD k false=(stepF a.es (ev.foldl (y6e a.es) (s,al)).1 (ctrl.getD k 0)).isSome:=by
 have h1:=yhC h ia ic ie hl he hsub (out:=st.1) (mem:=st.2) hv.ho hv.hm;have v0:=yii (m:=a.al.length) (inp:=a.al.map (hasB ev)) (by simp) hv.ho hv.hm hv.hq hv.ha;obtain⟨v1,v2,v3⟩:=yhi h.hn h.ed ia ie (yhD hsub) hv.hs v0;refine⟨_,h1,⟨v1.out.1,v1.mem.1,v2,v1.mem.2,v1.out.2.1⟩,fun k hk=>?_⟩;rw [←v3 k hk];exact v1.out.2.2 k (by omega)
theorem Shows.start{a:Aut}{ctrl:List Int}{n:Nat}(h0:0<n):Shows a ctrl n 0 false (List.replicate (ctrl.length+1) false,true::List.replicate n false):=by
 refine⟨by simp,by simp,h0,fun k hk=>?_,?_⟩
 ·cases k with
  | zero=>rfl
  | succ k=>
   show(true::List.replicate n false).getD (k+1) false=_;rw [List.getD_cons_succ,List.getD_eq_getElem?_getD,List.getElem?_replicate];split <;> simp
 ·show (List.replicate (ctrl.length+1) false).getD ctrl.length false=_;rw [List.getD_eq_getElem?_getD,List.getElem?_replicate];split <;> rfl
theorem ygA{a:Aut}{ctrl:List Int}{n:Nat}(h:GenIn a ctrl n)(ia:Inc a.al)(ic:Inc ctrl):y4y (codeP a ctrl n).1=some ((List.replicate (ctrl.length+1) false,true::List.replicate n false),0):=yht (yff h ia ic)
theorem yiq :y5h=some true:=by kernel_rfl
theorem yir{xs:List (Int×Int×Int)}{p:(Int×Int×Int)→Option Bool}{q:(Int×Int×Int)→Bool}(hl:xs.length≤1000000)(hp:∀x,p x=some (q x)):
  ∃k,y2f xs p=some k∧((k= -1∧xs.find? q=none)∨∃(i:Nat) (h:i<xs.length),k=(i:Int)∧xs.find? q=some xs[i]):=by
 obtain⟨o,h1,h2⟩:=yd (f:=y2k xs p) (fun i s=>s=(i:Int)∧i≤xs.length∧xs.find? q=(xs.drop i).find? q) (fun o=>(o= .inl ()∧xs.find? q=none)∨∃(i:Nat) (h:i<xs.length),o= .inr (i:Int)∧xs.find? q=some xs[i]) xs.length 0 (by omega) (fun i s hi ⟨e1,_,e2⟩=>by
  subst e1;rw [List.drop_eq_getElem_cons hi] at e2;cases hq:q xs[i] with
  | true=>
   right;refine⟨_,?_,.inr ⟨i,hi,rfl,by rw [e2,List.find?_cons_of_pos hq]⟩⟩;rw [y2k,if_pos (ct_lt hi),ya hi,yOb,hp,hq,yOb,if_pos rfl]
  | false=>
   left;refine⟨((i+1:Nat):Int),?_,rfl,by omega,by rw [e2,List.find?_cons_of_neg (by rw [hq];simp)]⟩;rw [y2k,if_pos (ct_lt hi),ya hi,yOb,hp,hq,yOb,if_neg (by simp),nxt (by omega)]) (fun s ⟨e1,_,e2⟩=>by
  subst e1;rw [List.drop_length] at e2;exact⟨_,by rw [y2k,if_neg ct_ge],.inl ⟨rfl,e2⟩⟩) (Nat.zero_le _) 0 ⟨rfl,Nat.zero_le _,rfl⟩
 rw [y2f,h1,yOb];rcases h2 with ⟨rfl,g⟩|⟨i,hi,rfl,g⟩
 ·exact ⟨_,rfl,.inl ⟨rfl,g⟩⟩
 ·exact ⟨_,rfl,.inr ⟨i,hi,rfl,g⟩⟩
theorem yct{b:BenT}{n:Nat}(hP:Right b.1.1 n)(e:Int):y1L b e=some ((st1 b.1.1 b.2.2.1 e).getD (-1)):=by
 obtain⟨k,h1,h2⟩:=yir (xs:=b.1.1.2.2.2) (p:=y2l (some b) e) (q:=fun x=>x.1==b.2.2.1&&x.2.1==e) hP.l3 (fun x=>by
  rw [y2l,yOb];by_cases hx:(x.1==b.2.2.1)=true
  ·rw [if_pos hx,y1t,hx,Bool.true_and]
  ·rw [if_neg hx,y1t];simp only [Bool.not_eq_true] at hx;rw [hx,Bool.false_and])
 rw [y1L,h1,yOb];unfold st1;rcases h2 with ⟨rfl,g⟩|⟨i,hi,rfl,g⟩
 ·rw [g,if_pos (by simp)];rfl
 ·rw [g,if_neg (by simp),yOb,ya hi,yOb];rfl
theorem ydd{b:BenT}{n:Nat}(hP:Right b.1.1 n)(e:Int):y2u b e=some ((st1 b.1.1 b.2.2.1 e).isSome,(b.1,b.2.1,(st1 b.1.1 b.2.2.1 e).getD b.2.2.1,b.2.2.2)):=by
 rw [y2u,yct hP,yOb];cases hs:st1 b.1.1 b.2.2.1 e with
 | none=>
  rw [if_neg (by simp),y2y];rfl
 | some t=>
  have ht:=((hP.es _ ((y6V hP).1 hs)).2.2.1:(0:Int)≤t);rw [if_pos (by simpa using ht),y2y];simp [ht]
def trF(P:AutT)(c:Int):List Int→Int→Bool→List Int→Int×Bool×List Int
 | [],s,ok,out=>(s,ok,out)
 | e::l,s,ok,out=>match st1 P s e with
  | none=>trF P c l s ok out
  | some t=>trF P c l t (ok&&(st1 P t c).isSome) (out++[e])
theorem y8s{P:AutT}{n:Nat}(hP:Right P n)(s e:Int):decide ((st1 P s e).getD (-1)≥0)=(st1 P s e).isSome:=by
 cases hs:st1 P s e with
 | none=>rfl
 | some t=>
  have ht:=((hP.es _ ((y6V hP).1 hs)).2.2.1:(0:Int)≤t);simpa using ht
theorem ygB{b:BenT}{n:Nat}(hP:Right b.1.1 n){l:List Int}(hl:l.length≤1000000)(c:Int):
  y4n b l c=some ((trF b.1.1 c l b.2.2.1 (c != -1) []).2.2,(trF b.1.1 c l b.2.2.1 (c != -1) []).2.1,(b.1,b.2.1,(trF b.1.1 c l b.2.2.1 (c != -1) []).1,b.2.2.2)):=by
 obtain⟨o,h1,h2⟩:=yd (f:=y3l l c) (fun i s=>s.2.1=(i:Int)∧s.1.1=b.1∧s.1.2.1=b.2.1∧s.1.2.2.2=b.2.2.2∧s.2.2.2.length≤i∧trF b.1.1 c l b.2.2.1 (c != -1) []=trF b.1.1 c (l.drop i) s.1.2.2.1 s.2.2.1 s.2.2.2) (fun o=>o=((b.1,b.2.1,(trF b.1.1 c l b.2.2.1 (c != -1) []).1,b.2.2.2),(trF b.1.1 c l b.2.2.1 (c != -1) []).2)) l.length 0 (by omega) (fun i s hi ⟨e1,e2,e3,e4,e5,e6⟩=>by
  obtain⟨⟨b1,b2,b3,b4⟩,j,ok,out⟩:=s;dsimp only at e1 e2 e3 e4 e5 e6;subst e1 e2 e3 e4;left;rw [List.drop_eq_getElem_cons hi,trF] at e6;have ht:=ydd (b:=(b.1,b.2.1,b3,b.2.2.2)) hP l[i];dsimp only at ht;rw [y3l,if_pos (ct_lt hi),ya hi,yOb,ht,yOb];cases hs:st1 b.1.1 b3 l[i] with
  | none=>
   rw [hs] at e6;refine⟨((b.1,b.2.1,b3,b.2.2.2),((i+1:Nat):Int),ok,out),?_,rfl,rfl,rfl,rfl,Nat.le_succ_of_le e5,e6⟩;rw [if_neg (by simp),y1o,nxt (by omega)];rfl
  | some t=>
   rw [hs] at e6;refine⟨((b.1,b.2.1,t,b.2.2.2),((i+1:Nat):Int),(ok&&(st1 b.1.1 t c).isSome),out++[l[i]]),?_,rfl,rfl,rfl,rfl,by simp;omega,e6⟩;have hld:=yct (b:=(b.1,b.2.1,t,b.2.2.2)) hP c;dsimp only at hld;rw [if_pos (by rfl),yr (by simp;omega),yOb,Option.getD_some];cases ok with
   | true=>rw [if_pos rfl,hld,yOb,yOb,y1o,y8s hP,nxt (by omega),Bool.true_and]
   | false=>rw [if_neg (by simp),yOb,y1o,nxt (by omega),Bool.false_and]) (fun s ⟨e1,e2,e3,e4,e5,e6⟩=>by
  obtain⟨⟨b1,b2,b3,b4⟩,j,ok,out⟩:=s;dsimp only at e1 e2 e3 e4 e5 e6;subst e1 e2 e3 e4;rw [List.drop_length,trF] at e6;exact⟨_,by rw [y3l,if_neg ct_ge],by rw [e6]⟩) (Nat.zero_le _) (b,0,(c != -1),[]) ⟨rfl,rfl,rfl,rfl,Nat.le_refl _,rfl⟩
 rw [y4n,h1,yOb,h2]
theorem yeq{r:PbT×Int×Int×Bool}{n:Nat}(hP:Right r.1.1 n){l:List Int}(hl:l.length≤1000000)(c:Int):
  y3e r l c=some ((trF r.1.1 c l r.2.1 (st1 r.1.1 r.2.1 c).isSome []).2.2,(trF r.1.1 c l r.2.1 (st1 r.1.1 r.2.1 c).isSome []).2.1,(r.1,(trF r.1.1 c l r.2.1 (st1 r.1.1 r.2.1 c).isSome []).1,r.2.2)):=by
 obtain⟨o,h1,h2⟩:=yd (f:=y3m r l c) (fun i s=>s.2.1=(i:Int)∧s.2.2.2.length≤i∧trF r.1.1 c l r.2.1 (st1 r.1.1 r.2.1 c).isSome []=trF r.1.1 c (l.drop i) s.1 s.2.2.1 s.2.2.2) (fun o=>o=trF r.1.1 c l r.2.1 (st1 r.1.1 r.2.1 c).isSome []) l.length 0 (by omega) (fun i s hi ⟨e1,e5,e6⟩=>by
  obtain⟨b3,j,ok,out⟩:=s;dsimp only at e1 e5 e6;subst e1;left;rw [List.drop_eq_getElem_cons hi,trF] at e6;rw [y3m,if_pos (ct_lt hi),ya hi,yOb,y6H hP,yOb,y8s hP];cases hs:st1 r.1.1 b3 l[i] with
  | none=>
   rw [hs] at e6;refine⟨(b3,((i+1:Nat):Int),ok,out),?_,rfl,Nat.le_succ_of_le e5,e6⟩;rw [if_neg (by simp),yM,nxt (by omega)]
  | some t=>
   rw [hs] at e6;refine⟨(t,((i+1:Nat):Int),(ok&&(st1 r.1.1 t c).isSome),out++[l[i]]),?_,rfl,by simp;omega,e6⟩;rw [if_pos (by rfl),yOb,yr (by simp;omega),yOb,Option.getD_some];cases ok with
   | true=>rw [if_pos rfl,y6H hP,yOb,yM,y8s hP,nxt (by omega),Bool.true_and]
   | false=>rw [if_neg (by simp),yM,nxt (by omega),Bool.false_and]) (fun s ⟨e1,e5,e6⟩=>by
  obtain⟨b3,j,ok,out⟩:=s;dsimp only at e1 e5 e6;subst e1;rw [List.drop_length,trF] at e6;exact⟨_,by rw [y3m,if_neg ct_ge],by rw [e6]⟩) (Nat.zero_le _) (r.2.1,0,(st1 r.1.1 r.2.1 c).isSome,[]) ⟨rfl,Nat.le_refl _,rfl⟩
 rw [y3e,y6H hP,yOb,y8s hP,h1,yOb,h2]
theorem has55{xs:List Int}(hl:xs.length≤1000000)(x:Int):yo xs x=some (hasB xs x):=by
 obtain⟨o,h1,h2⟩:=yd (f:=y3x xs x) (fun i s=>s=(i:Int)∧∀j (h:j<xs.length),j<i→xs[j]≠x) (fun o=>(o= .inl ()∧x∉xs)∨(o= .inr ()∧x∈xs)) xs.length 0 (by omega) (fun i s hi ⟨e1,e2⟩=>by
  subst e1;by_cases he:xs[i]=x
  ·right;refine⟨_,?_,.inr ⟨rfl,he▸List.getElem_mem hi⟩⟩;rw [y3x,if_pos (ct_lt hi),ya hi,yOb,if_pos (by simpa using he)]
  ·left;refine⟨((i+1:Nat):Int),?_,rfl,fun j h hj=>?_⟩
   ·rw [y3x,if_pos (ct_lt hi),ya hi,yOb,if_neg (by simpa using he),nxt (by omega)]
   ·by_cases e:j=i
    ·subst e;exact he
    ·exact e2 j h (by omega)) (fun s ⟨e1,e2⟩=>by
  subst e1;refine⟨_,by rw [y3x,if_neg ct_ge],.inl ⟨rfl,fun hm=>?_⟩⟩;obtain⟨j,hj,e⟩:=List.mem_iff_getElem.1 hm;exact e2 j hj hj e) (Nat.zero_le _) 0 ⟨rfl,fun j h hj=>by omega⟩
 rw [yo,h1,yOb];rcases h2 with ⟨rfl,g⟩|⟨rfl,g⟩
 ·have:hasB xs x=false:=by
   cases hb:hasB xs x with
   | false=>rfl
   | true=>exact absurd (yb.1 hb) g
  rw [this]
 ·rw [yb.2 g]
def hnS(S:AutT)(x:Int×Bool)(e:Int):Int×Bool:=match st1 S x.1 e with
 | none=>(x.1,true)
 | some t=>(t,x.2)
def imL(S:AutT)(im:List Int)(k:Nat):List Int:=((List.range k).map fun i:Nat=>(i:Int)).filter fun e=>hasB im e&&hasB S.1 e
theorem yhE{S:AutT}{im:List Int}{k:Nat}:imL S im (k+1)=imL S im k++(if (hasB im (k:Int)&&hasB S.1 (k:Int))=true then [(k:Int)] else []):=by
 unfold imL;rw [List.range_succ,List.map_append,List.filter_append];congr 1;rw [List.map_cons,List.map_nil,List.filter_cons,List.filter_nil]
theorem yaj{r:PbT×Int×Int×Bool}{n:Nat}(hS:Right r.1.2.1 n){im:List Int}(hl:im.length≤1000000):
  y1p r im=some (r.1,r.2.1,(imL r.1.2.1 im 32).foldl (hnS r.1.2.1) r.2.2):=by
 obtain⟨o,h1,h2⟩:=yd (f:=y2B r im) (fun i s=>s.2.2=(i:Int)∧(s.1,s.2.1)=(imL r.1.2.1 im i).foldl (hnS r.1.2.1) r.2.2) (fun o=>o=(imL r.1.2.1 im 32).foldl (hnS r.1.2.1) r.2.2) 32 0 (by omega) (fun i s hi ⟨e1,e2⟩=>by
  obtain⟨a,al,j⟩:=s;dsimp only at e1 e2;subst e1;left;have hlt:decide ((i:Int)<32)=true:=by simp;omega
  rw [y2B,if_pos hlt,has55 hl,yOb];have hsu:=yhE (S:=r.1.2.1) (im:=im) (k:=i);cases hb:hasB im (i:Int) with
  | false=>
   rw [hb] at hsu;refine⟨(a,al,((i+1:Nat):Int)),?_,rfl,?_⟩
   ·rw [if_pos (by simp),yOb,if_pos rfl,yt,nxt (by omega)]
   ·rw [hsu,if_neg (by simp),List.append_nil];exact e2
  | true=>
   rw [hb] at hsu;rw [if_neg (by simp),has55 hS.l1,yOb,yOb];cases hc:hasB r.1.2.1.1 (i:Int) with
   | false=>
    rw [hc] at hsu;refine⟨(a,al,((i+1:Nat):Int)),?_,rfl,?_⟩
    ·rw [if_pos (by simp),yt,nxt (by omega)]
    ·rw [hsu,if_neg (by simp),List.append_nil];exact e2
   | true=>
    rw [hc] at hsu;rw [if_neg (by simp),y6H hS,yOb,y8s hS];rw [if_pos (by simp)] at hsu;cases hs:st1 r.1.2.1 a (i:Int) with
    | none=>
     refine⟨(a,true,((i+1:Nat):Int)),?_,rfl,?_⟩
     ·rw [if_neg (by simp),yt,nxt (by omega)]
     ·rw [hsu,List.foldl_append,←e2,List.foldl_cons,List.foldl_nil,hnS];dsimp only;rw [hs]
    | some t=>
     refine⟨(t,al,((i+1:Nat):Int)),?_,rfl,?_⟩
     ·rw [if_pos (by rfl),yt,nxt (by omega),Option.getD_some]
     ·rw [hsu,List.foldl_append,←e2,List.foldl_cons,List.foldl_nil,hnS];dsimp only;rw [hs]) (fun s ⟨e1,e2⟩=>by
  obtain⟨a,al,j⟩:=s;dsimp only at e1 e2;subst e1;exact⟨_,by rw [y2B,if_neg (by simp)],e2⟩) (Nat.zero_le _) (r.2.2.1,r.2.2.2,0) ⟨rfl,rfl⟩
 rw [y1p,h1,yOb,h2]
theorem yer{S:AutT}{n:Nat}(hS:Right S n)(s:Nat)(e:Int):(stepF (toAut S).es s e).map (fun t:Nat=>(t:Int))=st1 S (s:Int) e:=by
 unfold stepF st1;show((((S.2.2.2.map toEd).find? _).map _).map _)=_;rw [List.find?_map];cases h:S.2.2.2.find? fun x=>x.1==(s:Int)&&x.2.1==e with
 | none=>
  have h':S.2.2.2.find? ((fun x:Ed=>x.f==(s:Int)&&x.e==e)∘toEd)=none:=h;rw [h'];rfl
 | some x=>
  have h':S.2.2.2.find? ((fun x:Ed=>x.f==(s:Int)&&x.e==e)∘toEd)=some x:=h;have:=(hS.es x (List.mem_of_find?_eq_some h)).2.2.1;rw [h'];show some (((x.2.2).toNat:Nat):Int)=some x.2.2;rw [Int.toNat_of_nonneg this]
theorem yde{S:AutT}{n:Nat}(hS:Right S n):∀(ev:List Int) (s:Nat) (al:Bool),(ev.foldl (hnS S) ((s:Int),al))=(((ev.foldl (y6e (toAut S).es) (s,al)).1:Int),(ev.foldl (y6e (toAut S).es) (s,al)).2)
 | [],_,_=>rfl
 | e::ev,s,al=>by
  rw [List.foldl_cons,List.foldl_cons,hnS,y6e];dsimp only;have h:=yer hS s e;cases hs:stepF (toAut S).es s e with
  | none=>
   rw [hs] at h;rw [←h];exact yde hS ev s true
  | some t=>
   rw [hs] at h;rw [←h];exact yde hS ev t al
theorem ydf{S:AutT}{n:Nat}(hS:Right S n){im:List Int}{e:Int}:e∈imL S im 32↔e∈im∧e∈S.1:=by
 unfold imL;rw [List.mem_filter,Bool.and_eq_true,yb,yb,List.mem_map];constructor
 ·rintro ⟨_,h⟩;exact h
 ·intro h;have:=hS.alr e h.2;exact⟨⟨e.toNat,List.mem_range.2 (by omega),by omega⟩,h⟩
theorem yfg{S:AutT}{im:List Int}:Inc (imL S im 32):=by
 unfold imL Inc;refine List.Pairwise.filter _ ?_;rw [List.pairwise_map];exact List.pairwise_lt_range.imp fun h=>by omega
theorem yfJ{b:BenT}{n:Nat}(hS:Right b.1.2.1 n){l:List Int}(hl:l.length≤1000000):iter (y1B b l) (0,[])=some (l.filter (hasB b.1.2.1.1)):=by
 obtain⟨o,h1,h2⟩:=yd (f:=y1B b l) (fun i s=>s.1=(i:Int)∧i≤l.length∧s.2=(l.take i).filter (hasB b.1.2.1.1)) (fun o=>o=l.filter (hasB b.1.2.1.1)) l.length 0 (by omega) (fun i s hi ⟨e1,_,e2⟩=>by
  obtain⟨j,out⟩:=s;dsimp only at e1 e2;subst e1;left;have hle:=List.length_filter_le (hasB b.1.2.1.1) (l.take i);rw [List.length_take,←e2] at hle;refine⟨(((i+1:Nat):Int),(l.take (i+1)).filter (hasB b.1.2.1.1)),?_,rfl,by omega,rfl⟩;rw [y1B,if_pos (ct_lt hi),ya hi,yOb,y2d (by have:=hS.l1;omega),yOb,List.take_succ_eq_append_getElem hi,List.filter_append,←e2,List.filter_cons,List.filter_nil];cases hb:hasB b.1.2.1.1 l[i] with
  | true=>rw [if_pos rfl,yr (by simp;omega),yOb,y1A,nxt (by omega),if_pos rfl]
  | false=>rw [if_neg (by simp),y1A,nxt (by omega),if_neg (by simp),List.append_nil]) (fun s ⟨e1,_,e2⟩=>by
  obtain⟨j,out⟩:=s;dsimp only at e1 e2;subst e1;exact⟨_,by rw [y1B,if_neg ct_ge],by rw [e2,List.take_length]⟩) (Nat.zero_le _) (0,[]) ⟨rfl,Nat.zero_le _,by simp⟩
 rw [h1,h2]
theorem yhF{S:AutT}{n:Nat}(hS:Right S n){l:List Int}(hn:l.Nodup):isL (l.filter (hasB S.1))=imL S l 32:=by
 refine yei ?_ yfg fun e=>?_
 ·have hp:=y9S (l.filter (hasB S.1));have hd:(isL (l.filter (hasB S.1))).Nodup:=hp.nodup_iff.2 (hn.filter _);exact(yea _).imp₂ (fun _ _ h1 h2=>by omega) hd
 ·rw [(y9S _).mem_iff,List.mem_filter,yb,ydf hS]
theorem yfK{b:BenT}{n:Nat}{ctrl:List Int}(hS:Right b.1.2.1 n)(hG:GenIn (toAut b.1.2.1) ctrl n)(ic:Inc ctrl)(hc:b.2.1=codeP (toAut b.1.2.1) ctrl n){s:Nat}{al:Bool}(hv:Shows (toAut b.1.2.1) ctrl n s al b.2.2.2){l:List Int}(hl:l.length≤1000000)(hn:l.Nodup):
  ∃st',yV b l=some (0,(b.1,b.2.1,b.2.2.1,st'))∧∃(s':Nat) (al':Bool),(imL b.1.2.1 l 32).foldl (hnS b.1.2.1) ((s:Int),al)=((s':Int),al')∧Shows (toAut b.1.2.1) ctrl n s' al' st'∧
   ∀k,k<ctrl.length→st'.1.getD k false=(st1 b.1.2.1 (s':Int) (ctrl.getD k 0)).isSome:=by
 have hi:=yfg (S:=b.1.2.1) (im:=l);have hr:∀x∈imL b.1.2.1 l 32,0≤x∧x<32:=fun x hx=>hS.alr x ((ydf hS).1 hx).2;have hlen:=Alp.len ⟨hi,hr⟩;obtain⟨st',g1,g2,g3⟩:=ygz hG hS.ali ic hi (by omega) (y6R hi hr nofun) (List.all_eq_true.2 fun x hx=>yb.2 ((ydf hS).1 hx).2) hv;refine⟨st',?_,_,_,yde hS _ _ _,g2,fun k hk=>?_⟩
 ·have hfl:=List.length_filter_le (hasB b.1.2.1.1) l;rw [yV,yfJ hS hl,yOb,y5x,if_pos (by omega),yOb,yhF hS hn,hc,g1,yOb,if_pos (by rfl),y2P,←hc]
 ·rw [g3 k hk,←yer hS];simp
def cmdL(q:PbT):List Int:=q.2.1.1.filter fun e=>!hasB q.2.2 e
theorem yc8{q:PbT}(h1:q.2.1.1.length≤1000000)(h2:q.2.2.length≤1000000):y2Q q=some (cmdL q):=by
 obtain⟨o,g1,g2⟩:=yd (f:=y2Y q) (fun i s=>s.1=(i:Int)∧i≤q.2.1.1.length∧s.2=(q.2.1.1.take i).filter fun e=>!hasB q.2.2 e) (fun o=>o=cmdL q) q.2.1.1.length 0 (by omega) (fun i s hi ⟨e1,_,e2⟩=>by
  obtain⟨j,out⟩:=s;dsimp only at e1 e2;subst e1;left;have hle:=List.length_filter_le (fun e=>!hasB q.2.2 e) (q.2.1.1.take i);rw [List.length_take,←e2] at hle;refine⟨(((i+1:Nat):Int),(q.2.1.1.take (i+1)).filter fun e=>!hasB q.2.2 e),?_,rfl,by omega,rfl⟩;rw [y2Y,if_pos (ct_lt hi),ya hi,yOb,has55 h2,yOb,List.take_succ_eq_append_getElem hi,List.filter_append,←e2,List.filter_cons,List.filter_nil];cases hb:hasB q.2.2 q.2.1.1[i] with
  | true=>rw [if_neg (by simp),y1Z,nxt (by omega),if_neg (by simp),List.append_nil]
  | false=>rw [if_pos (by rfl),yOb,yr (by simp;omega),yOb,y1Z,nxt (by omega),if_pos (by rfl)]) (fun s ⟨e1,_,e2⟩=>by
  obtain⟨j,out⟩:=s;dsimp only at e1 e2;subst e1;exact⟨_,by rw [y2Y,if_neg ct_ge],by rw [e2,List.take_length];rfl⟩) (Nat.zero_le _) (0,[]) ⟨rfl,Nat.zero_le _,by simp⟩
 rw [y2Q,g1,yOb,g2]
theorem ydg{q:PbT}(h1:q.2.1.1.length≤1000000)(h2:q.2.2.length≤1000000):y5y q=yU q.2.1 (cmdL q):=by
 obtain⟨o,g1,g2⟩:=yd (f:=y5s q) (fun i s=>s.1=(i:Int)∧i≤q.2.1.1.length∧s.2=(q.2.1.1.take i).filter fun e=>!hasB q.2.2 e) (fun o=>o=cmdL q) q.2.1.1.length 0 (by omega) (fun i s hi ⟨e1,_,e2⟩=>by
  obtain⟨j,out⟩:=s;dsimp only at e1 e2;subst e1;left;have hle:=List.length_filter_le (fun e=>!hasB q.2.2 e) (q.2.1.1.take i);rw [List.length_take,←e2] at hle;refine⟨(((i+1:Nat):Int),(q.2.1.1.take (i+1)).filter fun e=>!hasB q.2.2 e),?_,rfl,by omega,rfl⟩;rw [y5s,if_pos (ct_lt hi),ya hi,yOb,y2d (by omega),yOb,List.take_succ_eq_append_getElem hi,List.filter_append,←e2,List.filter_cons,List.filter_nil];cases hb:hasB q.2.2 q.2.1.1[i] with
  | true=>rw [if_neg (by simp),y4f,nxt (by omega),if_neg (by simp),List.append_nil]
  | false=>rw [if_pos (by rfl),yr (by simp;omega),yOb,y4f,nxt (by omega),if_pos (by rfl)]) (fun s ⟨e1,_,e2⟩=>by
  obtain⟨j,out⟩:=s;dsimp only at e1 e2;subst e1;exact⟨_,by rw [y5s,if_neg ct_ge],by rw [e2,List.take_length];rfl⟩) (Nat.zero_le _) (0,[]) ⟨rfl,Nat.zero_le _,by simp⟩
 rw [y5y,g1,yOb,g2];cases yU q.2.1 (cmdL q) <;> rfl
theorem yis{q:PbT}(h1:q.2.1.1.length≤1000000)(h2:q.2.2.length≤1000000):yF q=y2R q:=by
 rw [yF,y2R,yc8 h1 h2,yOb,ydg h1 h2]
def trE(P:AutT):List Int→Int→Int×List Int
 | [],s=>(s,[])
 | e::l,s=>match st1 P s e with
  | none=>trE P l s
  | some t=>((trE P l t).1,e::(trE P l t).2)
theorem ya5(P:AutT)(c:Int):∀(l:List Int) (s:Int) (ok:Bool) (out:List Int),trF P c l s ok out=((trE P l s).1,ok&&(trF P c l s true []).2.1,out++(trE P l s).2)
 | [],s,ok,out=>by simp [trF,trE]
 | e::l,s,ok,out=>by
  rw [trF,trE,trF];cases h:st1 P s e with
  | none=>exact ya5 P c l s ok out
  | some t=>
   dsimp only;rw [ya5 P c l t (ok&&_),ya5 P c l t (true&&_),Bool.true_and,Bool.and_assoc,List.append_assoc];rfl
def aft(P:AutT)(c:Int)(l:List Int)(s:Int):Bool:=(trF P c l s true []).2.1
theorem yhG(P:AutT)(c e:Int)(l:List Int)(s:Int):aft P c (e::l) s=match st1 P s e with
  | none=>aft P c l s
  | some t=>(st1 P t c).isSome&&aft P c l t:=by
 unfold aft;rw [trF];cases st1 P s e with
 | none=>rfl
 | some t=>
  dsimp only;rw [ya5,Bool.true_and]
theorem ydh(P:AutT)(c:Int):∀(l:List Int) (s:Int),(st1 P s c).isSome=true→aft P c l s=true→(st1 P (trE P l s).1 c).isSome=true
 | [],_,h,_=>h
 | e::l,s,h,ha=>by
  rw [yhG] at ha;rw [trE];cases hs:st1 P s e with
  | none=>
   rw [hs] at ha;exact ydh P c l s h ha
  | some t=>
   rw [hs] at ha;simp only [Bool.and_eq_true] at ha;exact ydh P c l t ha.1 ha.2
theorem y8h(P:AutT):∀(l:List Int) (s:Int),(trE P l s).2.length≤l.length
 | [],_=>Nat.le_refl _
 | e::l,s=>by
  rw [trE];cases st1 P s e with
  | none=>exact Nat.le_succ_of_le (y8h P l s)
  | some t=>exact Nat.succ_le_succ (y8h P l t)
theorem ybU(P:AutT):∀(l:List Int) (s:Int),(trE P l s).2.Sublist l
 | [],_=> .slnil
 | e::l,s=>by
  rw [trE];cases st1 P s e with
  | none=>exact .cons _ (ybU P l s)
  | some t=>exact .cons_cons _ (ybU P l t)
abbrev RunT :=Int×Int×Bool
def hnL(S:AutT)(im:List Int)(z:Int×Bool):Int×Bool:=(imL S im 32).foldl (hnS S) z
def midR(q:PbT)(r:RunT)(c:CycT):RunT:=((trE q.1 c.1 r.1).1,hnL q.2.1 (trE q.1 c.1 r.1).2 r.2)
def dnR(q:PbT)(m:RunT)(c:CycT)(cm:Int):Bool:=cm != -1&&aft q.1 cm c.2.1 m.1
def finR(q:PbT)(m:RunT)(c:CycT)(cm:Int):RunT:=
 if dnR q m c cm=true then((st1 q.1 (trE q.1 c.2.1 m.1).1 cm).getD (trE q.1 c.2.1 m.1).1,hnL q.2.1 [cm] (hnL q.2.1 (trE q.1 c.2.1 m.1).2 m.2))
 else((trE q.1 c.2.1 m.1).1,hnL q.2.1 (trE q.1 c.2.1 m.1).2 m.2)
def enR(q:PbT)(s:Int):List Int:=(cmdL q).filter fun e=>(st1 q.2.1 s e).isSome
def perm(q:PbT)(m:RunT)(e:Int):Bool:=(st1 q.1 m.1 e).isSome&&(!hasB q.2.1.1 e||(st1 q.2.1 m.2.1 e).isSome)
abbrev StpR :=List Int×List Int×List Int×Int×Bool×Int×Bool
def stpR(q:PbT)(r:RunT)(c:CycT)(ch:RunT→Int):StpR:=
 ((trE q.1 c.1 r.1).2,(trE q.1 c.2.1 (midR q r c).1).2,enR q (midR q r c).2.1,ch (midR q r c),dnR q (midR q r c) c (ch (midR q r c)),(finR q (midR q r c) c (ch (midR q r c))).2.1,(finR q (midR q r c) c (ch (midR q r c))).2.2)
def cycR(q:PbT)(ch:CycT→RunT→Int)(r:RunT)(c:CycT):RunT:=finR q (midR q r c) c (ch c (midR q r c))
def y3E(q:PbT)(ch:CycT→RunT→Int):RunT→List CycT→List StpR
 | _,[]=> []
 | r,c::l=>stpR q r c (ch c)::y3E q ch (cycR q ch r c) l
def runR(q:PbT)(ch:CycT→RunT→Int)(r:RunT)(l:List CycT):RunT:=l.foldl (cycR q ch) r
theorem y9I(q:PbT)(ch:CycT→RunT→Int):∀(l:List CycT) (r:RunT),(y3E q ch r l).length=l.length
 | [],_=>rfl
 | c::l,r=>by rw [y3E,List.length_cons,List.length_cons,y9I]
theorem yak(q:PbT)(ch:CycT→RunT→Int)(c:CycT):∀(l:List CycT) (r:RunT),y3E q ch r (l++[c])=y3E q ch r l++[stpR q (runR q ch r l) c (ch c)]
 | [],_=>rfl
 | d::l,r=>by
  rw [List.cons_append,y3E,y3E,yak q ch c l,List.cons_append];rfl
theorem ydI(q:PbT)(ch:CycT→RunT→Int)(c:CycT)(l:List CycT)(r:RunT):runR q ch r (l++[c])=cycR q ch (runR q ch r l) c:=List.foldl_append ..
def chP(q:PbT)(pr:List Int)(m:RunT):Int:=(pr.find? (perm q m)).getD (-1)
theorem ydJ(q:PbT)(pr:List Int)(m:RunT):chP q pr m= -1∨(chP q pr m∈pr∧perm q m (chP q pr m)=true):=by
 unfold chP;cases h:pr.find? (perm q m) with
 | none=>exact .inl rfl
 | some x=>exact .inr ⟨List.mem_of_find?_eq_some h,List.find?_some h⟩
def mx(a b:Int):Int:=if a<b then b else a
theorem yba{xs:List Int}(hl:xs.length≤1000000):y1h xs xs=some true:=by
 have hi:iter (y1P xs xs) 0=some (.inl ()):=y5I (f:=y1P xs xs) (fun k:Nat=>(k:Int)) xs.length (by omega) (fun k hk=>by
  rw [y1P,if_pos (ct_lt hk),ya hk,yOb,yOb,if_neg (by simp),nxt (by omega)]) (by rw [y1P,if_neg ct_ge])
 rw [y1h,if_neg (by simp),hi];rfl
theorem ygC{l:List StpR}(hl:l.length≤1000000)(h:∀s∈l,s.1.length≤1000000∧s.2.1.length≤1000000∧s.2.2.1.length≤1000000):y1u l l=some true:=by
 have hi:iter (y3f l l) 0=some (.inl ()):=y5I (f:=y3f l l) (fun k:Nat=>(k:Int)) l.length (by omega) (fun k hk=>by
  obtain⟨k1,k2,k3⟩:=h _ (List.getElem_mem hk);rw [y3f,if_pos (ct_lt hk),ya hk,yOb,yOb,yba k1,yOb,if_neg (by simp),yba k2,yOb,yOb,if_neg (by simp),yba k3,yOb,yOb,if_neg (by simp),nxt (by omega)]) (by rw [y3f,if_neg ct_ge])
 rw [y1u,if_neg (by simp),hi];rfl
structure SimOk (q:PbT) (n1 n2:Nat):Prop where
 rP:Right q.1 n1
 rS:Right q.2.1 n2
 g:GenIn (toAut q.2.1) (cmdL q) n2
 ic:Inc (cmdL q)
 p0:0<n1
 u:q.2.2.length≤1000000
 gen:yU q.2.1 (cmdL q)=some (codeP (toAut q.2.1) (cmdL q) n2,0)
structure BenOk (q:PbT) (n2:Nat) (b:BenT) (r:RunT):Prop where
 e1:b.1=q
 e2:b.2.1=codeP (toAut q.2.1) (cmdL q) n2
 e3:b.2.2.1=r.1
 sh:∃s:Nat,r.2.1=(s:Int)∧Shows (toAut q.2.1) (cmdL q) n2 s r.2.2 b.2.2.2
theorem BenOk.plant{q:PbT}{n2:Nat}{b:BenT}{r:RunT}(h:BenOk q n2 b r)(x:Int):BenOk q n2 (b.1,b.2.1,x,b.2.2.2) (x,r.2):=⟨h.e1,h.e2,rfl,h.sh⟩
theorem yhH{b:BenT}{n:Nat}(hP:Right b.1.1 n){c:CycT}(hl:c.1.length≤1000000):iter (y1Y c) (b,0,[])=some ((b.1,b.2.1,(trE b.1.1 c.1 b.2.2.1).1,b.2.2.2),(trE b.1.1 c.1 b.2.2.1).2):=by
 obtain⟨o,h1,h2⟩:=yd (f:=y1Y c) (fun i s=>s.2.1=(i:Int)∧s.1.1=b.1∧s.1.2.1=b.2.1∧s.1.2.2.2=b.2.2.2∧s.2.2.length≤i∧trE b.1.1 c.1 b.2.2.1=((trE b.1.1 (c.1.drop i) s.1.2.2.1).1,s.2.2++(trE b.1.1 (c.1.drop i) s.1.2.2.1).2)) (fun o=>o=((b.1,b.2.1,(trE b.1.1 c.1 b.2.2.1).1,b.2.2.2),(trE b.1.1 c.1 b.2.2.1).2)) c.1.length 0 (by omega) (fun i s hi ⟨e1,e2,e3,e4,e5,e6⟩=>by
  obtain⟨⟨b1,b2,b3,b4⟩,j,out⟩:=s;dsimp only at e1 e2 e3 e4 e5 e6;subst e1 e2 e3 e4;left;rw [List.drop_eq_getElem_cons hi,trE] at e6;have ht:=ydd (b:=(b.1,b.2.1,b3,b.2.2.2)) hP c.1[i];dsimp only at ht;rw [y1Y,if_pos (ct_lt hi),ya hi,yOb,ht,yOb];cases hs:st1 b.1.1 b3 c.1[i] with
  | none=>
   rw [hs] at e6;refine⟨((b.1,b.2.1,b3,b.2.2.2),((i+1:Nat):Int),out),?_,rfl,rfl,rfl,rfl,Nat.le_succ_of_le e5,e6⟩;rw [if_neg (by simp),y1X,nxt (by omega)];rfl
  | some t=>
   rw [hs] at e6;refine⟨((b.1,b.2.1,t,b.2.2.2),((i+1:Nat):Int),out++[c.1[i]]),?_,rfl,rfl,rfl,rfl,by simp;omega,by rw [e6,List.append_assoc];rfl⟩;rw [if_pos (by rfl),yr (by simp;omega),yOb,y1X,nxt (by omega)];rfl) (fun s ⟨e1,e2,e3,e4,e5,e6⟩=>by
  obtain⟨⟨b1,b2,b3,b4⟩,j,out⟩:=s;dsimp only at e1 e2 e3 e4 e5 e6;subst e1 e2 e3 e4;rw [List.drop_length,trE,List.append_nil] at e6;exact⟨_,by rw [y1Y,if_neg ct_ge],by rw [e6]⟩) (Nat.zero_le _) (b,0,[]) ⟨rfl,rfl,rfl,rfl,Nat.le_refl _,rfl⟩
 rw [h1,h2]
section
variable{q:PbT}{n1 n2:Nat}{b:BenT}{r:RunT}
theorem ybG(h:SimOk q n1 n2)(hb:BenOk q n2 b r){l:List Int}(hl:l.length≤1000000)(hn:l.Nodup):∃b',yV b l=some (0,b')∧BenOk q n2 b' (r.1,hnL q.2.1 l r.2)∧y3V b'.2.1 b'.2.2.2=some (enR q (hnL q.2.1 l r.2).1,0):=by
 obtain⟨b1,b2,b3,b4⟩:=b;obtain⟨h1,h2,h3,s,hs,hv⟩:=hb;dsimp only at h1 h2 h3 hv;subst h1 h2 h3;obtain⟨r1,r2,al⟩:=r;dsimp only at hs hv ⊢;subst hs;obtain⟨st',g1,s',al',g2,g3,g4⟩:=yfK (b:=(b1,codeP (toAut b1.2.1) (cmdL b1) n2,r1,b4)) h.rS h.g h.ic rfl hv hl hn;have g2:hnL b1.2.1 l ((s:Int),al)=((s':Int),al'):=g2;refine⟨_,g1,⟨rfl,rfl,rfl,s',by rw [g2],by rw [g2];exact g3⟩,?_⟩;rw [g2];exact yfI h.g g3.ho g3.hm g4
theorem ygD(h:SimOk q n1 n2)(hb:BenOk q n2 b r){e:Int}(he:e∉q.2.2):y4F b e (enR q r.2.1)=some (perm q r e):=by
 obtain⟨b1,b2,b3,b4⟩:=b;obtain⟨h1,h2,h3,s,hs,hv⟩:=hb;dsimp only at h1 h2 h3 hv;subst h1 h2 h3;have hl:(enR b1 r.2.1).length≤32:=Nat.le_trans (List.length_filter_le _ _) h.g.ct;have hen:hasB (enR b1 r.2.1) e=(hasB b1.2.1.1 e&&(st1 b1.2.1 r.2.1 e).isSome):=by
  rw [Bool.eq_iff_iff,Bool.and_eq_true,yb,yb,enR,List.mem_filter,cmdL,List.mem_filter];have:(!hasB b1.2.2 e)=true:=by rw [Bool.not_eq_true',←Bool.not_eq_true,yb];exact he
  exact⟨fun h=>⟨h.1.1,h.2⟩,fun h=>⟨⟨h.1,this⟩,h.2⟩⟩
 rw [y4F,yct h.rP,yOb,y8s h.rP,perm];cases st1 b1.1 r.1 e with
 | none=>rfl
 | some t=>
  have hS1:=h.rS.l1;rw [if_pos (show (some t).isSome=true from rfl),y2d (by omega),yOb,hen];cases hx:hasB b1.2.1.1 e with
  | false=>rw [if_neg (by simp),y2d (by dsimp only;omega),yOb,yOb,yOb];dsimp only;rw [hx];rfl
  | true=>
   cases st1 b1.2.1 r.2.1 e with
   | none=>rw [if_neg (by simp),y2d (by dsimp only;omega),yOb,yOb,yOb];dsimp only;rw [hx];rfl
   | some t=>rfl
theorem ygE(h:SimOk q n1 n2)(hb:BenOk q n2 b r)(o:BenT×List Int)(en:List Int×Int)(cm:Int)(la:List Int×Bool×BenT):∃b',y1V o en cm la b=some ((o.2,la.1,en.1,cm,la.2.1,r.2.1,r.2.2),0,b')∧BenOk q n2 b' r:=by
 obtain⟨b1,b2,b3,b4⟩:=b;obtain⟨h1,h2,h3,s,hs,hv⟩:=hb;dsimp only at h1 h2 h3 hv;subst h1 h2 h3;rw [y1V];dsimp only;rw [ygy h.g hv.ho hv.hm hv.hs hv.hq,yOb,if_neg (by simp),yfH h.g hv.ho hv.hm,yOb];exact⟨_,by rw [hs,hv.ha],⟨rfl,rfl,rfl,s,hs,hv⟩⟩
theorem ygF(h:SimOk q n1 n2)(hb:BenOk q n2 b r)(o:BenT×List Int)(en:List Int×Int)(cm:Int)(la:List Int×Bool×BenT)(hl:la.1.length≤1000000)(hn:la.1.Nodup):
  ∃b' z,y1W o en cm la b=some ((o.2,la.1,en.1,cm,la.2.1,z.2.1,z.2.2),0,b')∧BenOk q n2 b' z∧z=if la.2.1=true then(r.1,hnL q.2.1 [cm] (hnL q.2.1 la.1 r.2)) else(r.1,hnL q.2.1 la.1 r.2):=by
 obtain⟨b2,g1,g2,_⟩:=ybG h hb hl hn;rw [y1W,g1,yOb,if_neg (by simp)];dsimp only;cases hd:la.2.1 with
 | true=>
  obtain⟨b3,g3,g4,_⟩:=ybG h g2 (l:=[cm]) (by simp) (by simp);obtain⟨b4,g5,g6⟩:=ygE h g4 o en cm la;rw [hd] at g5;rw [if_pos rfl,g3,yOb,if_neg (by simp)];exact⟨b4,_,g5,g6,rfl⟩
 | false=>
  obtain⟨b4,g5,g6⟩:=ygE h g2 o en cm la;rw [hd] at g5;rw [if_neg (by simp)];exact⟨b4,_,g5,g6,rfl⟩
theorem yhI(h:SimOk q n1 n2)(hb:BenOk q n2 b r){c:CycT}(l1:c.1.length≤1000000)(l2:c.2.1.length≤1000000)(d1:c.1.Nodup)(d2:c.2.1.Nodup){p2:(Int→Option Bool)→Option Int}{ch:RunT→Int}
  (hp:∀b2:BenT,BenOk q n2 b2 (midR q r c)→p2 (ym (some b2) ((trE q.1 c.1 r.1).2,[],enR q (midR q r c).2.1,0,false,0,false))=some (ch (midR q r c))):
  ∃b',y3W b c p2=some (stpR q r c ch,0,b')∧BenOk q n2 b' (finR q (midR q r c) c (ch (midR q r c))):=by
 have hP1:Right b.1.1 n1:=by rw [hb.e1];exact h.rP
 have k1:=y8h q.1 c.1 r.1;have k2:=y8h q.1 c.2.1 (midR q r c).1;have s1:=d1.sublist (ybU q.1 c.1 r.1);have s2:=d2.sublist (ybU q.1 c.2.1 (midR q r c).1);have hb1:=hb.plant (trE b.1.1 c.1 b.2.2.1).1;rw [y3W,yhH hP1 l1,yOb];dsimp only;rw [hb.e1,hb.e3] at hb1 ⊢;obtain⟨b2,g1,g2,g3⟩:=ybG h hb1 (l:=(trE q.1 c.1 r.1).2) (by omega) s1;have g2:BenOk q n2 b2 (midR q r c):=g2;have g3:y3V b2.2.1 b2.2.2.2=some (enR q (midR q r c).2.1,0):=g3;rw [g1,yOb,if_neg (by simp)];dsimp only;rw [g3,yOb,if_neg (by simp)];dsimp only;rw [hp b2 g2,yOb];have hP2:Right b2.1.1 n1:=by rw [g2.e1];exact h.rP
 rw [ygB hP2 l2,yOb,ya5];have hb3:=g2.plant (trE b2.1.1 c.2.1 b2.2.2.1).1;rw [stpR];generalize ch (midR q r c)=cm at *;have hdn:((cm != -1)&&(trF b2.1.1 cm c.2.1 b2.2.2.1 true []).2.1)=dnR q (midR q r c) c cm:=by rw [g2.e1,g2.e3];rfl
 dsimp only;rw [hdn,List.nil_append,finR];rw [g2.e3,g2.e1] at hb3 ⊢;cases hd:dnR q (midR q r c) c cm with
 | true=>
  rw [if_pos rfl,ydd (by dsimp only;exact h.rP),yOb];obtain⟨b',z,w1,w2,w3⟩:=ygF h (hb3.plant ((st1 q.1 (trE q.1 c.2.1 (midR q r c).1).1 cm).getD (trE q.1 c.2.1 (midR q r c).1).1)) ((q,b.2.1,(trE q.1 c.1 r.1).1,b.2.2.2),(trE q.1 c.1 r.1).2) (enR q (midR q r c).2.1,0) cm ((trE q.1 c.2.1 (midR q r c).1).2,true,(q,b2.2.1,(trE q.1 c.2.1 (midR q r c).1).1,b2.2.2.2)) (by dsimp only;omega) s2;rw [if_pos rfl] at w3 ⊢;subst w3;exact⟨b',w1,w2⟩
 | false=>
  rw [if_neg (by simp)];obtain⟨b',z,w1,w2,w3⟩:=ygF h hb3 ((q,b.2.1,(trE q.1 c.1 r.1).1,b.2.2.2),(trE q.1 c.1 r.1).2) (enR q (midR q r c).2.1,0) cm ((trE q.1 c.2.1 (midR q r c).1).2,false,(q,b2.2.1,(trE q.1 c.2.1 (midR q r c).1).1,b2.2.2.2)) (by dsimp only;omega) s2;rw [if_neg (by simp)] at w3 ⊢;subst w3;exact⟨b',w1,w2⟩
end
theorem yaN{q:PbT}{n:Nat}(hP:Right q.1 n){m:RunT}{e:Int}(h:perm q m e=true):0≤e∧(st1 q.1 m.1 e).isSome=true:=by
 rw [perm,Bool.and_eq_true] at h;obtain⟨t,ht⟩:=Option.isSome_iff_exists.1 h.1;exact⟨(hP.alr e (yd9 hP ht).2.2.2.2).1,h.1⟩
structure CycOk (q:PbT) (c:CycT):Prop where
 l1:c.1.length≤1000000
 l2:c.2.1.length≤1000000
 d1:c.1.Nodup
 d2:c.2.1.Nodup
section
variable{q:PbT}{n1 n2:Nat}
theorem yhJ(h:SimOk q n1 n2):∃b,y5U q=some (some b,0)∧BenOk q n2 b (0,0,false):=by
 have hl:=h.rS.l1;refine⟨(q,codeP (toAut q.2.1) (cmdL q) n2,0,_),?_,⟨rfl,rfl,rfl,0,rfl,Shows.start h.g.n0⟩⟩;rw [y5U,ydg hl h.u,h.gen,yOb,if_neg (by simp)];dsimp only;rw [ygA h.g h.rS.ali h.ic,yOb,if_neg (by simp)]
theorem ygG(h:SimOk q n1 n2){l:List CycT}(hl:l.length≤1000000)(hc:∀c∈l,CycOk q c){p2:CycT→Option ((Int→Option Bool)→Option Int)}{pr:CycT→List Int}
  (hp:∀c∈l,∃f,p2 c=some f∧∀(m:RunT) (b:BenT) (s:StpT),BenOk q n2 b m→s.2.2.1=enR q m.2.1→f (ym (some b) s)=some (chP q (pr c) m)):
  y5L q l p2=some (y3E q (fun c=>chP q (pr c)) (0,0,false) l,0):=by
 obtain⟨b,g1,g2⟩:=yhJ h;obtain⟨o,h1,h2⟩:=yd (f:=y5F l p2) (fun i s=>s.1=(i:Int)∧i≤l.length∧s.2.1=y3E q (fun c=>chP q (pr c)) (0,0,false) (l.take i)∧BenOk q n2 s.2.2 (runR q (fun c=>chP q (pr c)) (0,0,false) (l.take i))) (fun o=>o= .inl (y3E q (fun c=>chP q (pr c)) (0,0,false) l)) l.length 0 (by omega) (fun i s hi ⟨e1,_,e2,e3⟩=>by
  obtain⟨j,out,b1⟩:=s;dsimp only at e1 e2 e3;subst e1;left;have hm:=List.getElem_mem hi;obtain⟨f,f1,f2⟩:=hp _ hm;have hk:=hc _ hm;obtain⟨b2,w1,w2⟩:=yhI h e3 hk.l1 hk.l2 hk.d1 hk.d2 (p2:=f) (ch:=chP q (pr l[i])) (fun b2 hb2=>f2 _ b2 _ hb2 rfl);have hol:out.length≤1000000:=by rw [e2,y9I,List.length_take];omega
  refine⟨(((i+1:Nat):Int),out++[stpR q (runR q (fun c=>chP q (pr c)) (0,0,false) (l.take i)) l[i] (chP q (pr l[i]))],b2),?_,rfl,hi,?_,?_⟩
  ·rw [y5F,if_pos (ct_lt hi),ya hi,yOb,f1,yOb,w1,yOb,if_neg (by simp),yr (by simp;omega),yOb,nxt (by omega)]
  ·rw [List.take_succ_eq_append_getElem hi,yak,e2]
  ·dsimp only;rw [List.take_succ_eq_append_getElem hi,ydI];exact w2) (fun s ⟨e1,_,e2,e3⟩=>by
  obtain⟨j,out,b1⟩:=s;dsimp only at e1 e2 e3;subst e1;exact⟨_,by rw [y5F,if_neg ct_ge],by rw [e2,List.take_length]⟩) (Nat.zero_le _) (0,[],b) ⟨rfl,Nat.zero_le _,rfl,g2⟩
 rw [y5L,g1,yOb,if_neg (by simp)];dsimp only;rw [yOb,h1,yOb,h2]
theorem yit(h:SimOk q n1 n2){c:CycT}(hc:c.2.2= -1∨c.2.2∉q.2.2):∃f,y6F c=some f∧∀(m:RunT) (b:BenT) (s:StpT),BenOk q n2 b m→s.2.2.1=enR q m.2.1→f (ym (some b) s)=some (chP q [c.2.2] m):=by
 refine⟨_,rfl,fun m b s hb hs=>?_⟩;rw [y5v,chP,List.find?_cons];by_cases h1:c.2.2= -1
 ·rw [h1,if_neg (by simp),yOb,if_neg (by simp)];cases hp:perm q m (-1) with
  | true=>have:=(yaN h.rP hp).1;omega
  | false=>rfl
 ·rw [if_pos (by simpa using h1),ym,yOb,hs,ygD h hb (hc.resolve_left h1),yOb,yOb,yOb];cases perm q m c.2.2 <;> rfl
theorem yiu(h:SimOk q n1 n2){pr:List Int}(hl:pr.length≤1000000)(hc:∀e∈pr,e∉q.2.2)(c:CycT):∃f,y3Z pr c=some f∧∀(m:RunT) (b:BenT) (s:StpT),BenOk q n2 b m→s.2.2.1=enR q m.2.1→f (ym (some b) s)=some (chP q pr m):=by
 refine⟨_,rfl,fun m b s hb hs=>?_⟩;obtain⟨o,h1,h2⟩:=yd (f:=y3B pr (ym (some b) s)) (fun i s=>s=(i:Int)∧pr.find? (perm q m)=(pr.drop i).find? (perm q m)) (fun o=>(o= .inl ()∧pr.find? (perm q m)=none)∨∃(i:Nat) (h:i<pr.length),o= .inr (i:Int)∧pr.find? (perm q m)=some pr[i]) pr.length 0 (by omega) (fun i st hi ⟨e1,e2⟩=>by
  subst e1;rw [List.drop_eq_getElem_cons hi,List.find?_cons] at e2;have hmay:ym (some b) s pr[i]=some (perm q m pr[i]):=by
   rw [ym,yOb,hs,ygD h hb (hc _ (List.getElem_mem hi)),yOb]
  rw [y3B,if_pos (ct_lt hi),ya hi,yOb,hmay,yOb];cases hp:perm q m pr[i] with
  | true=>
   rw [hp] at e2;exact .inr ⟨_,by rw [if_pos rfl],.inr ⟨i,hi,rfl,e2⟩⟩
  | false=>
   rw [hp] at e2;exact .inl ⟨_,by rw [if_neg (by simp),nxt (by omega)],rfl,e2⟩) (fun st ⟨e1,e2⟩=>by
  subst e1;rw [List.drop_length] at e2;exact⟨_,by rw [y3B,if_neg ct_ge],.inl ⟨rfl,e2⟩⟩) (Nat.zero_le _) 0 ⟨rfl,rfl⟩
 rw [y3o,y4D,h1,yOb,chP];rcases h2 with ⟨rfl,g⟩|⟨i,hi,rfl,g⟩
 ·rw [g];rfl
 ·rw [g];dsimp only;rw [yOb,if_pos (by simp),ya hi,yOb];rfl
end
section
variable{q:PbT}{n1 n2:Nat}
theorem ycM(rP:Right q.1 n1)(rS:Right q.2.1 n2)(m:RunT)(e:Int):y2a (q,m) e=some (perm q m e):=by
 rw [y2a,y6H rP,yOb,y8s rP,perm];cases st1 q.1 m.1 e with
 | none=>rfl
 | some t=>
  rw [if_pos (show (some t).isSome=true from rfl),has55 rS.l1,yOb];dsimp only;cases hasB q.2.1.1 e with
  | false=>rfl
  | true=>
   rw [if_neg (by simp),y6H rS,yOb,y8s rS];rfl
theorem yiv(rP:Right q.1 n1)(rS:Right q.2.1 n2)(m:RunT){pr:List Int}(hl:pr.length≤1000000):iter (y1E (q,m) pr) (0,-1)=some (chP q pr m):=by
 obtain⟨o,h1,h2⟩:=yd (f:=y1E (q,m) pr) (fun i s=>s.1=(i:Int)∧i≤pr.length∧((s.2= -1∧pr.find? (perm q m)=(pr.drop i).find? (perm q m))∨(0≤s.2∧pr.find? (perm q m)=some s.2))) (fun o=>o=chP q pr m) pr.length 0 (by omega) (fun i s hi ⟨e1,_,e2⟩=>by
  obtain⟨j,cm⟩:=s;dsimp only at e1 e2;subst e1;rw [y1E];dsimp only;rcases e2 with ⟨rfl,e2⟩|⟨h0,e2⟩
  ·left;rw [if_pos (by simp;omega),ya hi,yOb];rw [List.drop_eq_getElem_cons hi,List.find?_cons] at e2;cases hp:perm q m pr[i] with
   | true=>
    rw [hp] at e2;have h0:=(yaN rP hp).1;rw [if_pos (by simpa using h0),yOb,ycM rP rS,yOb,yOb,hp,if_pos rfl,yOb,y1D,nxt (by omega)];exact⟨_,rfl,rfl,hi,.inr ⟨h0,e2⟩⟩
   | false=>
    rw [hp] at e2;have:(if decide (pr[i]≥0)=true then(some pr[i]).bind fun x54=>(y2a (q,m) x54).bind fun r55=>some r55 else some false)=some false:=by
     split
     ·rw [yOb,ycM rP rS,yOb,hp]
     ·rfl
    rw [this,yOb,if_neg (by simp),y1D,nxt (by omega)];exact⟨_,rfl,rfl,hi,.inl ⟨rfl,e2⟩⟩
  ·right;rw [if_neg (by simp;omega)];exact⟨_,rfl,by rw [chP,e2];rfl⟩) (fun s ⟨e1,_,e2⟩=>by
  obtain⟨j,cm⟩:=s;dsimp only at e1 e2;subst e1;refine⟨cm,by rw [y1E];dsimp only;rw [if_neg (by simp)],?_⟩;rw [List.drop_length] at e2;rcases e2 with ⟨rfl,e2⟩|⟨_,e2⟩
  ·rw [chP,e2];rfl
  ·rw [chP,e2];rfl) (Nat.zero_le _) (0,-1) ⟨rfl,Nat.zero_le _,.inl ⟨rfl,rfl⟩⟩
 rw [h1,h2]
theorem yiM(rS:Right q.2.1 n2)(m:RunT):iter (y1H (q,m) (cmdL q)) (0,[])=some (enR q m.2.1):=by
 have hcl:(cmdL q).length≤1000000:=Nat.le_trans (List.length_filter_le _ _) rS.l1;obtain⟨o,h1,h2⟩:=yd (f:=y1H (q,m) (cmdL q)) (fun i s=>s.1=(i:Int)∧i≤(cmdL q).length∧s.2=((cmdL q).take i).filter fun e=>(st1 q.2.1 m.2.1 e).isSome) (fun o=>o=enR q m.2.1) (cmdL q).length 0 (by omega) (fun i s hi ⟨e1,_,e2⟩=>by
  obtain⟨j,out⟩:=s;dsimp only at e1 e2;subst e1;left;have hle:=List.length_filter_le (fun e=>(st1 q.2.1 m.2.1 e).isSome) ((cmdL q).take i);rw [List.length_take,←e2] at hle;refine⟨(((i+1:Nat):Int),((cmdL q).take (i+1)).filter fun e=>(st1 q.2.1 m.2.1 e).isSome),?_,rfl,by omega,rfl⟩;rw [y1H,if_pos (ct_lt hi),ya hi,yOb,y6H rS,yOb,y8s rS,List.take_succ_eq_append_getElem hi,List.filter_append,←e2,List.filter_cons,List.filter_nil];dsimp only;cases hb:(st1 q.2.1 m.2.1 (cmdL q)[i]).isSome with
  | true=>rw [if_pos rfl,yOb,yr (by simp;omega),yOb,y1G,nxt (by omega),if_pos rfl]
  | false=>rw [if_neg (by simp),y1G,nxt (by omega),if_neg (by simp),List.append_nil]) (fun s ⟨e1,_,e2⟩=>by
  obtain⟨j,out⟩:=s;dsimp only at e1 e2;subst e1;exact⟨_,by rw [y1H,if_neg ct_ge],by rw [e2,List.take_length];rfl⟩) (Nat.zero_le _) (0,[]) ⟨rfl,Nat.zero_le _,by simp⟩
 rw [h1,h2]
theorem ygH(rP:Right q.1 n1)(rS:Right q.2.1 n2)(hu:q.2.2.length≤1000000)(r:RunT){c:CycT}(l1:c.1.length≤1000000)(l2:c.2.1.length≤1000000){pr:List Int}(hl:pr.length≤1000000)(auto:Bool):
  y2z (q,r) c pr auto=some (stpR q r c (chP q (if auto=true then pr else [c.2.2])),(q,cycR q (fun c=>chP q (if auto=true then pr else [c.2.2])) r c)):=by
 have k1:=y8h q.1 c.1 r.1;have k2:=y8h q.1 c.2.1 (midR q r c).1;have j1:∀{pr:List Int} (hl:pr.length≤1000000) (ok:Bool),y1F c ((trE q.1 c.1 r.1).2,ok,(q,(midR q r c).1,r.2)) (q,midR q r c) (enR q (midR q r c).2.1) pr=some (stpR q r c (chP q pr),(q,finR q (midR q r c) c (chP q pr (midR q r c)))):=by
  intro pr hl ok;have hcs:=ydJ q pr (midR q r c);rw [y1F,yiv rP rS _ hl,yOb,yeq (r:=(q,midR q r c)) rP l2,yOb,ya5,stpR];dsimp only;generalize chP q pr (midR q r c)=cm at *;rw [List.nil_append,yaj (r:=(q,(trE q.1 c.2.1 (midR q r c).1).1,(midR q r c).2)) rS (by omega),yOb];have hdn:(decide (cm≥0)&&((st1 q.1 (midR q r c).1 cm).isSome&&(trF q.1 cm c.2.1 (midR q r c).1 true []).2.1))=dnR q (midR q r c) c cm:=by
   rcases hcs with rfl|⟨_,hp⟩
   ·rfl
   ·obtain ⟨h0,h1⟩:=yaN rP hp;rw [h1,dnR,aft,Bool.true_and];have:(cm != -1)=true:=by simp;omega
    rw [this,decide_eq_true h0]
  dsimp only;rw [hdn,finR];cases hd:dnR q (midR q r c) c cm with
  | true=>
   have hd2:=hd;rw [dnR,Bool.and_eq_true] at hd2;have hp:perm q (midR q r c) cm=true:=by
    rcases hcs with rfl|⟨_,hp⟩
    ·simp at hd2
    ·exact hp
   obtain⟨t,ht⟩:=Option.isSome_iff_exists.1 (ydh q.1 cm c.2.1 (midR q r c).1 (yaN rP hp).2 hd2.2);rw [if_pos rfl,if_pos rfl,y6H rP,yOb,ht,Option.getD_some,Option.getD_some,yaj (r:=(q,t,_)) rS (by simp),yOb,y1C];dsimp only;rw [hdn,hd];rfl
  | false=>
   rw [if_neg (by simp),if_neg (by simp),y1C];dsimp only;rw [hdn,hd];rfl
 rw [y2z,yeq (r:=(q,r)) rP l1,yOb,ya5];dsimp only;rw [List.nil_append,yaj (r:=(q,(trE q.1 c.1 r.1).1,r.2)) rS (by omega),yOb];dsimp only;rw [yc8 rS.l1 hu,yOb];have hm:((q,(trE q.1 c.1 r.1).1,List.foldl (hnS q.2.1) r.2 (imL q.2.1 (trE q.1 c.1 r.1).2 32)):PbT×RunT)=(q,midR q r c):=rfl;rw [hm,yiM rS,yOb];cases auto with
 | false=>rw [if_pos (by rfl)];exact j1 (by simp) _
 | true=>rw [if_neg (by simp)];exact j1 hl _
theorem yet(rP:Right q.1 n1)(rS:Right q.2.1 n2)(hu:q.2.2.length≤1000000){l:List CycT}(hll:l.length≤1000000)(hc:∀c∈l,c.1.length≤1000000∧c.2.1.length≤1000000){pr:List Int}(hl:pr.length≤1000000)(auto:Bool):
  y3L q l pr auto=some (y3E q (fun c=>chP q (if auto=true then pr else [c.2.2])) (0,0,false) l):=by
 generalize hch:(fun c:CycT=>chP q (if auto=true then pr else [c.2.2]))=ch;have hcy:∀(r:RunT) (c:CycT),c.1.length≤1000000→c.2.1.length≤1000000→y2z (q,r) c pr auto=some (stpR q r c (ch c),(q,cycR q ch r c)):=fun r c l1 l2=>by
  rw [ygH rP rS hu r l1 l2 hl auto,hch,←hch]
 obtain⟨o,h1,h2⟩:=yd (f:=y3X l pr auto) (fun i s=>s.1=(i:Int)∧i≤l.length∧s.2.1=y3E q ch (0,0,false) (l.take i)∧s.2.2=(q,runR q ch (0,0,false) (l.take i))) (fun o=>o=y3E q ch (0,0,false) l) l.length 0 (by omega) (fun i s hi ⟨e1,_,e2,e3⟩=>by
  obtain⟨j,out,z⟩:=s;dsimp only at e1 e2 e3;subst e1 e3;left;have hm:=hc _ (List.getElem_mem hi);have hol:out.length≤1000000:=by rw [e2,y9I,List.length_take];omega
  refine⟨(((i+1:Nat):Int),y3E q ch (0,0,false) (l.take (i+1)),(q,runR q ch (0,0,false) (l.take (i+1)))),?_,rfl,hi,rfl,rfl⟩;rw [y3X,if_pos (ct_lt hi),ya hi,yOb,hcy _ _ hm.1 hm.2,yOb,yr (by simp;omega),yOb,nxt (by omega),List.take_succ_eq_append_getElem hi,yak,←e2,ydI]) (fun s ⟨e1,_,e2,e3⟩=>by
  obtain⟨j,out,z⟩:=s;dsimp only at e1 e2 e3;subst e1;exact⟨_,by rw [y3X,if_neg ct_ge],by rw [e2,List.take_length]⟩) (Nat.zero_le _) (0,[],q,0,0,false) ⟨rfl,Nat.zero_le _,rfl,rfl⟩
 rw [y3L,h1,yOb,h2]
end
def evE(al u:List Int):List Int→List Int→Int
 | _,[]=>0
 | d,e::l=>if hasB al e=false then 9 else if hasB u e=false then 13 else if hasB d e=true then 8 else evE al u (d++[e]) l
def evL(q:PbT)(l:List Int):Int:=if 3<l.length then 3 else evE q.1.1 q.2.2 [] l
def scE(q:PbT):List CycT→Int
 | []=>0
 | c::l=>if evL q c.1≠0 then evL q c.1 else if evL q c.2.1≠0 then evL q c.2.1 else if c.2.2= -1 then scE q l else if hasB q.1.1 c.2.2=false then 9 else if hasB q.2.2 c.2.2=true then 13 else scE q l
theorem ygI{al u:List Int}:∀{l d:List Int},evE al u d l=0↔(∀e∈l,e∈al∧e∈u∧e∉d)∧l.Nodup
 | [],d=>by simp [evE]
 | e::l,d=>by
  rw [evE,List.nodup_cons];by_cases h1:hasB al e=false
  ·rw [if_pos h1];refine⟨fun h=>by omega,fun h=>?_⟩;rw [yb.2 (h.1 e (List.mem_cons_self ..)).1] at h1;cases h1
  rw [if_neg h1];by_cases h2:hasB u e=false
  ·rw [if_pos h2];refine⟨fun h=>by omega,fun h=>?_⟩;rw [yb.2 (h.1 e (List.mem_cons_self ..)).2.1] at h2;cases h2
  rw [if_neg h2];by_cases h3:hasB d e=true
  ·rw [if_pos h3];exact⟨fun h=>by omega,fun h=>absurd (yb.1 h3) (h.1 e (List.mem_cons_self ..)).2.2⟩
  rw [if_neg h3,ygI];rw [Bool.not_eq_false,yb] at h1 h2;rw [yb] at h3;constructor
  ·intro ⟨h4,h5⟩;refine⟨fun x hx=>?_,fun hx=>?_,h5⟩
   ·rcases List.mem_cons.1 hx with rfl|hx
    ·exact ⟨h1,h2,h3⟩
    ·have:=h4 x hx;exact⟨this.1,this.2.1,fun hd=>this.2.2 (List.mem_append_left _ hd)⟩
   ·exact (h4 e hx).2.2 (List.mem_append_right _ (List.mem_singleton_self e))
  ·intro ⟨h4,h5,h6⟩;refine⟨fun x hx=>?_,h6⟩;have:=h4 x (List.mem_cons_of_mem _ hx);refine⟨this.1,this.2.1,fun hd=>?_⟩;rcases List.mem_append.1 hd with hd|hd
   ·exact this.2.2 hd
   ·rw [List.mem_singleton.1 hd] at hx;exact h5 hx
theorem yaO{q:PbT}(h1:q.1.1.length≤1000000)(h2:q.2.2.length≤1000000){l:List Int}(hl:l.length≤1000000):y3U q l=some (evL q l):=by
 rw [y3U,evL];by_cases h3:3<l.length
 ·rw [if_pos (by simp;omega),if_pos h3]
 rw [if_neg (by simp;omega),if_neg h3];obtain⟨o,g1,g2⟩:=yd (f:=y2W q l) (fun i s=>s=(i:Int)∧evE q.1.1 q.2.2 [] l=evE q.1.1 q.2.2 (l.take i) (l.drop i)) (fun o=>(match o with
   | .inl _=>0
   | .inr u=>u)=evE q.1.1 q.2.2 [] l) l.length 0 (by omega) (fun i s hi ⟨e1,e2⟩=>by
  subst e1;rw [List.drop_eq_getElem_cons hi,evE] at e2;rw [y2W,if_pos (ct_lt hi),ya hi,yOb,y2d (by omega),yOb];cases ha:hasB q.1.1 l[i]
  ·rw [if_pos ha] at e2;refine .inr ⟨_,by rw [if_pos (by rfl)],?_⟩;exact e2.symm
  rw [if_neg (by simp [ha])] at e2;rw [if_neg (by simp),y2d (by omega),yOb];cases hb:hasB q.2.2 l[i]
  ·rw [if_pos hb] at e2;refine .inr ⟨_,by rw [if_pos (by rfl)],?_⟩;exact e2.symm
  rw [if_neg (by simp [hb])] at e2;rw [if_neg (by simp),yb8 (by omega),yOb,y2d (by rw [List.length_take];omega),yOb];cases hc:hasB (l.take i) l[i]
  ·rw [if_neg (by simp [hc])] at e2;exact .inl ⟨_,by rw [if_neg (by simp),nxt (by omega)],rfl,by rw [e2,List.take_succ_eq_append_getElem hi]⟩
  ·rw [if_pos hc] at e2;refine .inr ⟨_,by rw [if_pos rfl],?_⟩;exact e2.symm) (fun s ⟨e1,e2⟩=>by
  subst e1;rw [List.drop_length,evE] at e2;refine⟨_,by rw [y2W,if_neg ct_ge],?_⟩;exact e2.symm) (Nat.zero_le _) 0 ⟨rfl,rfl⟩
 rw [g1,yOb,←g2];cases o <;> rfl
theorem y8Y{q:PbT}(h1:q.1.1.length≤1000000)(h2:q.2.2.length≤1000000){l:List CycT}(hl:l.length≤1000000)(hc:∀c∈l,c.1.length≤1000000∧c.2.1.length≤1000000){e:Int}(he:yF q=some e):
  y1K q l=some (if e≠0 then e else if 256<l.length then 3 else scE q l):=by
 rw [y1K,he,yOb];by_cases h0:e=0
 case neg=>rw [if_pos (by simpa using h0),if_pos h0]
 rw [if_neg (by simpa using h0),if_neg (show ¬e≠0 from fun h=>h h0)];by_cases h3:256<l.length
 ·rw [if_pos (by simp;omega),if_pos h3]
 rw [if_neg (by simp;omega),if_neg h3];have hin:∀c∈l,iter (y1T q c) 0=some (if evL q c.1≠0 then .inr (evL q c.1) else if evL q c.2.1≠0 then .inr (evL q c.2.1) else .inl ()):=fun c hm=>by
  obtain⟨k1,k2⟩:=hc c hm;refine y5i (n:=3) (by omega) ?_;rw [yc,y1T,if_pos (by simp),show idx [c.1,c.2.1] 0=some c.1 from rfl,yOb,yaO h1 h2 k1,yOb];by_cases g1:evL q c.1=0
  case neg=>rw [if_pos (by simpa using g1),if_pos g1]
  rw [if_neg (by simpa using g1),if_neg (show ¬evL q c.1≠0 from fun h=>h g1)];dsimp only;rw [yc,y1T,show W (0+1)=1 from rfl,if_pos (by simp),show idx [c.1,c.2.1] 1=some c.2.1 from rfl,yOb,yaO h1 h2 k2,yOb];by_cases g2:evL q c.2.1=0
  case neg=>rw [if_pos (by simpa using g2),if_pos g2]
  rw [if_neg (by simpa using g2),if_neg (show ¬evL q c.2.1≠0 from fun h=>h g2)];dsimp only;rw [yc,y1T,show W (1+1)=2 from rfl,if_neg (by simp)]
 obtain⟨o,g1,g2⟩:=yd (f:=y2X q l) (fun i s=>s=(i:Int)∧scE q l=scE q (l.drop i)) (fun o=>(match o with
   | .inl _=>0
   | .inr u=>u)=scE q l) l.length 0 (by omega) (fun i s hi ⟨e1,e2⟩=>by
  subst e1;rw [List.drop_eq_getElem_cons hi,scE] at e2;rw [y2X,if_pos (ct_lt hi),ya hi,yOb,hin _ (List.getElem_mem hi),yOb];by_cases k1:evL q l[i].1=0
  case neg=>
   rw [if_pos k1] at e2 ⊢;refine .inr ⟨_,rfl,?_⟩;exact e2.symm
  rw [if_neg (show ¬evL q l[i].1≠0 from fun h=>h k1)] at e2 ⊢;by_cases k2:evL q l[i].2.1=0
  case neg=>
   rw [if_pos k2] at e2 ⊢;refine .inr ⟨_,rfl,?_⟩;exact e2.symm
  rw [if_neg (show ¬evL q l[i].2.1≠0 from fun h=>h k2)] at e2 ⊢;dsimp only;by_cases k3:l[i].2.2= -1
  ·rw [if_pos k3] at e2;exact .inl ⟨_,by rw [if_pos (by simpa using k3),y1S,nxt (by omega)],rfl,e2⟩
  rw [if_neg k3] at e2;rw [if_neg (by simpa using k3),y2d (by omega),yOb];cases ha:hasB q.1.1 l[i].2.2
  ·rw [if_pos ha] at e2;refine .inr ⟨_,by rw [if_pos (by rfl)],?_⟩;exact e2.symm
  rw [if_neg (by simp [ha])] at e2;rw [if_neg (by simp),y2d (by omega),yOb];cases hb:hasB q.2.2 l[i].2.2
  ·rw [if_neg (by simp [hb])] at e2;exact .inl ⟨_,by rw [if_neg (by simp),y1S,nxt (by omega)],rfl,e2⟩
  ·rw [if_pos hb] at e2;refine .inr ⟨_,by rw [if_pos rfl],?_⟩;exact e2.symm) (fun s ⟨e1,e2⟩=>by
  subst e1;rw [List.drop_length,scE] at e2;refine⟨_,by rw [y2X,if_neg ct_ge],?_⟩;exact e2.symm) (Nat.zero_le _) 0 ⟨rfl,rfl⟩
 rw [g1,yOb,←g2];cases o <;> rfl
structure CycIn (q:PbT) (c:CycT):Prop where
 l1:c.1.length≤3
 l2:c.2.1.length≤3
 d1:c.1.Nodup
 d2:c.2.1.Nodup
 i1:∀e∈c.1,e∈q.1.1∧e∈q.2.2
 i2:∀e∈c.2.1,e∈q.1.1∧e∈q.2.2
 cm:c.2.2= -1∨(c.2.2∈q.1.1∧c.2.2∉q.2.2)
theorem CycIn.ok{q:PbT}{c:CycT}(h:CycIn q c):CycOk q c:=⟨by have:=h.l1;omega,by have:=h.l2;omega,h.d1,h.d2⟩
theorem ygJ{q:PbT}:∀{l:List CycT},scE q l=0↔ ∀c∈l,CycIn q c
 | []=>by simp [scE]
 | c::l=>by
  have hev:∀{w:List Int},evL q w=0↔w.length≤3∧(∀e∈w,e∈q.1.1∧e∈q.2.2)∧w.Nodup:=fun {w}=>by
   rw [evL];by_cases h:3<w.length
   ·rw [if_pos h];exact⟨fun h=>by omega,fun h=>by omega⟩
   ·rw [if_neg h,ygI];exact⟨fun g=>⟨by omega,fun e he=>⟨(g.1 e he).1,(g.1 e he).2.1⟩,g.2⟩,fun g=>⟨fun e he=>⟨(g.2.1 e he).1,(g.2.1 e he).2,List.not_mem_nil⟩,g.2.2⟩⟩
  rw [scE,List.forall_mem_cons,←ygJ];by_cases k1:evL q c.1=0
  case neg=>
   rw [if_pos k1];exact⟨fun h=>absurd h k1,fun h=>absurd (hev.2 ⟨h.1.l1,h.1.i1,h.1.d1⟩) k1⟩
  rw [if_neg (show ¬evL q c.1≠0 from fun h=>h k1)];by_cases k2:evL q c.2.1=0
  case neg=>
   rw [if_pos k2];exact⟨fun h=>absurd h k2,fun h=>absurd (hev.2 ⟨h.1.l2,h.1.i2,h.1.d2⟩) k2⟩
  rw [if_neg (show ¬evL q c.2.1≠0 from fun h=>h k2)];have g1:=hev.1 k1;have g2:=hev.1 k2;by_cases k3:c.2.2= -1
  ·rw [if_pos k3];exact⟨fun h=>⟨⟨g1.1,g2.1,g1.2.2,g2.2.2,g1.2.1,g2.2.1,.inl k3⟩,h⟩,fun h=>h.2⟩
  rw [if_neg k3];cases ha:hasB q.1.1 c.2.2
  ·rw [if_pos rfl];refine⟨fun h=>by omega,fun h=>?_⟩;rcases h.1.cm with h|h
   ·exact absurd h k3
   ·rw [yb.2 h.1] at ha;cases ha
  rw [if_neg (by simp)];cases hb:hasB q.2.2 c.2.2
  ·rw [if_neg (by simp)];exact⟨fun h=>⟨⟨g1.1,g2.1,g1.2.2,g2.2.2,g1.2.1,g2.2.1,.inr ⟨yb.1 ha,fun hm=>by rw [yb.2 hm] at hb;cases hb⟩⟩,h⟩,fun h=>h.2⟩
  ·rw [if_pos rfl];refine⟨fun h=>by omega,fun h=>?_⟩;rcases h.1.cm with h|h
   ·exact absurd h k3
   ·exact absurd (yb.1 hb) h.2
theorem Right.err0{a:AutT}{n:Nat}(h:Right a n):(toAut a).err=0:=by
 have h1:=h.l1;have h2:=h.l2;have h3:=h.l3;have g:=yb6 (a:=toAut a) (by show(a.2.2.2.map toEd).length<_;rw [List.length_map];omega) (by show a.1.length<_;omega) (by show a.2.2.1.length<_;omega);rw [y9E,h.check] at g;exact(Option.some.inj g).symm
theorem ygK{a:AutT}{n:Nat}(h:Right a n)(hn:n≤25)(he:∀x∈a.1,0≤x∧x<5):a.2.2.2.length≤125:=by
 have hx:∀x∈a.2.2.2,0≤x.1*5+x.2.1∧x.1*5+x.2.1<((125:Nat):Int):=fun x hx=>by
  have g:=h.es x hx;have:=he _ g.2.2.2.2;omega
 have hi:Inc (a.2.2.2.map fun x=>x.1*5+x.2.1):=by
  unfold Inc;rw [List.pairwise_map];refine(List.pairwise_iff_getElem.2 fun i j hi hj hij=>?_);have g:=List.pairwise_iff_getElem.1 h.so i j hi hj hij;have g1:=he _ (h.es _ (List.getElem_mem hi)).2.2.2.2;have g2:=he _ (h.es _ (List.getElem_mem hj)).2.2.2.2;omega
 have:=y5N (lo:=0) hi (fun y hy=>by
  obtain⟨x,h1,rfl⟩:=List.mem_map.1 hy;exact hx x h1) (Int.le_refl _)
 simpa using this
theorem ygL{q:PbT}{n1 n2:Nat}(h:PbOk q n1 n2)(l2:n2≤25)(he:∀x∈q.1.1,0≤x∧x<5):∃e,yF q=some e∧y2R q=some e∧(e=0→SimOk q n1 n2):=by
 obtain⟨t,p,T,k1,k2,n,ho,_⟩:=h.open;have hS:=h.rS;have hul:=Alp.len ⟨h.iu,h.ur⟩;have hal:=Alp.len ⟨hS.ali,hS.alr⟩;have hes:=ygK hS l2 fun x hx=>he x (h.sub x hx);have hsub:(cmdL q).Sublist q.2.1.1:=List.filter_sublist;have hic:Inc (cmdL q):=List.Pairwise.sublist hsub hS.ali;have hcr:∀x∈cmdL q,0≤x∧x<32:=fun x hx=>hS.alr x (hsub.subset hx);have hcl:=Alp.len ⟨hic,hcr⟩;rw [←yis (by omega) (by omega),yF,y7v,ho,yOb,yOb,if_neg (by simp),h.rP.nn];by_cases h0:n1=0
 ·subst h0;exact⟨12,by rw [if_pos (by rfl)],by rw [if_pos (by rfl)],fun h=>by omega⟩
 rw [if_neg (by simp;omega),ydg (by omega) (by omega)];have hsb:y1c (cmdL q) q.2.1.1=some true:=by
  rw [ydH (by omega) (by omega) hic hS.ali];exact congrArg some (List.all_eq_true.2 fun x hx=>yb.2 (hsub.subset hx))
 have hse:yD 32 none (cmdL q)=0:=y6R hic hcr nofun;by_cases hz:n2=0
 ·subst hz;have:yU q.2.1 (cmdL q)=some (((0,0,0,[],[]),[],[],0),21):=by
   rw [yU,hS.check,yOb,if_neg (by simp),ya1 (by omega),hse,yOb,if_neg (by simp),hsb,yOb,if_neg (by simp),if_pos (by rw [hS.nn];rfl)]
  rw [this,yOb];exact⟨21,rfl,rfl,fun h=>by omega⟩
 have hg:GenIn (toAut q.2.1) (cmdL q) n2:=⟨hS.nn,by omega,by omega,by show(q.2.1.2.2.2.map toEd).length≤256;rw [List.length_map];omega,hal,hcl,fun x hx=>by
  obtain⟨y,hy,rfl⟩:=List.mem_map.1 hx;have:=hS.es y hy;exact⟨this.1,this.2.1,this.2.2.1,this.2.2.2.1⟩⟩
 have hgen:=yeH hg hS.l2 hS.err0 hse hsb;rw [y9E] at hgen;rw [hgen,yOb];exact⟨0,rfl,rfl,fun _=>⟨h.rP,hS,hg,hic,by omega,by omega,hgen⟩⟩
theorem yiw{x:Des26×Bool}(hd:Des26In x.1):∃q n1 n2 e,y3D x=some q∧PbOk q n1 n2∧(∀a∈q.1.1,0≤a∧a<5)∧n1≤5∧n2≤25∧yF q=some e∧y2R q=some e∧(e=0→SimOk q n1 n2):=by
 obtain⟨q,n1,n2,h1,h2,h3,h4,h5⟩:=yfB hd x.2;obtain⟨e,g1,g2,g3⟩:=ygL h2 h4 h5;refine⟨q,n1,n2,e,?_,h2,h5,h3,h4,g1,g2,g3⟩;rw [y3D,h1,yOb]
theorem ycN{q:PbT}{ch:CycT→RunT→Int}:∀{l:List CycT} {r:RunT} {s:StpR},s∈y3E q ch r l→∃r' c,c∈l∧s=stpR q r' c (ch c)
 | [],_,_,h=>by cases h
 | c::l,r,s,h=>by
  rcases List.mem_cons.1 h with rfl|h
  ·exact ⟨r,c,List.mem_cons_self ..,rfl⟩
  ·obtain ⟨r',c',h1,h2⟩:=ycN h;exact⟨r',c',List.mem_cons_of_mem _ h1,h2⟩
theorem ygM{q:PbT}{n1 n2:Nat}(h:SimOk q n1 n2){pr:CycT→List Int}{r:RunT}{l:List CycT}(hl:∀c∈l,c.1.length≤50∧c.2.1.length≤50):∀s∈y3E q (fun c=>chP q (pr c)) r l,s.1.length+s.2.1.length≤100∧s.2.2.1.length≤32∧(s.2.2.2.1= -1∨0≤s.2.2.2.1):=fun s hs=>by
 obtain⟨r',c,hc,rfl⟩:=ycN hs;have k:=hl c hc;have k1:=y8h q.1 c.1 r'.1;have k2:=y8h q.1 c.2.1 (midR q r' c).1;refine⟨?_,Nat.le_trans (List.length_filter_le _ _) h.g.ct,?_⟩
 ·show (trE q.1 c.1 r'.1).2.length+(trE q.1 c.2.1 (midR q r' c).1).2.length≤100;omega
 ·exact (ydJ q (pr c) (midR q r' c)).imp id fun g=>(yaN h.rP g.2).1
section
variable{q:PbT}{n1 n2:Nat}
theorem yeu(h1:q.1.1.length≤1000000)(h2:q.2.2.length≤1000000){l:List Int}(hl:l.length≤1000000):y3M q l=some (evL q l):=by
 rw [y3M,evL];by_cases h3:3<l.length
 ·rw [if_pos (by simp;omega),if_pos h3]
 rw [if_neg (by simp;omega),if_neg h3];obtain⟨o,g1,g2⟩:=yd (f:=y3Y q l) (fun i s=>s=(i:Int)∧evE q.1.1 q.2.2 [] l=evE q.1.1 q.2.2 (l.take i) (l.drop i)) (fun o=>(match o with
   | .inl _=>0
   | .inr u=>u)=evE q.1.1 q.2.2 [] l) l.length 0 (by omega) (fun i s hi ⟨e1,e2⟩=>by
  subst e1;rw [List.drop_eq_getElem_cons hi,evE] at e2;rw [y3Y,if_pos (ct_lt hi),ya hi,yOb,has55 h1,yOb];cases ha:hasB q.1.1 l[i]
  ·rw [if_pos ha] at e2;refine .inr ⟨_,by rw [if_pos (by rfl)],?_⟩;exact e2.symm
  rw [if_neg (by simp [ha])] at e2;rw [if_neg (by simp),yOb,has55 h2,yOb];cases hb:hasB q.2.2 l[i]
  ·rw [if_pos hb] at e2;refine .inr ⟨_,by rw [if_pos (by rfl)],?_⟩;exact e2.symm
  rw [if_neg (by simp [hb])] at e2;rw [if_neg (by simp),yb8 (by omega),yOb,yOb,has55 (by rw [List.length_take];omega),yOb];cases hc:hasB (l.take i) l[i]
  ·rw [if_neg (by simp [hc])] at e2;exact .inl ⟨_,by rw [if_neg (by simp),nxt (by omega)],rfl,by rw [e2,List.take_succ_eq_append_getElem hi]⟩
  ·rw [if_pos hc] at e2;refine .inr ⟨_,by rw [if_pos rfl],?_⟩;exact e2.symm) (fun s ⟨e1,e2⟩=>by
  subst e1;rw [List.drop_length,evE] at e2;refine⟨_,by rw [y3Y,if_neg ct_ge],?_⟩;exact e2.symm) (Nat.zero_le _) 0 ⟨rfl,rfl⟩
 rw [g1,yOb,←g2];cases o <;> rfl
theorem yfL(h1:q.1.1.length≤1000000)(h2:q.2.2.length≤1000000){l:List CycT}(hl:l.length≤1000000)(hc:∀c∈l,c.1.length≤1000000∧c.2.1.length≤1000000):y2Z q l=some (if 256<l.length then 3 else scE q l):=by
 rw [y2Z];by_cases h3:256<l.length
 ·rw [if_pos (by simp;omega),if_pos h3]
 rw [if_neg (by simp;omega),if_neg h3];obtain⟨o,g1,g2⟩:=yd (f:=y2t q l) (fun i s=>s=(i:Int)∧scE q l=scE q (l.drop i)) (fun o=>(match o with
   | .inl _=>0
   | .inr u=>u)=scE q l) l.length 0 (by omega) (fun i s hi ⟨e1,e2⟩=>by
  subst e1;obtain⟨c1,c2⟩:=hc _ (List.getElem_mem hi);rw [List.drop_eq_getElem_cons hi,scE] at e2;rw [y2t,if_pos (ct_lt hi),ya hi,yOb,yeu h1 h2 c1,yOb];by_cases k1:evL q l[i].1=0
  case neg=>
   rw [if_pos k1] at e2;refine .inr ⟨_,by rw [if_pos (by simpa using k1)],?_⟩;exact e2.symm
  rw [if_neg (show ¬evL q l[i].1≠0 from fun h=>h k1)] at e2;rw [if_neg (by simpa using k1),yOb,yeu h1 h2 c2,yOb];by_cases k2:evL q l[i].2.1=0
  case neg=>
   rw [if_pos k2] at e2;refine .inr ⟨_,by rw [if_pos (by simpa using k2)],?_⟩;exact e2.symm
  rw [if_neg (show ¬evL q l[i].2.1≠0 from fun h=>h k2)] at e2;rw [if_neg (by simpa using k2),yOb];by_cases k3:l[i].2.2= -1
  ·rw [if_pos k3] at e2;exact .inl ⟨_,by rw [if_pos (by simpa using k3),y1l,nxt (by omega)],rfl,e2⟩
  rw [if_neg k3] at e2;rw [if_neg (by simpa using k3),has55 h1,yOb];cases ha:hasB q.1.1 l[i].2.2
  ·rw [if_pos ha] at e2;refine .inr ⟨_,by rw [if_pos (by rfl)],?_⟩;exact e2.symm
  rw [if_neg (by simp [ha])] at e2;rw [if_neg (by simp),has55 h2,yOb];cases hb:hasB q.2.2 l[i].2.2
  ·rw [if_neg (by simp [hb])] at e2;exact .inl ⟨_,by rw [if_neg (by simp),y1l,nxt (by omega)],rfl,e2⟩
  ·rw [if_pos hb] at e2;refine .inr ⟨_,by rw [if_pos rfl],?_⟩;exact e2.symm) (fun s ⟨e1,e2⟩=>by
  subst e1;rw [List.drop_length,scE] at e2;refine⟨_,by rw [y2t,if_neg ct_ge],?_⟩;exact e2.symm) (Nat.zero_le _) 0 ⟨rfl,rfl⟩
 rw [g1,yOb,←g2];cases o <;> rfl
theorem ygN(h1:q.1.1.length≤1000000)(h2:q.2.2.length≤1000000){l:List Int}(hl:l.length≤1000000):y3n q l=some (priE q.1.1 q.2.2 [] l):=by
 obtain⟨o,g1,g2⟩:=yd (f:=y2C q l) (fun i s=>s=(i:Int)∧priE q.1.1 q.2.2 [] l=priE q.1.1 q.2.2 (l.take i) (l.drop i)) (fun o=>(match o with
   | .inl _=>0
   | .inr u=>u)=priE q.1.1 q.2.2 [] l) l.length 0 (by omega) (fun i s hi ⟨e1,e2⟩=>by
  subst e1;rw [List.drop_eq_getElem_cons hi,priE] at e2;rw [y2C,if_pos (ct_lt hi),ya hi,yOb,y2d (by omega),yOb];cases ha:hasB q.1.1 l[i]
  ·rw [if_pos ha] at e2;refine .inr ⟨_,by rw [if_pos (by rfl)],?_⟩;exact e2.symm
  rw [if_neg (by simp [ha])] at e2;rw [if_neg (by simp),y2d (by omega),yOb];cases hb:hasB q.2.2 l[i]
  case true=>
   rw [if_pos hb] at e2;refine .inr ⟨_,by rw [if_pos rfl],?_⟩;exact e2.symm
  rw [if_neg (by simp [hb])] at e2;rw [if_neg (by simp),yb8 (by omega),yOb,y2d (by rw [List.length_take];omega),yOb];cases hc:hasB (l.take i) l[i]
  ·rw [if_neg (by simp [hc])] at e2;exact .inl ⟨_,by rw [if_neg (by simp),nxt (by omega)],rfl,by rw [e2,List.take_succ_eq_append_getElem hi]⟩
  ·rw [if_pos hc] at e2;refine .inr ⟨_,by rw [if_pos rfl],?_⟩;exact e2.symm) (fun s ⟨e1,e2⟩=>by
  subst e1;rw [List.drop_length,priE] at e2;refine⟨_,by rw [y2C,if_neg ct_ge],?_⟩;exact e2.symm) (Nat.zero_le _) 0 ⟨rfl,rfl⟩
 rw [y3n,g1,yOb,←g2];cases o <;> rfl
theorem yhK(h1:q.1.1.length≤1000000)(h2:q.2.2.length≤1000000){l:List Int}(hl:l.length≤1000000):iter (yG l q) (0,0)=some (priE q.1.1 q.2.2 [] l):=by
 obtain⟨o,g1,g2⟩:=yd (f:=yG l q) (fun i s=>s.1=(i:Int)∧((s.2=0∧priE q.1.1 q.2.2 [] l=priE q.1.1 q.2.2 (l.take i) (l.drop i))∨(s.2≠0∧priE q.1.1 q.2.2 [] l=s.2))) (fun o=>o=priE q.1.1 q.2.2 [] l) l.length 0 (by omega) (fun i s hi ⟨e1,e2⟩=>by
  obtain⟨j,v⟩:=s;dsimp only at e1 e2;subst e1;rw [yG];dsimp only;rcases e2 with ⟨rfl,e2⟩|⟨h0,e2⟩
  case inr=>exact .inr ⟨_,by rw [if_neg (by simp [h0])],e2.symm⟩
  have stop:∀c:Int,c≠0→priE q.1.1 q.2.2 [] l=c→∃s',yk ((i:Int),0) c=some (.inl s')∧s'.1=((i+1:Nat):Int)∧((s'.2=0∧priE q.1.1 q.2.2 [] l=priE q.1.1 q.2.2 (l.take (i+1)) (l.drop (i+1)))∨(s'.2≠0∧priE q.1.1 q.2.2 [] l=s'.2)):=fun c hc he=>⟨(((i+1:Nat):Int),c),by rw [yk,nxt (by omega)],rfl,.inr ⟨hc,he⟩⟩;rw [List.drop_eq_getElem_cons hi,priE] at e2;left;rw [if_pos (by simp;omega),ya hi,yOb,has55 h1,yOb];cases ha:hasB q.1.1 l[i]
  ·rw [if_pos ha] at e2;rw [if_pos (by rfl)];exact stop 9 (by omega) e2
  rw [if_neg (by simp [ha])] at e2;rw [if_neg (by simp),yOb,has55 h2,yOb];cases hb:hasB q.2.2 l[i]
  case true=>
   rw [if_pos hb] at e2;rw [if_pos rfl];exact stop 13 (by omega) e2
  rw [if_neg (by simp [hb])] at e2;rw [if_neg (by simp),yb8 (by omega),yOb,yOb,has55 (by rw [List.length_take];omega),yOb];cases hc:hasB (l.take i) l[i]
  ·rw [if_neg (by simp [hc])] at e2;rw [if_neg (by simp),yk,nxt (by omega)];exact⟨_,rfl,rfl,.inl ⟨rfl,by rw [e2,List.take_succ_eq_append_getElem hi]⟩⟩
  ·rw [if_pos hc] at e2;rw [if_pos rfl];exact stop 8 (by omega) e2) (fun s ⟨e1,e2⟩=>by
  obtain⟨j,v⟩:=s;dsimp only at e1 e2;subst e1;refine⟨v,by rw [yG];dsimp only;rw [if_neg (by simp)],?_⟩;rcases e2 with ⟨rfl,e2⟩|⟨_,e2⟩
  ·rw [List.drop_length,priE] at e2;exact e2.symm
  ·exact e2.symm) (Nat.zero_le _) (0,0) ⟨rfl,.inl ⟨rfl,rfl⟩⟩
 rw [g1,g2]
theorem yev{al u:List Int}:∀{l d:List Int},priE al u d l=0→∀e∈l,e∉u
 | e::l,d,h,x,hx=>by
  rw [priE] at h;split at h
  ·omega
  split at h
  ·omega
  rename_i h2;split at h
  ·omega
  rcases List.mem_cons.1 hx with rfl|hx
  ·exact fun hm=>h2 (yb.2 hm)
  ·exact yev h x hx
end
def vE(q:PbT)(e:Int)(l:List CycT):Int:=if e≠0 then e else if 256<l.length then 3 else scE q l
theorem vE_ok{q:PbT}{e:Int}{l:List CycT}(h:vE q e l=0):e=0∧l.length≤256∧∀c∈l,CycIn q c:=by
 rw [vE] at h;split at h
 ·omega
 split at h
 ·omega
 ·exact ⟨by omega,by omega,ygJ.1 h⟩
section
variable{q:PbT}{n1 n2:Nat}{e:Int}
theorem Run_v(hu:q.2.2.length≤1000000)(hP:Right q.1 n1)(he:yF q=some e)(hs:e=0→SimOk q n1 n2){l:List CycT}(hl:l.length≤1000)(hc:∀c∈l,c.1.length≤1000000∧c.2.1.length≤1000000):
  y4U q l=some (if vE q e l≠0 then([],vE q e l) else(y3E q (fun c=>chP q [c.2.2]) (0,0,false) l,0)):=by
 rw [y4U,y8Y hP.l1 hu (by omega) hc he,yOb];have hv:(if e≠0 then e else if 256<l.length then 3 else scE q l)=vE q e l:=rfl;rw [hv];by_cases h1:vE q e l=0
 case neg=>rw [if_pos (by simpa using h1),if_pos h1]
 obtain⟨h0,_,hin⟩:=vE_ok h1;have hk:=hs h0;rw [if_neg (by simpa using h1),if_neg (show ¬vE q e l≠0 from fun h=>h h1),ygG hk (by omega) (fun c hc=>(hin c hc).ok) (pr:=fun c=> [c.2.2]) fun c hc=>yit hk ((hin c hc).cm.imp id fun g=>g.2)];rfl
theorem Aut_v(hu:q.2.2.length≤1000000)(hP:Right q.1 n1)(he:yF q=some e)(hs:e=0→SimOk q n1 n2){l:List CycT}(hl:l.length≤1000)(hc:∀c∈l,c.1.length≤1000000∧c.2.1.length≤1000000){pr:List Int}(hpl:pr.length≤1000000):
  y4H q pr l=some (if vE q e l≠0 then([],vE q e l) else if priE q.1.1 q.2.2 [] pr≠0 then([],priE q.1.1 q.2.2 [] pr) else(y3E q (fun _=>chP q pr) (0,0,false) l,0)):=by
 rw [y4H,y8Y hP.l1 hu (by omega) hc he,yOb];have hv:(if e≠0 then e else if 256<l.length then 3 else scE q l)=vE q e l:=rfl;rw [hv];by_cases h1:vE q e l=0
 case neg=>rw [if_pos (by simpa using h1),if_pos h1]
 obtain⟨h0,_,hin⟩:=vE_ok h1;have hk:=hs h0;rw [if_neg (by simpa using h1),if_neg (show ¬vE q e l≠0 from fun h=>h h1),ygN hP.l1 hu hpl,yOb];by_cases h2:priE q.1.1 q.2.2 [] pr=0
 case neg=>rw [if_pos (by simpa using h2),if_pos h2]
 rw [if_neg (by simpa using h2),if_neg (show ¬priE q.1.1 q.2.2 [] pr≠0 from fun h=>h h2),ygG hk (by omega) (fun c hc=>(hin c hc).ok) (pr:=fun _=>pr) fun c _=>yiu hk hpl (yev h2) c];rfl
end
theorem few55(l:List CycT):∃b,y5G l=some b∧(b=true→l.length≤258∧∀c∈l,c.1.length≤5∧c.2.1.length≤5):=by
 rw [y5G];split
 ·exact ⟨false,rfl,fun h=>by cases h⟩
 ·rename_i hn;have hl:l.length≤258:=by
   by_cases h:l.length≤258
   ·exact h
   ·exact absurd (by simp;omega) hn
  obtain⟨o,h1,h2⟩:=yd (f:=y4G l) (fun i s=>s=(i:Int)∧∀c∈l.take i,c.1.length≤5∧c.2.1.length≤5) (fun o=>o= .inr ()∨(o= .inl ()∧∀c∈l,c.1.length≤5∧c.2.1.length≤5)) l.length 0 (by omega) (fun i s hi ⟨e1,e2⟩=>by
   subst e1;rw [y4G,if_pos (ct_lt hi),ya hi,yOb];by_cases k1:l[i].1.length≤5
   case neg=>exact .inr ⟨_,by rw [if_pos (by simp;omega),yOb,if_pos rfl],.inl rfl⟩
   rw [if_neg (by simp;omega),yOb,yOb];by_cases k2:l[i].2.1.length≤5
   case neg=>exact .inr ⟨_,by rw [if_pos (by simp;omega)],.inl rfl⟩
   refine .inl ⟨_,by rw [if_neg (by simp;omega),nxt (by omega)],rfl,fun c hc=>?_⟩;rw [List.take_succ_eq_append_getElem hi] at hc;rcases List.mem_append.1 hc with hc|hc
   ·exact e2 c hc
   ·rw [List.mem_singleton.1 hc];exact⟨k1,k2⟩) (fun s ⟨e1,e2⟩=>by
   subst e1;rw [List.take_length] at e2;exact⟨_,by rw [y4G,if_neg ct_ge],.inr ⟨rfl,e2⟩⟩) (Nat.zero_le _) 0 ⟨rfl,fun c hc=>by simp at hc⟩
  rw [h1,yOb];rcases h2 with rfl|⟨rfl,g⟩
  ·exact ⟨false,rfl,fun h=>by cases h⟩
  ·exact ⟨true,rfl,fun _=>⟨hl,g⟩⟩
theorem yfM{x:Des26×Bool}(hd:Des26In x.1)(l:List CycT)(pr:List Int):y3h x l pr=some true:=by
 obtain⟨b,f1,f2⟩:=few55 l;rw [y3h,yiq,yOb,if_neg (by simp),f1,yOb,yOb];cases b with
 | false=>rw [if_pos (by rfl)];rfl
 | true=>
 obtain⟨hl,hc⟩:=f2 rfl;by_cases h6:pr.length≤6
 case neg=>rw [if_pos (by simp;omega)];rfl
 obtain⟨q,n1,n2,e,h1,hP,_,_,_,h2,h3,hs⟩:=yiw hd;have hul:=Alp.len ⟨hP.iu,hP.ur⟩;have hc6:∀c∈l,c.1.length≤1000000∧c.2.1.length≤1000000:=fun c h=>by have:=hc c h;omega
 rw [if_neg (by simp;omega),h1,yOb,h3,yOb,h2,yOb,if_neg (by simp)];have hj:yH l pr q (vE q e l)=some true:=by
  rw [yH,Run_v (by omega) hP.rP h2 hs (by omega) hc6,yOb,Aut_v (by omega) hP.rP h2 hs (by omega) hc6 (by omega),yOb,y8Y hP.rP.l1 (by omega) (by omega) hc6 h2,yOb];have hv:(if e≠0 then e else if 256<l.length then 3 else scE q l)=vE q e l:=rfl;rw [hv,if_neg (by simp)];by_cases h0:vE q e l=0
  case neg=>
   rw [if_pos h0,if_pos h0,if_pos (by simpa using h0)];simp
  obtain⟨he,hl2,hin⟩:=vE_ok h0;have hk:=hs he;rw [if_neg (show ¬vE q e l≠0 from fun h=>h h0),if_neg (show ¬vE q e l≠0 from fun h=>h h0),if_neg (by simpa using h0),yet hP.rP hP.rS (by omega) (by omega) hc6 (by simp) false,yOb];have same:∀{p:CycT→List Int},y1u (y3E q (fun c=>chP q (p c)) (0,0,false) l) (y3E q (fun c=>chP q (p c)) (0,0,false) l)=some true:=fun {p}=>by
   have hf:=ygM hk (pr:=p) (r:=(0,0,false)) (l:=l) (fun c h=>by have:=hc c h;omega);exact ygC (by rw [y9I];omega) fun s hs=>by have:=hf s hs;omega
  have es:y1u (y3E q (fun c=>chP q [c.2.2]) (0,0,false) l) (y3E q (fun c=>chP q (if false=true then([]:List Int) else [c.2.2])) (0,0,false) l)=some true:=same (p:=fun c=> [c.2.2]);rw [es,yOb,if_neg (by simp),h0,yhK hP.rP.l1 (by omega) (by omega),yOb];by_cases h5:priE q.1.1 q.2.2 [] pr=0
  case neg=>
   rw [if_pos (by simpa using h5),if_pos h5];simp
  rw [if_neg (by simpa using h5),if_neg (show ¬priE q.1.1 q.2.2 [] pr≠0 from fun h=>h h5),yet hP.rP hP.rS (by omega) (by omega) hc6 (by omega) true,yOb];have es2:y1u (y3E q (fun _=>chP q pr) (0,0,false) l) (y3E q (fun c=>chP q (if true=true then pr else [c.2.2])) (0,0,false) l)=some true:=same (p:=fun _=>pr);rw [es2,yOb];rfl
 by_cases h0:e=0
 ·subst h0;rw [if_pos (by rfl),yfL hP.rP.l1 (by omega) (by omega) hc6,yOb];exact hj
 ·rw [if_neg (by simpa using h0)];have:vE q e l=e:=by rw [vE,if_pos h0]
  rw [this] at hj;exact hj
end Go.Proofs.YtecmobjeeonmaaaGreatDoor
namespace Go.Proofs.YtecmobjeeonmaaaGreatDoor
open Go Go.RowKit Go.ChangeShapes Go.WideShapes Go.Deep
def Op(P:Program){α:Type}(r:Rep α)(Q:α→Prop)(t:TypeId):Prop:=
 ∀(H:Type) (enc:TypeId×Value→H) (w:World) (fuel:Nat) (cs:List Value) (x:DataW H×List MemPlace),DataW.trod enc P w 0 (fun _=>true) true fuel t cs=some x→∃y:α,r.rd ⟨w,fun _=>0⟩ cs y∧Q y
section
variable{P:Program}{α β:Type}{r:Rep α}{q:Rep β}{Q:α→Prop}{R:β→Prop}{t e:TypeId}
theorem Op.int{k:IntKind}(ht:P.underlying t=some (.int k)):Op P (rK k) (fun n=>k.min≤n∧n≤k.max) t:=by
 intro H enc w fuel cs x h;obtain⟨n,h1,h2,h3⟩:=DataW.trod_int ht h;refine⟨n,h1,?_⟩;simpa [Lit.wf] using h3
theorem Op.bool(ht:P.underlying t=some .bool):Op P rB (fun _=>True) t:=by
 intro H enc w fuel cs x h;obtain⟨b,h1,h2⟩:=DataW.trod_bool ht h;exact⟨b,h1,trivial⟩
theorem ydK{H:Type}{enc:TypeId×Value→H}{w:World}{fuel:Nat}{vs:List Value}{x:DataW H×List MemPlace}(ht:P.underlying t=some (.slice e))(hc:P.cellsOf e=r.sz)(ho:Op P r Q e)(hz:0<r.sz)
  (h:DataW.trod enc P w 0 (fun _=>true) true fuel t vs=some x):∃(a:Option Addr) (c:Nat) (xs:List α),vs= [.slice a xs.length c]∧RdL r ⟨w,fun _=>0⟩ a c xs∧∀y∈xs,Q y:=by
 rcases open_slice ht h with ⟨h1,-⟩|⟨a,len,cap,m,n,D,Pl,h1,-,h3,h4,h5,-,h7⟩
 ·exact ⟨none,0,[],h1,⟨[],⟨by simp,by simp,by simp,fun _=>rfl,fun ad e=>(by cases e),fun ad e=>(by cases e)⟩,fun ad e=>(by cases e),rfl⟩,fun y hy=>(by cases hy)⟩
 ·subst h1;rw [if_pos rfl] at h5;subst h5;by_cases hlen:len=0
  ·subst hlen;exact⟨some a,m,[],rfl,⟨[],⟨by simp,Nat.zero_le _,h4,fun e=>(by cases e),fun ad e h0=>(by simp at h0),fun ad e j hj=>(by simp at hj)⟩,fun ad e h0=>(by simp at h0),rfl⟩,fun y hy=>(by cases hy)⟩
  have hsp:a.spot=none:=by
   obtain⟨cs',k1,_⟩:=h7 0 (by omega);obtain⟨-,k5,k6⟩:=World.cells?_some k1;have:=k6 0 (by rw [hc];exact hz);rw [Nat.zero_mul,yGe (show 0<cs'.length by rw [k5,hc];exact hz)] at this;have:=World.cell?_spot this;simpa [Addr.add] using this
  have hadd:∀k,a.add k=⟨a.block,a.off+k,none⟩:=fun k=>by
   obtain⟨b,o,sp⟩:=a;dsimp only at hsp;subst hsp;unfold Addr.add;split
   ·rename_i hk;subst hk;rfl
   ·rfl
  have key:∀k,k≤len→∃(xs:List α) (cs:List Value),xs.length=k∧Cells r ⟨w,fun _=>0⟩ cs xs∧(∀y∈xs,Q y)∧∀j (hj:j<cs.length),w.cell? ⟨a.block,a.off+j,none⟩=some cs[j]:=by
   intro k
   induction k with
   | zero=>intro _;exact⟨[],[],rfl,rfl,fun y hy=>(by cases hy),fun j hj=>absurd hj (Nat.not_lt_zero _)⟩
   | succ k ih=>
    intro hk;obtain⟨xs,cs,g1,g2,g3,g4⟩:=ih (by omega);obtain⟨cs',k1,k2⟩:=h7 k (by omega);obtain⟨y,k3,k4⟩:=ho H enc w n cs' _ k2;obtain⟨-,k5,k6⟩:=World.cells?_some k1;have hl:=g2.len;rw [g1] at hl;rw [hc] at k5 k6;refine⟨xs++[y],cs++cs',by simp [g1],g2.append ⟨cs',[],by simp,k3,rfl⟩,fun z hz=>?_,fun j hj=>?_⟩
    ·rcases List.mem_append.1 hz with hz|hz
     ·exact g3 z hz
     ·rw [List.mem_singleton.1 hz];exact k4
    ·by_cases hlt:j<cs.length
     ·rw [List.getElem_append_left hlt];exact g4 j hlt
     ·have hj2:j-cs.length<cs'.length:=by rw [List.length_append] at hj;omega
      rw [List.getElem_append_right (by omega)];have:=k6 (j-cs.length) (by omega);rw [add_add,hadd,yGe hj2] at this;rw [←this];congr 2;omega
  obtain⟨xs,cs,g1,g2,g3,g4⟩:=key len (Nat.le_refl _);subst g1;refine⟨some a,m,xs,rfl,⟨cs,⟨g2.len,h3,h4,fun e=>(by cases e),fun ad e _=>(by cases e;exact hsp),fun ad e j hj=>(by cases e;exact g4 j hj)⟩,fun _ _ _=>rfl,g2⟩,g3⟩
theorem yew{H:Type}{enc:TypeId×Value→H}{w:World}{base fuel:Nat}{v:Value}{x:DataW H×List MemPlace}(ht:P.underlying t=some (.slice e))(hc:P.cellsOf e=r.sz)(ho:Op P r Q e)(_hok:Cell.okWide P w .any base t v)
  (h:DataW.trod enc P w 0 (fun _=>true) true fuel t [v]=some x) (hz:0<r.sz:=by decide):∃(a:Option Addr) (c:Nat) (xs:List α),v= .slice a xs.length c∧RdL r ⟨w,fun _=>0⟩ a c xs∧∀y∈xs,Q y:=by
 obtain⟨a,c,xs,h1,h2⟩:=ydK ht hc ho hz h;rw [List.cons.injEq] at h1;exact⟨a,c,xs,h1.1,h2⟩
theorem Op.list(ht:P.underlying t=some (.slice e))(hc:P.cellsOf e=r.sz)(ho:Op P r Q e)(hz:0<r.sz):Op P (rL r) (fun xs=>∀y∈xs,Q y) t:=by
 intro H enc w fuel cs x h;obtain⟨a,c,xs,h1,h2,h3⟩:=ydK ht hc ho hz h;exact⟨xs,⟨a,c,h1,h2⟩,h3⟩
theorem yiN{w:World}{base:Nat}{v:Value}{fs:Array Field}{ts:List TypeId}(ht:P.underlying t=some (.struct fs))(hts:P.cellTypes P.depth t=some ts)(hsz:P.cellsOf t=ts.length)(hok:Value.okWide P w .any base t v):
  ∃cs,v= .agg cs∧cs.size=ts.length∧∀(i:Nat) (u:TypeId),ts[i]? =some u→∃c:Value,cs[i]? =some c∧Cell.okWide P w .any base u c:=by
 simp only [Value.okWide,ht] at hok;obtain⟨cs,rfl,h1,ts',h2,h3,h4⟩:=hok;rw [hts] at h2;cases h2;refine⟨cs,rfl,by omega,fun i u hu=>?_⟩;have hlt:i<ts.length:=(List.getElem?_eq_some_iff.1 hu).1;obtain⟨u',g1,g2⟩:=h4 i cs[i] (Array.getElem?_eq_getElem (by omega));rw [Nat.mod_eq_of_lt hlt,hu] at g1;cases g1;exact⟨_,Array.getElem?_eq_getElem (by omega),g2⟩
theorem ycu{H:Type}{enc:TypeId×Value→H}{w:World}{fuel:Nat}{cs:List Value}{x:DataW H×List MemPlace}{fs:Array Field}(ht:P.underlying t=some (.struct fs))(h:DataW.trod enc P w 0 (fun _=>true) true fuel t cs=some x){i:Nat}{f:Field}(hf:fs[i]? =some f):
  ∃n y,DataW.trod enc P w 0 (fun _=>true) true n f.type ((cs.drop f.offset).take (P.cellsOf f.type))=some y:=by
 obtain⟨xs,n,_,_,_,h5,h6⟩:=DataW.trod_struct ht h;have hlt:=(Array.getElem?_eq_some_iff.1 hf).1;exact⟨n,xs[i]'(by omega),by rw [h6 i f hf,yGe (by omega)]⟩
theorem Op.struct3{γ:Type}{u:Rep γ}{U:γ→Prop}{f0 f1 f2:Field}(ht:P.underlying t=some (.struct #[f0,f1,f2]))(h0:Op P r Q f0.type)(h1:Op P q R f1.type)(h2:Op P u U f2.type)(o0:f0.offset=0)(o1:f1.offset=r.sz)(o2:f2.offset=r.sz+q.sz)
  (c0:P.cellsOf f0.type=r.sz) (c1:P.cellsOf f1.type=q.sz) (c2:P.cellsOf f2.type=u.sz) (c:P.cellsOf t=r.sz+q.sz+u.sz):Op P (rP r (rP q u)) (fun y=>Q y.1∧R y.2.1∧U y.2.2) t:=by
 intro H enc w fuel cs x h;obtain⟨xs,n,_,_,hl,h5,h6⟩:=DataW.trod_struct ht h;obtain⟨n0,x0,g0⟩:=ycu (i:=0) (f:=f0) ht h rfl;obtain⟨n1,x1,g1⟩:=ycu (i:=1) (f:=f1) ht h rfl;obtain⟨n2,x2,g2⟩:=ycu (i:=2) (f:=f2) ht h rfl;obtain⟨y0,a0,b0⟩:=h0 _ _ _ _ _ _ g0;obtain⟨y1,a1,b1⟩:=h1 _ _ _ _ _ _ g1;obtain⟨y2,a2,b2⟩:=h2 _ _ _ _ _ _ g2;rw [o0,c0] at a0;rw [o1,c1] at a1;rw [o2,c2] at a2;refine⟨(y0,y1,y2),⟨_,_,?_,a0,_,_,rfl,a1,a2⟩,b0,b1,b2⟩;have e2:((cs.drop (r.sz+q.sz)).take u.sz)=cs.drop (r.sz+q.sz):=List.take_of_length_le (by rw [List.length_drop];omega);rw [e2,List.drop_zero,←List.drop_drop,List.take_append_drop,List.take_append_drop]
end
end Go.Proofs.YtecmobjeeonmaaaGreatDoor
namespace Go.Proofs.YtecmobjeeonmaaaGreatDoor
open Go Go.ChangeShapes Go.WideShapes Go.ChangeAt Go.RowKit Go.Deep
theorem yex :Op Tryz.prog (rK .i64) (fun n=> -9223372036854775808≤n∧n<9223372036854775808) 3:=by
 intro H enc w fuel cs x h;obtain⟨y,h1,h2⟩:=(Op.int (P:=Tryz.prog) (k:= .i64) Tryz.underlying3) H enc w fuel cs x h;refine⟨y,h1,?_⟩;simp [IntKind.min,IntKind.max,IntKind.signed,IntKind.bits] at h2;omega
section
variable{H:Type}{enc:TypeId×Value→H}{w:World}{base:Nat}{v:Value}{d:DataW H}{ps:List MemPlace}
/-- A list of ints. -/
theorem yhL(hok:Value.okWide Tryz.prog w .any base 32 v)(h:DataW.Trod enc Tryz.prog w 0 (fun _=>true) true 32 v d ps):∃a c xs,v= .slice a xs.length c∧RdL (rK .i64) ⟨w,fun _=>0⟩ a c xs∧∀y∈xs,-9223372036854775808≤y∧y<9223372036854775808:=by
 obtain⟨fuel,hf⟩:=h;simp only [Value.okWide,Tryz.underlying32] at hok;have hv:v.cells.toList= [v]:=by
  simp only [Cell.okWide,Tryz.underlying32] at hok;cases v <;> simp_all [Cell.ok,Value.cells]
 rw [hv] at hf;exact yew Tryz.underlying32 (by kernel_rfl) yex hok hf
end
theorem Fw.law{P:Program}{f:FuncId}{ts:List TV}(h:Fw P f ⟨0,[]⟩ ts [] (.b true) []){w:World}{vs:List Value}(ha:All3 (fun _=> .bool false) ⟨w,fun _=>0⟩ ts vs):Calls P f vs.toArray w fun e w'=>e= .returned (.bool true)∧Below w.heap.size w w':=
 Calls.mono (h.is [] (fun _=> .bool false) ⟨w,fun _=>0⟩ vs rfl (Nat.le_refl _) List.nodup_nil (fun t ht=>by cases ht) ha (fun i o h=>by simp at h)) fun e W' ⟨v,s',hw,he,hm,β',_,hv,_⟩=>by
  obtain⟨hv,_⟩:=hv;subst hw;subst hv;exact⟨he,(hm.weak (S':=No) fun t ⟨i,hi,_⟩=>by cases hi).below⟩
theorem All3.c{β:Nat→Value}{s:Sig}{x:TV}{xs:List TV}{v:Value}{us:List Value}(h:x.p β s v)(h2:All3 β s xs us):All3 β s (x::xs) (v::us):=⟨v,us,h,h2,rfl⟩
theorem yfN{α:Type}[Inhabited α]{n:Nat}{p:Nat→α→Prop}(h:∀i,i<n→∃x,p i x):∃f:Nat→α,∀i,i<n→p i (f i):=
 ⟨fun i=>if hi:i<n then Classical.choose (h i hi) else default,fun i hi=>by
  dsimp only;rw [dif_pos hi];exact Classical.choose_spec (h i hi)⟩
abbrev yiO :=(Int×y1I)×(Int×y1I)×Int
def pbT :List TypeId:=[22]++List.replicate 27 5++[22]++List.replicate 27 5++[22]
theorem Tryz.own :ownKnob Tryz.prog.godebug=none:=by kernel_rfl
theorem Tryz.laidOut :laidOutB Tryz.prog=true:=by kernel_rfl
section
variable{H:Type}{enc:TypeId×Value→H}
def yey(P:Program)(ts:List TypeId):Bool:=ts.all fun t=>P.readableRec t&&decide (t<P.types.size)
theorem ybf{P:Program}(hl:laidOutB P=true){W W':World}(hb:Below W.heap.size W W'){sp:Nat→Bool}:∀{ts:List TypeId} {vs:List Value} {ds:List (DataW H)} {ps:List MemPlace},yey P ts=true→
  DataW.TrodAll enc P W 0 (fun _=>true) true ts vs ds ps→(∀x∈ps,x.block<W.heap.size)→(∀x∈ps,sp x.block=true)→DataW.TrodAll enc P W' 0 sp true ts vs ds ps
 | [],[],[],_,_,h,_,_=>h
 | [],_::_,_,_,_,h,_,_=>h.elim
 | [],[],_::_,_,_,h,_,_=>h.elim
 | t::ts,[],_,_,_,h,_,_=>h.elim
 | t::ts,_::_,[],_,_,h,_,_=>h.elim
 | t::ts,v::vs,d::ds,ps,hc,⟨p,q,h1,h2,e⟩,hlt,hsp=>by
  subst e;unfold yey at hc;rw [List.all_cons,Bool.and_eq_true,Bool.and_eq_true] at hc;exact⟨p,q,WideElems.Trod_stays hl hc.1.1 (of_decide_eq_true hc.1.2) h1 (fun x hx=>hb.same (hlt x (List.mem_append_left _ hx))) (fun x hx=>hsp x (List.mem_append_left _ hx)),
   ybf hl hb hc.2 h2 (fun x hx=>hlt x (List.mem_append_right _ hx)) (fun x hx=>hsp x (List.mem_append_right _ hx)),rfl⟩
theorem yhM{P:Program}(hl:laidOutB P=true){f:Func}{s:ChangeSpec}{apart fresh handsOn again:Bool}{W W':World}{args:Array Value}{ds:List (DataW H)}{before:List MemPlace}{tb:TypeId}{b:Bool}
  (hW:DataW.Whole enc P f.params.toList s.vars apart W args.toList ds [] before) (hv:s.vars= []) (hc:yey P f.params.toList=true) (hrt:f.resultTypes= #[tb]) (ht:P.underlying tb=some .bool)
  (hr:(s.fn H (ds++[])).results= [.lit (.bool b)]) (ha:(s.fn H (ds++[])).args=ds) (hvn:(s.fn H (ds++[])).vars= []) (hb:Below W.heap.size W W'):
  s.post enc P f apart fresh handsOn again W args (.bool b) W':=by
 have hlt:∀p∈before,p.block<W.heap.size:=fun p hp=>hW.lt p hp;have hWc:=hW;obtain⟨p,q,hA,hV,rfl,hz,hn⟩:=hWc;rw [hv] at hV;obtain⟨-,rfl⟩:=trodVars_none hV;rw [List.append_nil] at hlt hz hn;have hargs:∀sp:Nat→Bool,(∀x∈p,sp x.block=true)→DataW.TrodAll enc P W' 0 sp true f.params.toList args.toList (s.fn H (ds++[])).args p:=fun sp hsp=>by
  rw [ha];exact ybf hl hb hc hA hlt hsp
 have hres:∀(b0:Nat) (sp:Nat→Bool) (hd:Bool),DataW.TrodAll enc P W' b0 sp hd f.resultTypes.toList ((Value.bool b).resultList f.resultTypes.size) (s.fn H (ds++[])).results []:=fun _ _ _=>by
  rw [hr,hrt];exact trodAll_mk1 (shut_bool ht b)
 have hvars:∀sp:Nat→Bool,DataW.TrodVars enc P W' sp s.vars (s.fn H (ds++[])).vars []:=fun sp=>by rw [hv,hvn];rfl
 have hold:∀x∈p,(fun b=>decide (b<W.heap.size)) x.block=true:=fun x hx=>by simpa using hlt x hx
 refine⟨ds,[],p++[],[],p,[],hW,hres _ _ _,hargs _ hold,hvars _,World.keptBut_mono (fun x hx=>?_) (hb.frame (· ∈p)),fun _=>?_⟩
 ·exact ⟨by rwa [List.append_nil],Or.inr (.inl hx)⟩
 ·have hok:=ok_one (f:=f) (W':=W') (by rw [hrt]) rfl (okWide_bool_mk (W':=W') ht b);refine⟨hok,_,_,([]++p)++[],⟨[]++p,[],trodAll_append (hargs _ (fun _ _=>rfl)) (hres _ _ _),hvars _,rfl,?_,?_⟩,?_⟩
  ·intro b0 off hp;have hin:MemPlace.cell b0 off∈p:=by simpa using hp
   rw [hb.frozen (hlt _ hin)];exact hz b0 off hin
  ·intro hap;simpa using hn hap
  ·intro x hx _;simpa using hx
end
def lay24 : List (String × DataW Unit) := [("math/bits.deBruijn32tab", Rows.laid_math_bits_deBruijn32tab), ("math/bits.deBruijn64tab", Rows.laid_math_bits_deBruijn64tab), ("internal/strconv.uint64pow10", Rows.laid_internal_strconv_uint64pow10)]
theorem ygO(os:Os)(args:Array Value):laidMetH Tryz.prog lay24 ((World.laidAll Tryz.prog os lay24).forCall (fun _ _=>0) ⟨#[],args,[]⟩).memory:=
 laidMetH_of_parts3 (fuel:=8) (laidMet_laidAll args (by kernel_rfl) (by kernel_rfl)) (by kernel_rfl) (by kernel_rfl)
theorem yhN :Tryz.prog.cellTypes Tryz.prog.depth 84=some (pbT++[4]):=by kernel_rfl
theorem yhO :Tryz.prog.cellsOf 84=(pbT++[4]).length:=by kernel_rfl
section
variable{H:Type}{enc:TypeId×Value→H}{w:World}{base:Nat}{v:Value}{d:DataW H}{ps:List MemPlace}
theorem yhP(hok:Value.okWide Tryz.prog w .any base 84 v):∃x:yiO×Bool,GrIn x.1.1.2∧GrIn x.1.2.1.2∧∀β s,(TV.a (lx84 x)).p β s v:=by
 obtain⟨cs,rfl,h1,h2⟩:=yiN Tryz.underlying84 yhN yhO hok;have h1':cs.size=58:=h1;obtain⟨f,hf⟩:=yfN (α:=Int) (n:=57) (p:=fun i n=>cs[i]? =some (.int .u8 n)∧0≤n∧n<256) (fun i hi=>by
  obtain⟨u,hu,hu2⟩:∃u,pbT[i]? =some u∧(u=22∨u=5):=by
   refine⟨pbT[i]'hi,yGe (l:=pbT) hi,?_⟩;have:=List.getElem_mem (l:=pbT) hi;generalize pbT[i]'hi=u at this;simp only [pbT,List.mem_append,List.mem_singleton,List.mem_replicate] at this;rcases this with (((h|h)|h)|h)|h
   ·exact .inl h
   ·exact .inr h.2
   ·exact .inl h
   ·exact .inr h.2
   ·exact .inl h
  obtain⟨c,g1,g2⟩:=h2 i u (by rw [List.getElem?_append_left hi];exact hu);have g2':Cell.okWide Tryz.prog w .any base 5 c:=by
   rcases hu2 with rfl|rfl
   ·simp only [Cell.okWide,Cell.ok,Tryz.underlying22,Tryz.underlying5] at g2 ⊢;exact g2
   ·exact g2
  obtain⟨n,rfl,g3⟩:∃n:Int,c= .int .u8 n∧0≤n∧n<256:=by
   simp only [Cell.okWide,Tryz.underlying5] at g2';cases c <;> simp_all [Cell.ok];rename_i k n;obtain⟨rfl,h2⟩:=g2';simp [IntKind.has,IntKind.min,IntKind.max,IntKind.signed,IntKind.bits] at h2;omega
  exact⟨n,g1,g3⟩)
 obtain⟨b,hb⟩:∃b,cs[57]? =some (.bool b):=by
  obtain⟨c,g1,g2⟩:=h2 57 4 rfl;simp only [Cell.okWide,Tryz.underlying4] at g2;cases c <;> simp_all [Cell.ok]
 have hcs:cs=((List.range 57).map (fun i=>Value.int .u8 (f i))++[Value.bool b]).toArray:=by
  apply Array.ext_getElem?;intro i;by_cases hi:i<57
  ·rw [(hf i hi).1,List.getElem?_toArray,List.getElem?_append_left (by simpa using hi)];simp [hi]
  ·by_cases hi2:i=57
   ·subst hi2;rw [hb];rfl
   ·rw [Array.getElem?_eq_none (by omega),Array.getElem?_eq_none (by simp;omega)]
 have gr:∀o,o+27≤57→GrIn (f o,f (o+1),((f (o+2),f (o+3),f (o+4),f (o+5),f (o+6)),(f (o+7),f (o+8),f (o+9),f (o+10),f (o+11)),(f (o+12),f (o+13),f (o+14),f (o+15),f (o+16)),(f (o+17),f (o+18),f (o+19),f (o+20),f (o+21)),(f (o+22),f (o+23),f (o+24),f (o+25),f (o+26)))):=fun o ho=>by
  refine⟨(hf o (by omega)).2,fun y hy=>?_⟩;have hy2:y∈(List.range 25).map fun i=>f (o+(i+2)):=hy;obtain⟨i,hi,rfl⟩:=List.mem_map.1 hy2;have:=List.mem_range.1 hi;exact(hf (o+(i+2)) (by omega)).2
 refine⟨(((f 0,f 1,f 2,((f 3,f 4,f 5,f 6,f 7),(f 8,f 9,f 10,f 11,f 12),(f 13,f 14,f 15,f 16,f 17),(f 18,f 19,f 20,f 21,f 22),(f 23,f 24,f 25,f 26,f 27))),(f 28,f 29,f 30,((f 31,f 32,f 33,f 34,f 35),(f 36,f 37,f 38,f 39,f 40),(f 41,f 42,f 43,f 44,f 45),(f 46,f 47,f 48,f 49,f 50),(f 51,f 52,f 53,f 54,f 55))),f 56),b),gr 1 (by omega),gr 29 (by omega),fun β s=>?_⟩;refine⟨(List.range 57).map (fun i=>Value.int .u8 (f i))++[Value.bool b],?_,by rw [hcs]⟩;exact yaq (cs:=(List.range 57).map (fun i=>Value.int .u8 (f i))++[Value.bool b]) (List.all_eq_true.2 fun x hx=>by
  rcases List.mem_append.1 hx with hx|hx
  ·obtain ⟨i,_,rfl⟩:=List.mem_map.1 hx;rfl
  ·rw [List.mem_singleton.1 hx];rfl)
end
section
variable{H:Type}{enc:TypeId×Value→H}{w:World}{base:Nat}{v:Value}{d:DataW H}{ps:List MemPlace}
/-- A script. -/
theorem yfO(hok:Value.okWide Tryz.prog w .any base 94 v)(h:DataW.Trod enc Tryz.prog w 0 (fun _=>true) true 94 v d ps):∃xs:List CycT,∀β,(TV.f (rP (rL qI) (rP (rL qI) qI)) xs).p β ⟨w,fun _=>0⟩ v:=by
 obtain⟨fuel,hf⟩:=h;simp only [Value.okWide,Tryz.underlying94] at hok;have hv:v.cells.toList= [v]:=by
  simp only [Cell.okWide,Tryz.underlying94] at hok;cases v <;> simp_all [Cell.ok,Value.cells]
 rw [hv] at hf;have oi:Op Tryz.prog (rL qI) (fun xs=>∀y∈xs,-9223372036854775808≤y∧y<9223372036854775808) 32:=Op.list Tryz.underlying32 (by kernel_rfl) yex (by decide);obtain⟨a,c,xs,rfl,h1,_⟩:=yew Tryz.underlying94 (by kernel_rfl) (Op.struct3 Tryz.underlying114 oi oi yex rfl rfl rfl (by kernel_rfl) (by kernel_rfl) (by kernel_rfl) (by kernel_rfl)) hok hf;exact⟨xs,fun β=>⟨a,c,rfl,h1⟩⟩
end
theorem ya9(os:Os)(started:os.Started)(H:Type)(enc:TypeId×Value→H):
  ReturnsInHanded {} Tryz.checked os 11 .any (fun w args=>(Rows.simulationChecksSpec.pre enc Tryz.prog Tryz.f11 [] false w args∧laidMetH Tryz.prog lay24 w)∧sizedMet enc Tryz.prog Tryz.f11 (OpenSpec.ofChange Rows.simulationChecksSpec) false w args) (Rows.simulationChecksSpec.post enc Tryz.prog Tryz.f11 false true false false):=by
 refine returnsInHanded_of_change_and (C:=Tryz.checked) (X:=fun w _=>laidMetH Tryz.prog lay24 w) (fun _ _ _ hh h=>h.of_heap hh) Tryz.own started (by kernel_rfl) Tryz.func11
  (ChangeSpec.witness_shaped (enc:=enc) (C:=Tryz.checked) (os:=os) (X:=fun w _=>laidMetH Tryz.prog lay24 w) false (World.laidAll Tryz.prog os lay24) #[.agg (Array.replicate 57 (.int .u8 0) ++ #[.bool false]),.slice none 0 0,.slice none 0 0] 8 (World.laidAll_os _ _ _) (World.shaped_of_ZipB (by kernel_rfl) (by kernel_rfl)) (by kernel_rfl) (by kernel_rfl) (by kernel_rfl) (ygO os _)) ?_
 intro W base args ds gs before hval0 hW _ _ _ _;have hval:∀(j:Nat) t v,Tryz.f11.params[j]? =some t→args[j]? =some v→Value.okWide Tryz.prog W .any base t v:=hval0;have hW':=hW;obtain⟨p,q,hA0,hV,rfl,hfz,hnd⟩:=hW;have hA:DataW.TrodAll enc Tryz.prog W 0 (fun _=>true) true Tryz.f11.params.toList args.toList ds p:=hA0;rw [Tryz.params11] at hA hval;obtain⟨v0,v1,v2,d0,d1,d2,p0,p1,p2,rfl,rfl,rfl,h0,h1,h2⟩:=trodAll_three hA;obtain⟨x,g1,g2,r0⟩:=yhP (hval 0 84 v0 rfl rfl);obtain⟨y,r1⟩:=yfO (hval 1 94 v1 rfl rfl) h1;obtain⟨a,c,z,rfl,r2,_⟩:=yhL (hval 2 32 v2 rfl rfl) h2;obtain⟨rfl,rfl⟩:=trodVars_none hV;clear hA0 hval0;refine Calls.mono ((y7L (yfM (x:=x) ⟨g1,g2⟩ y z)).law (All3.c (r0 _ _) (All3.c (r1 _) (All3.c ⟨a,c,rfl,r2⟩ rfl)))) fun e W' ⟨he,hbl⟩=>?_;subst he;exact⟨_,rfl,yhM Tryz.laidOut hW' rfl (by kernel_rfl) (by kernel_rfl) Tryz.underlying4 rfl rfl rfl hbl⟩
end Go.Proofs.YtecmobjeeonmaaaGreatDoor
namespace Go.Proofs.YtecmobjeeonmaaaGreatDoor
open Go Go.RowKit
set_option maxRecDepth 100000
theorem yix :Tryz.prog.stopsHeard=true:=by kernel_rfl
theorem yiy :Tryz.prog.mayEnter=true:=by kernel_rfl
theorem yiz :(laidOutB Tryz.prog&&mapsRowed Tryz.prog)=true:=by kernel_rfl
theorem yiA :(Tryz.prog.stops==[])=true:=by kernel_rfl
theorem yhQ :(Tryz.prog.stopKnobs==[])=true:=by kernel_rfl
theorem yhR :false=Tryz.prog.looks []:=by kernel_rfl
end Go.Proofs.YtecmobjeeonmaaaGreatDoor
namespace Go.Proofs.YtecmobjeeonmaaaGreatDoor
open Go Go.ChangeShapes Go.WideShapes Go.ChangeAt Go.RowKit Go.Deep
theorem ybn :(Rows.simulationChecksRow.inPlace==Tryz.prog.inPlace 11)=true:=by kernel_rfl
theorem ybo :(Rows.simulationChecksRow.unfollowed==Tryz.prog.unfollowed 11)=true:=by kernel_rfl
theorem ybp :(Rows.simulationChecksRow.recurses==Tryz.prog.recurses 11)=true:=by kernel_rfl
theorem ybq :(Rows.simulationChecksRow.named==Tryz.prog.varsNamed 11)=true:=by kernel_rfl
theorem ybr :(Rows.simulationChecksRow.lifted==Tryz.prog.liftsFinal)=true:=by kernel_rfl
theorem yaa :joinedFacts Tryz.prog 11 Tryz.f11 Rows.simulationChecksSpec Rows.simulationChecksRow=true:=by
 have h8:=yiz;rw [Bool.and_eq_true] at h8;unfold joinedFacts;rw [h8.1,h8.2,ybn,ybo,ybp,ybq,ybr,yix,yiy,yiA,yhQ];change (_:Bool)=true;kernel_rfl
theorem yal :Rows.SimulationChecksSaid:=
 OpenClaim.holds_of_wide 11 Tryz.f11 rfl rfl rfl rfl rfl rfl rfl ⟨rfl,rfl,rfl,rfl,rfl⟩ rfl rfl rfl rfl rfl (by kernel_rfl) Tryz.func11 yaa
  (of_decide_eq_true (by kernel_rfl)) (by unfold Func.isWrapper;first | (rw [if_pos (by decide +kernel)];kernel_rfl)|(rw [if_neg (by decide +kernel)];exact⟨rfl,rfl⟩))
  (fun os started H enc _=>ya9 os started H enc)
theorem simulationChecks_k12 :false=Rows.simulationChecksRow.goesBy Tryz.prog:=by kernel_rfl
theorem simulationChecks_k13 : Tryz.prog.funcNamed "overseer/overseerlaw55.SimulationChecks" = some 11 := by kernel_rfl
theorem simulationChecks_k14 :(Tryz.f11.params.toList.all fun u=>!(Tryz.prog.wantsStandIn u))=true:=by kernel_rfl
theorem simulationChecks_k15 :Rows.simulationChecksRow.wfByText (OpenSpec.ofChange Rows.simulationChecksSpec)=true:=by kernel_rfl
theorem simulationChecks_card_holds :Rows.SimulationChecksCardSaid:=
 Claim7.holds_tied_plain_at .later [] [.data,.data,.data] true _ false
  yal (fun _ h=>by cases h) simulationChecks_k15 (fun _ h=>by cases h) simulationChecks_row_tie rfl ⟨rfl,rfl⟩ (by kernel_rfl) rfl
  (fun f fn hf hfn=>by
   obtain rfl:f=11:=Option.some.inj (simulationChecks_k13.symm.trans hf) |>.symm;obtain rfl:fn=Tryz.f11:=(Option.some.inj (Tryz.func11.symm.trans hfn)).symm;exact⟨yhR,fun j t ht=>by
    have hm:t∈Tryz.f11.params:=Array.mem_of_getElem? ht;exact(show Tryz.prog.wantsStandIn t=false by simpa using List.all_eq_true.1 simulationChecks_k14 t (Array.mem_toList_iff.2 hm))⟩)
  simulationChecks_k12
end Go.Proofs.YtecmobjeeonmaaaGreatDoor
