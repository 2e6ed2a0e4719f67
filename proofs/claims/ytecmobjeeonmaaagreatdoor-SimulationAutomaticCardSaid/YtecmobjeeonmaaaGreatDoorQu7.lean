/- SimulationAutomatic returns true for all arguments, and leaves its arguments as they were. The condition: three tables of Go's library (math/bits, internal/strconv) hold what their source text lays, and the card ties this to the text. -/
import Derived.Deep.Slices
import Derived.ChangeSame
import Derived.ProofKit
import Derived.Test.YtecmobjeeonmaaaGreatDoorRows
import Derived.Test.YtecmobjeeonmaaaGreatDoorTie
import Derived.Test.YtecmobjeeonmaaaGreatDoorCards
import Derived.Test.YtecmobjeeonmaaaGreatDoorProg
import Derived.Lay
import Derived.LaidMore
import Derived.LaidHandle
import Derived.SevenTiedAt
import Derived.Stop.Joined
import Derived.Test.YtecmobjeeonmaaaGreatDoorQu6
set_option maxRecDepth 100000
namespace Go.Proofs.YtecmobjeeonmaaaGreatDoor
open Go Go.RowKit
theorem PrgIn.fwd{m c n:Nat}{start:List Bool}{L:List Ins}(h:PrgIn m c n start L):Fwd L:=fun i x hx ho=>by
 have hk:=h.ok i x hx;have:=hk.op;exact(hk.jump (by omega)).1
theorem ye9(x:Ins)(acc:Bool)(b:List Bool):(y6J x acc b).length=b.length:=by
 unfold y6J;split
 ·simp
 ·split
  ·simp
  ·split
   ·simp
   ·split <;> simp
theorem yhW{m c n:Nat}{start:List Bool}{L:List Ins}(h:PrgIn m c n start L){T}(hT:y1d=some T):∀(f i:Nat) (acc:Bool) (xs:List Int) (b:List Bool),L.length≤i+f→xs.length≤i→b.length=m+c+n→
  (yp L i acc b).length=b.length∧∃ys,iterF (y1I (prgP m c n start L) T) (f+1) (b,(i:Int),acc,xs)=some (yp L i acc b,ys):=by
 intro f
 induction f with
 | zero=>
  intro i acc xs b h1 h2 h3;rw [yak (by omega)];refine⟨rfl,xs,?_⟩;rw [yc,y1I];dsimp only;rw [if_neg (by simp [prgP];omega)]
 | succ f ih=>
  intro i acc xs b h1 h2 h3;by_cases hi:i<L.length
  ·have hx:L[i]? =some L[i]:=yGe hi;have hg:=yaj h.fwd hx acc b;have hl:(y4y L[i] i acc b).2.2.length=b.length:=ye9 ..;obtain⟨e1,ys,e2⟩:=ih (y4y L[i] i acc b).1 (y4y L[i] i acc b).2.1 (xs++[(i:Int)]) (y4y L[i] i acc b).2.2 (by omega) (by simp;omega) (by omega);rw [y5r h.fwd hx,yc,yfZ h hT hi h2 h3];exact⟨by omega,ys,e2⟩
  ·rw [yak (by omega)];refine⟨rfl,xs,?_⟩;rw [yc,y1I];dsimp only;rw [if_neg (by simp [prgP];omega)]
theorem yh3 :∃T,y1d=some T:=by
 obtain⟨T,_,h,_⟩:=ydW (op:=1) (by omega) (by omega);exact⟨T,h⟩
theorem yh4{m c n:Nat}{start:List Bool}{L:List Ins}(h:PrgIn m c n start L){b:List Bool}(hb:b.length=m+c+n):(yp L 0 false b).length=b.length∧∃ys,y5y (prgP m c n start L) b=some (ys,yp L 0 false b):=by
 obtain⟨T,hT⟩:=yh3;obtain⟨h1,ys,h2⟩:=yhW h hT L.length 0 false [] b (by omega) (by simp) hb;have h5:=h.len;refine⟨h1,ys,?_⟩;rw [y5y,hT,yOb,show iter (y1I (prgP m c n start L) T) (b,0,false,([]:List Int))=_ from y4L (by omega) h2];rfl
theorem yg0{m c n:Nat}{start:List Bool}{L:List Ins}(h:PrgIn m c n start L){b:List Bool}(hb:b.length=m+c+n):y5j (prgP m c n start L) b=some ((b.drop m).take c,b.drop (m+c)):=by
 have h1:=h.hm;have h2:=h.hc;have h3:=h.hn;rw [y5j];dsimp only [prgP];rw [show (m:Int)+c=((m+c:Nat):Int) by omega,W_nat (by omega),slc3,if_pos ⟨by omega,by omega,by omega,by omega⟩,yOb,slc3,if_pos ⟨by omega,by omega,by omega,by omega⟩,yOb,
  Int.toNat_natCast,Int.toNat_natCast,Int.toNat_natCast,List.drop_take,List.take_of_length_le (Nat.le_refl _),show m+c-m=c by omega]
theorem yh5{m c n:Nat}{start:List Bool}{L:List Ins}(h:PrgIn m c n start L){inp out mem:List Bool}(hi:inp.length=m)(ho:out.length=c)(hm:mem.length=n):
  y4K (prgP m c n start L) (out,mem) inp=some ((((yp L 0 false (inp++out++mem)).drop m).take c,(yp L 0 false (inp++out++mem)).drop (m+c)),0):=by
 have hb:(inp++out++mem).length=m+c+n:=by simp;omega
 obtain⟨h1,ys,h2⟩:=yh4 h hb;rw [y4K,yh2 h hi ho hm,yOb,if_neg (by simp)];dsimp only;rw [h2,yOb];dsimp only;rw [yg0 h (by omega)];rfl
section
variable{a:Aut}{ctrl:List Int}{n:Nat}
theorem yeL(h:GenIn a ctrl n)(ia:Inc a.al)(ic:Inc ctrl):PrgIn a.al.length (ctrl.length+1) (n+1) (true::List.replicate n false) (genP a ctrl):=by
 have h0:=h.n0;have h1:=h.n1;have h2:=h.es;have h3:=h.al;have h4:=h.ct;have h5:=h.hn;have h6:=ygN ia ic (a:=a);exact⟨by omega,by omega,by omega,by simp,by omega,yhO h5 h.ed⟩
theorem yh6(h:GenIn a ctrl n)(ia:Inc a.al)(ic:Inc ctrl){ev:List Int}(ie:Inc ev)(hl:ev.length<4294967296)(he:yB 32 none ev=0)(hs:subB ev a.al=true){out mem:List Bool}(ho:out.length=ctrl.length+1)(hm:mem.length=n+1):
  y5E (codeP a ctrl n) (out,mem) ev=some ((((yp (genP a ctrl) 0 false (a.al.map (hasB ev)++out++mem)).drop a.al.length).take (ctrl.length+1),(yp (genP a ctrl) 0 false (a.al.map (hasB ev)++out++mem)).drop (a.al.length+(ctrl.length+1))),0):=by
 have h3:=h.al;rw [y5E,codeP,yfX (by omega) hl ia ie he hs,yOb,if_neg (by simp)];show(y4K (prgP a.al.length (ctrl.length+1) (n+1) (true::List.replicate n false) (genP a ctrl)) (out,mem) (a.al.map (hasB ev))).bind (fun r=>some r)=_;rw [yh5 (yeL h ia ic) (by simp) ho hm];rfl
theorem ycI{out mem:List Bool}(ho:out.length=ctrl.length+1)(hm:mem.length=n+1):y4X (codeP a ctrl n) (out,mem)=some 0:=by
 rw [y4X,if_neg (by simp [codeP,ho,hm])]
theorem yfe(h:GenIn a ctrl n){out mem:List Bool}(ho:out.length=ctrl.length+1)(hm:mem.length=n+1):y5A (codeP a ctrl n) (out,mem)=some (out.getD ctrl.length false,0):=by
 rw [y5A,ycI ho hm,yOb,if_neg (by simp),show idx (out,mem).1 ((codeP a ctrl n).2.2.1.length:Int)=some (out[ctrl.length]'(by omega)) from ya (xs:=out) (i:=ctrl.length) (by omega),yOb,List.getD_eq_getElem?_getD,yGe (by omega)];rfl
theorem yff(h:GenIn a ctrl n){out mem:List Bool}(ho:out.length=ctrl.length+1)(hm:mem.length=n+1){q:Int→Bool}(hq:∀k,k<ctrl.length→out.getD k false=q (ctrl.getD k 0)):
  y3B (codeP a ctrl n) (out,mem)=some (ctrl.filter q,0):=by
 have h4:=h.ct;have hi:iter (y3r (codeP a ctrl n) (out,mem)) (0,([]:List Int))=some (ctrl.filter q):=by
  have e0:((0:Int),([]:List Int))=(fun k:Nat=>((k:Int),(ctrl.take k).filter q)) 0:=by simp
  refine Eq.trans (congrArg _ e0) (y5m (f:=y3r (codeP a ctrl n) (out,mem)) (fun k:Nat=>((k:Int),(ctrl.take k).filter q)) ctrl.length (by omega) (fun k hk=>?_) ?_)
  ·rw [y3r];dsimp only;have ht:(ctrl.take (k+1)).filter q=(ctrl.take k).filter q++(if q ctrl[k] then [ctrl[k]] else []):=by
    rw [List.take_succ_eq_append_getElem hk,List.filter_append];cases hc:q ctrl[k] <;> simp [hc]
   have hk3:out[k]'(by omega)=q ctrl[k]:=by
    have:=hq k hk;rwa [List.getD_eq_getElem?_getD,yGe (by omega),List.getD_eq_getElem?_getD,yGe hk] at this
   have hlen:((ctrl.take k).filter q).length≤32:=Nat.le_trans (List.length_filter_le ..) (by simp;omega);rw [if_pos (show decide ((k:Int)<((codeP a ctrl n).2.2.1.length:Int))=true from decide_eq_true (show (k:Int)<(ctrl.length:Int) by omega)),show idx (codeP a ctrl n).2.2.1 (k:Int)=some ctrl[k] from ya hk,yOb,ya (by omega),yOb,hk3,ht];cases hc:q ctrl[k] with
   | true=>
    rw [if_pos rfl,yo (by simp;omega),yOb,y3q,show(k:Int)+1=((k+1:Nat):Int) by omega,W_nat (by omega)];rfl
   | false=>
    rw [if_neg (by simp),y3q,show(k:Int)+1=((k+1:Nat):Int) by omega,W_nat (by omega),if_neg (by simp),List.append_nil]
  ·rw [y3r];dsimp only;rw [if_neg (show ¬decide ((ctrl.length:Int)<((codeP a ctrl n).2.2.1.length:Int))=true from by rw [decide_eq_true_eq];show ¬(ctrl.length:Int)<(ctrl.length:Int);omega),List.take_of_length_le (Nat.le_refl _)]
 rw [y3B,ycI ho hm,yOb,if_neg (by simp),hi];rfl
theorem yg1(h:GenIn a ctrl n){out mem:List Bool}(ho:out.length=ctrl.length+1)(hm:mem.length=n+1){s:Nat}(hs:s<n)(hq:∀k,k<n→mem.getD k false=decide (k=s)):
  y5X (codeP a ctrl n) (out,mem)=some ((s:Int),0):=by
 have h1:=h.n1;have hl:(mem.take n).length=n:=by simp;omega
 have hi:iter (y4g (mem.take n)) (0,0,0)=some (1,(s:Int)):=by
  have e0:((0:Int),(0:Int),(0:Int))=(fun k:Nat=>((k:Int),(if s<k then 1 else 0:Int),(if s<k then(s:Int) else 0))) 0:=by simp
  refine Eq.trans (congrArg _ e0) (y5m (f:=y4g (mem.take n)) (fun k:Nat=>((k:Int),(if s<k then 1 else 0:Int),(if s<k then(s:Int) else 0))) n (by omega) (fun k hk=>?_) ?_)
  ·rw [y4g];dsimp only;have hk3:(mem.take n)[k]'(by omega)=decide (k=s):=by
    have:=hq k hk;rw [List.getElem_take];rwa [List.getD_eq_getElem?_getD,yGe (by omega)] at this
   rw [if_pos (by rw [hl];simp;omega),ya (by omega),yOb,hk3];by_cases hks:k=s
   ·subst hks;rw [if_pos (by simp),if_neg (by omega),if_neg (by omega),if_pos (by omega),if_pos (by omega),y4f,show(k:Int)+1=((k+1:Nat):Int) by omega,W_nat (by omega)];rfl
   ·rw [if_neg (by simpa using hks),y4f,show(k:Int)+1=((k+1:Nat):Int) by omega,W_nat (by omega)];by_cases hsk:s<k
    ·rw [if_pos hsk,if_pos hsk,if_pos (by omega),if_pos (by omega)]
    ·rw [if_neg hsk,if_neg hsk,if_neg (by omega),if_neg (by omega)]
  ·rw [y4g];dsimp only;rw [if_neg (by rw [hl];simp),if_pos hs,if_pos hs]
 rw [y5X,ycI ho hm,yOb,if_neg (by simp),show slc (out,mem).2 0 (codeP a ctrl n).2.2.2=some (mem.take n) from by
  show slc mem 0 (n:Int)=_;rw [slc,if_pos ⟨by omega,by omega,by omega⟩];simp,yOb,hi,yOb,if_neg (by simp)]
end
structure Shows (a:Aut) (ctrl:List Int) (n:Nat) (s:Nat) (al:Bool) (st:List Bool×List Bool):Prop where
 ho:st.1.length=ctrl.length+1
 hm:st.2.length=n+1
 hs:s<n
 hq:∀k,k<n→st.2.getD k false=decide (k=s)
 ha:st.1.getD ctrl.length false=al
theorem yh7{us vs:List Int}(h:subB us vs=true):∀x∈us,x∈vs:=fun x hx=>yb.1 (List.all_eq_true.1 h x hx)
theorem yg2{a:Aut}{ctrl:List Int}{n:Nat}(h:GenIn a ctrl n)(ia:Inc a.al)(ic:Inc ctrl){ev:List Int}(ie:Inc ev)(hl:ev.length<4294967296)(he:yB 32 none ev=0)(hsub:subB ev a.al=true){st:List Bool×List Bool}{s:Nat}{al:Bool}(hv:Shows a ctrl n s al st):
  ∃st',y5E (codeP a ctrl n) st ev=some (st',0)∧Shows a ctrl n (ev.foldl (y5H a.es) (s,al)).1 (ev.foldl (y5H a.es) (s,al)).2 st'∧
   ∀k,k<ctrl.length→st'.1.getD k false=(stepF a.es (ev.foldl (y5H a.es) (s,al)).1 (ctrl.getD k 0)).isSome:=by
 have h1:=yh6 h ia ic ie hl he hsub (out:=st.1) (mem:=st.2) hv.ho hv.hm;have v0:=yhP (m:=a.al.length) (inp:=a.al.map (hasB ev)) (by simp) hv.ho hv.hm hv.hq hv.ha;obtain⟨v1,v2,v3⟩:=ygM h.hn h.ed ia ie (yh7 hsub) hv.hs v0;refine⟨_,h1,⟨v1.out.1,v1.mem.1,v2,v1.mem.2,v1.out.2.1⟩,fun k hk=>?_⟩;rw [←v3 k hk];exact v1.out.2.2 k (by omega)
theorem Shows.start{a:Aut}{ctrl:List Int}{n:Nat}(h0:0<n):Shows a ctrl n 0 false (List.replicate (ctrl.length+1) false,true::List.replicate n false):=by
 refine⟨by simp,by simp,h0,fun k hk=>?_,?_⟩
 ·cases k with
  | zero=>rfl
  | succ k=>
   show(true::List.replicate n false).getD (k+1) false=_;rw [List.getD_cons_succ,List.getD_eq_getElem?_getD,List.getElem?_replicate];split <;> simp
 ·show (List.replicate (ctrl.length+1) false).getD ctrl.length false=_;rw [List.getD_eq_getElem?_getD,List.getElem?_replicate];split <;> rfl
theorem yg3{a:Aut}{ctrl:List Int}{n:Nat}(h:GenIn a ctrl n)(ia:Inc a.al)(ic:Inc ctrl):y4e (codeP a ctrl n).1=some ((List.replicate (ctrl.length+1) false,true::List.replicate n false),0):=ygX (yeL h ia ic)
theorem yhX :y5F=some true:=by kernel_rfl
theorem yhY{xs:List (Int×Int×Int)}{p:(Int×Int×Int)→Option Bool}{q:(Int×Int×Int)→Bool}(hl:xs.length≤1000000)(hp:∀x,p x=some (q x)):
  ∃k,y1R xs p=some k∧((k= -1∧xs.find? q=none)∨∃(i:Nat) (h:i<xs.length),k=(i:Int)∧xs.find? q=some xs[i]):=by
 obtain⟨o,h1,h2⟩:=ye (f:=y1W xs p) (fun i s=>s=(i:Int)∧i≤xs.length∧xs.find? q=(xs.drop i).find? q) (fun o=>(o= .inl ()∧xs.find? q=none)∨∃(i:Nat) (h:i<xs.length),o= .inr (i:Int)∧xs.find? q=some xs[i]) xs.length 0 (by omega) (fun i s hi ⟨e1,_,e2⟩=>by
  subst e1;rw [List.drop_eq_getElem_cons hi] at e2;cases hq:q xs[i] with
  | true=>
   right;refine⟨_,?_,.inr ⟨i,hi,rfl,by rw [e2,List.find?_cons_of_pos hq]⟩⟩;rw [y1W,if_pos (ct_lt hi),ya hi,yOb,hp,hq,yOb,if_pos rfl]
  | false=>
   left;refine⟨((i+1:Nat):Int),?_,rfl,by omega,by rw [e2,List.find?_cons_of_neg (by rw [hq];simp)]⟩;rw [y1W,if_pos (ct_lt hi),ya hi,yOb,hp,hq,yOb,if_neg (by simp),nxt (by omega)]) (fun s ⟨e1,_,e2⟩=>by
  subst e1;rw [List.drop_length] at e2;exact⟨_,by rw [y1W,if_neg ct_ge],.inl ⟨rfl,e2⟩⟩) (Nat.zero_le _) 0 ⟨rfl,Nat.zero_le _,rfl⟩
 rw [y1R,h1,yOb];rcases h2 with ⟨rfl,g⟩|⟨i,hi,rfl,g⟩
 ·exact ⟨_,rfl,.inl ⟨rfl,g⟩⟩
 ·exact ⟨_,rfl,.inr ⟨i,hi,rfl,g⟩⟩
theorem ybY{b:BenT}{n:Nat}(hP:Right b.1.1 n)(e:Int):y1z b e=some ((st1 b.1.1 b.2.2.1 e).getD (-1)):=by
 obtain⟨k,h1,h2⟩:=yhY (xs:=b.1.1.2.2.2) (p:=y1X (some b) e) (q:=fun x=>x.1==b.2.2.1&&x.2.1==e) hP.l3 (fun x=>by
  rw [y1X,yOb];by_cases hx:(x.1==b.2.2.1)=true
  ·rw [if_pos hx,y1m,hx,Bool.true_and]
  ·rw [if_neg hx,y1m];simp only [Bool.not_eq_true] at hx;rw [hx,Bool.false_and])
 rw [y1z,h1,yOb];unfold st1;rcases h2 with ⟨rfl,g⟩|⟨i,hi,rfl,g⟩
 ·rw [g,if_pos (by simp)];rfl
 ·rw [g,if_neg (by simp),yOb,ya hi,yOb];rfl
theorem ycJ{b:BenT}{n:Nat}(hP:Right b.1.1 n)(e:Int):y2f b e=some ((st1 b.1.1 b.2.2.1 e).isSome,(b.1,b.2.1,(st1 b.1.1 b.2.2.1 e).getD b.2.2.1,b.2.2.2)):=by
 rw [y2f,ybY hP,yOb];cases hs:st1 b.1.1 b.2.2.1 e with
 | none=>
  rw [if_neg (by simp),y2j];rfl
 | some t=>
  have ht:=((hP.es _ ((y6y hP).1 hs)).2.2.1:(0:Int)≤t);rw [if_pos (by simpa using ht),y2j];simp [ht]
def trF(P:AutT)(c:Int):List Int→Int→Bool→List Int→Int×Bool×List Int
 | [],s,ok,out=>(s,ok,out)
 | e::l,s,ok,out=>match st1 P s e with
  | none=>trF P c l s ok out
  | some t=>trF P c l t (ok&&(st1 P t c).isSome) (out++[e])
theorem yg4{P:AutT}{n:Nat}(hP:Right P n)(s e:Int):decide ((st1 P s e).getD (-1)≥0)=(st1 P s e).isSome:=by
 cases hs:st1 P s e with
 | none=>rfl
 | some t=>
  have ht:=((hP.es _ ((y6y hP).1 hs)).2.2.1:(0:Int)≤t);simpa using ht
theorem yg5{b:BenT}{n:Nat}(hP:Right b.1.1 n){l:List Int}(hl:l.length≤1000000)(c:Int):
  y3R b l c=some ((trF b.1.1 c l b.2.2.1 (c != -1) []).2.2,(trF b.1.1 c l b.2.2.1 (c != -1) []).2.1,(b.1,b.2.1,(trF b.1.1 c l b.2.2.1 (c != -1) []).1,b.2.2.2)):=by
 obtain⟨o,h1,h2⟩:=ye (f:=y2U l c) (fun i s=>s.2.1=(i:Int)∧s.1.1=b.1∧s.1.2.1=b.2.1∧s.1.2.2.2=b.2.2.2∧s.2.2.2.length≤i∧trF b.1.1 c l b.2.2.1 (c != -1) []=trF b.1.1 c (l.drop i) s.1.2.2.1 s.2.2.1 s.2.2.2) (fun o=>o=((b.1,b.2.1,(trF b.1.1 c l b.2.2.1 (c != -1) []).1,b.2.2.2),(trF b.1.1 c l b.2.2.1 (c != -1) []).2)) l.length 0 (by omega) (fun i s hi ⟨e1,e2,e3,e4,e5,e6⟩=>by
  obtain⟨⟨b1,b2,b3,b4⟩,j,ok,out⟩:=s;dsimp only at e1 e2 e3 e4 e5 e6;subst e1 e2 e3 e4;left;rw [List.drop_eq_getElem_cons hi,trF] at e6;have ht:=ycJ (b:=(b.1,b.2.1,b3,b.2.2.2)) hP l[i];dsimp only at ht;rw [y2U,if_pos (ct_lt hi),ya hi,yOb,ht,yOb];cases hs:st1 b.1.1 b3 l[i] with
  | none=>
   rw [hs] at e6;refine⟨((b.1,b.2.1,b3,b.2.2.2),((i+1:Nat):Int),ok,out),?_,rfl,rfl,rfl,rfl,Nat.le_succ_of_le e5,e6⟩;rw [if_neg (by simp),y1i,nxt (by omega)];rfl
  | some t=>
   rw [hs] at e6;refine⟨((b.1,b.2.1,t,b.2.2.2),((i+1:Nat):Int),(ok&&(st1 b.1.1 t c).isSome),out++[l[i]]),?_,rfl,rfl,rfl,rfl,by simp;omega,e6⟩;have hld:=ybY (b:=(b.1,b.2.1,t,b.2.2.2)) hP c;dsimp only at hld;rw [if_pos (by rfl),yo (by simp;omega),yOb,Option.getD_some];cases ok with
   | true=>rw [if_pos rfl,hld,yOb,yOb,y1i,yg4 hP,nxt (by omega),Bool.true_and]
   | false=>rw [if_neg (by simp),yOb,y1i,nxt (by omega),Bool.false_and]) (fun s ⟨e1,e2,e3,e4,e5,e6⟩=>by
  obtain⟨⟨b1,b2,b3,b4⟩,j,ok,out⟩:=s;dsimp only at e1 e2 e3 e4 e5 e6;subst e1 e2 e3 e4;rw [List.drop_length,trF] at e6;exact⟨_,by rw [y2U,if_neg ct_ge],by rw [e6]⟩) (Nat.zero_le _) (b,0,(c != -1),[]) ⟨rfl,rfl,rfl,rfl,Nat.le_refl _,rfl⟩
 rw [y3R,h1,yOb,h2]
theorem has55{xs:List Int}(hl:xs.length≤1000000)(x:Int):y2o xs x=some (hasB xs x):=by
 obtain⟨o,h1,h2⟩:=ye (f:=y3f xs x) (fun i s=>s=(i:Int)∧∀j (h:j<xs.length),j<i→xs[j]≠x) (fun o=>(o= .inl ()∧x∉xs)∨(o= .inr ()∧x∈xs)) xs.length 0 (by omega) (fun i s hi ⟨e1,e2⟩=>by
  subst e1;by_cases he:xs[i]=x
  ·right;refine⟨_,?_,.inr ⟨rfl,he▸List.getElem_mem hi⟩⟩;rw [y3f,if_pos (ct_lt hi),ya hi,yOb,if_pos (by simpa using he)]
  ·left;refine⟨((i+1:Nat):Int),?_,rfl,fun j h hj=>?_⟩
   ·rw [y3f,if_pos (ct_lt hi),ya hi,yOb,if_neg (by simpa using he),nxt (by omega)]
   ·by_cases e:j=i
    ·subst e;exact he
    ·exact e2 j h (by omega)) (fun s ⟨e1,e2⟩=>by
  subst e1;refine⟨_,by rw [y3f,if_neg ct_ge],.inl ⟨rfl,fun hm=>?_⟩⟩;obtain⟨j,hj,e⟩:=List.mem_iff_getElem.1 hm;exact e2 j hj hj e) (Nat.zero_le _) 0 ⟨rfl,fun j h hj=>by omega⟩
 rw [y2o,h1,yOb];rcases h2 with ⟨rfl,g⟩|⟨rfl,g⟩
 ·have:hasB xs x=false:=by
   cases hb:hasB xs x with
   | false=>rfl
   | true=>exact absurd (yb.1 hb) g
  rw [this]
 ·rw [yb.2 g]
def hnS(S:AutT)(x:Int×Bool)(e:Int):Int×Bool:=match st1 S x.1 e with
 | none=>(x.1,true)
 | some t=>(t,x.2)
def imL(S:AutT)(im:List Int)(k:Nat):List Int:=((List.range k).map fun i:Nat=>(i:Int)).filter fun e=>hasB im e&&hasB S.1 e
theorem ydX{S:AutT}{n:Nat}(hS:Right S n)(s:Nat)(e:Int):(stepF (toAut S).es s e).map (fun t:Nat=>(t:Int))=st1 S (s:Int) e:=by
 unfold stepF st1;show((((S.2.2.2.map toEd).find? _).map _).map _)=_;rw [List.find?_map];cases h:S.2.2.2.find? fun x=>x.1==(s:Int)&&x.2.1==e with
 | none=>
  have h':S.2.2.2.find? ((fun x:Ed=>x.f==(s:Int)&&x.e==e)∘toEd)=none:=h;rw [h'];rfl
 | some x=>
  have h':S.2.2.2.find? ((fun x:Ed=>x.f==(s:Int)&&x.e==e)∘toEd)=some x:=h;have:=(hS.es x (List.mem_of_find?_eq_some h)).2.2.1;rw [h'];show some (((x.2.2).toNat:Nat):Int)=some x.2.2;rw [Int.toNat_of_nonneg this]
theorem ycK{S:AutT}{n:Nat}(hS:Right S n):∀(ev:List Int) (s:Nat) (al:Bool),(ev.foldl (hnS S) ((s:Int),al))=(((ev.foldl (y5H (toAut S).es) (s,al)).1:Int),(ev.foldl (y5H (toAut S).es) (s,al)).2)
 | [],_,_=>rfl
 | e::ev,s,al=>by
  rw [List.foldl_cons,List.foldl_cons,hnS,y5H];dsimp only;have h:=ydX hS s e;cases hs:stepF (toAut S).es s e with
  | none=>
   rw [hs] at h;rw [←h];exact ycK hS ev s true
  | some t=>
   rw [hs] at h;rw [←h];exact ycK hS ev t al
theorem ycL{S:AutT}{n:Nat}(hS:Right S n){im:List Int}{e:Int}:e∈imL S im 32↔e∈im∧e∈S.1:=by
 unfold imL;rw [List.mem_filter,Bool.and_eq_true,yb,yb,List.mem_map];constructor
 ·rintro ⟨_,h⟩;exact h
 ·intro h;have:=hS.alr e h.2;exact⟨⟨e.toNat,List.mem_range.2 (by omega),by omega⟩,h⟩
theorem yeM{S:AutT}{im:List Int}:Inc (imL S im 32):=by
 unfold imL Inc;refine List.Pairwise.filter _ ?_;rw [List.pairwise_map];exact List.pairwise_lt_range.imp fun h=>by omega
theorem yfg{b:BenT}{n:Nat}(hS:Right b.1.2.1 n){l:List Int}(hl:l.length≤1000000):iter (y1v b l) (0,[])=some (l.filter (hasB b.1.2.1.1)):=by
 obtain⟨o,h1,h2⟩:=ye (f:=y1v b l) (fun i s=>s.1=(i:Int)∧i≤l.length∧s.2=(l.take i).filter (hasB b.1.2.1.1)) (fun o=>o=l.filter (hasB b.1.2.1.1)) l.length 0 (by omega) (fun i s hi ⟨e1,_,e2⟩=>by
  obtain⟨j,out⟩:=s;dsimp only at e1 e2;subst e1;left;have hle:=List.length_filter_le (hasB b.1.2.1.1) (l.take i);rw [List.length_take,←e2] at hle;refine⟨(((i+1:Nat):Int),(l.take (i+1)).filter (hasB b.1.2.1.1)),?_,rfl,by omega,rfl⟩;rw [y1v,if_pos (ct_lt hi),ya hi,yOb,y1P (by have:=hS.l1;omega),yOb,List.take_succ_eq_append_getElem hi,List.filter_append,←e2,List.filter_cons,List.filter_nil];cases hb:hasB b.1.2.1.1 l[i] with
  | true=>rw [if_pos rfl,yo (by simp;omega),yOb,y1u,nxt (by omega),if_pos rfl]
  | false=>rw [if_neg (by simp),y1u,nxt (by omega),if_neg (by simp),List.append_nil]) (fun s ⟨e1,_,e2⟩=>by
  obtain⟨j,out⟩:=s;dsimp only at e1 e2;subst e1;exact⟨_,by rw [y1v,if_neg ct_ge],by rw [e2,List.take_length]⟩) (Nat.zero_le _) (0,[]) ⟨rfl,Nat.zero_le _,by simp⟩
 rw [h1,h2]
theorem yh8{S:AutT}{n:Nat}(hS:Right S n){l:List Int}(hn:l.Nodup):isL (l.filter (hasB S.1))=imL S l 32:=by
 refine ydO ?_ yeM fun e=>?_
 ·have hp:=y9r (l.filter (hasB S.1));have hd:(isL (l.filter (hasB S.1))).Nodup:=hp.nodup_iff.2 (hn.filter _);exact(ydF _).imp₂ (fun _ _ h1 h2=>by omega) hd
 ·rw [(y9r _).mem_iff,List.mem_filter,yb,ycL hS]
theorem yfh{b:BenT}{n:Nat}{ctrl:List Int}(hS:Right b.1.2.1 n)(hG:GenIn (toAut b.1.2.1) ctrl n)(ic:Inc ctrl)(hc:b.2.1=codeP (toAut b.1.2.1) ctrl n){s:Nat}{al:Bool}(hv:Shows (toAut b.1.2.1) ctrl n s al b.2.2.2){l:List Int}(hl:l.length≤1000000)(hn:l.Nodup):
  ∃st',yQ b l=some (0,(b.1,b.2.1,b.2.2.1,st'))∧∃(s':Nat) (al':Bool),(imL b.1.2.1 l 32).foldl (hnS b.1.2.1) ((s:Int),al)=((s':Int),al')∧Shows (toAut b.1.2.1) ctrl n s' al' st'∧
   ∀k,k<ctrl.length→st'.1.getD k false=(st1 b.1.2.1 (s':Int) (ctrl.getD k 0)).isSome:=by
 have hi:=yeM (S:=b.1.2.1) (im:=l);have hr:∀x∈imL b.1.2.1 l 32,0≤x∧x<32:=fun x hx=>hS.alr x ((ycL hS).1 hx).2;have hlen:=Alp.len ⟨hi,hr⟩;obtain⟨st',g1,g2,g3⟩:=yg2 hG hS.ali ic hi (by omega) (y6u hi hr nofun) (List.all_eq_true.2 fun x hx=>yb.2 ((ycL hS).1 hx).2) hv;refine⟨st',?_,_,_,ycK hS _ _ _,g2,fun k hk=>?_⟩
 ·have hfl:=List.length_filter_le (hasB b.1.2.1.1) l;rw [yQ,yfg hS hl,yOb,y5c,if_pos (by omega),yOb,yh8 hS hn,hc,g1,yOb,if_pos (by rfl),y2B,←hc]
 ·rw [g3 k hk,←ydX hS];simp
def cmdL(q:PbT):List Int:=q.2.1.1.filter fun e=>!hasB q.2.2 e
theorem yea{q:PbT}(h1:q.2.1.1.length≤1000000)(h2:q.2.2.length≤1000000):y6a q=some (cmdL q):=by
 obtain⟨o,g1,g2⟩:=ye (f:=y4a q) (fun i s=>s.1=(i:Int)∧i≤q.2.1.1.length∧s.2=(q.2.1.1.take i).filter fun e=>!hasB q.2.2 e) (fun o=>o=cmdL q) q.2.1.1.length 0 (by omega) (fun i s hi ⟨e1,_,e2⟩=>by
  obtain⟨j,out⟩:=s;dsimp only at e1 e2;subst e1;left;have hle:=List.length_filter_le (fun e=>!hasB q.2.2 e) (q.2.1.1.take i);rw [List.length_take,←e2] at hle;refine⟨(((i+1:Nat):Int),(q.2.1.1.take (i+1)).filter fun e=>!hasB q.2.2 e),?_,rfl,by omega,rfl⟩;rw [y4a,if_pos (ct_lt hi),ya hi,yOb,has55 h2,yOb,List.take_succ_eq_append_getElem hi,List.filter_append,←e2,List.filter_cons,List.filter_nil];cases hb:hasB q.2.2 q.2.1.1[i] with
  | true=>rw [if_neg (by simp),y3Z,nxt (by omega),if_neg (by simp),List.append_nil]
  | false=>rw [if_pos (by rfl),yOb,yo (by simp;omega),yOb,y3Z,nxt (by omega),if_pos (by rfl)]) (fun s ⟨e1,_,e2⟩=>by
  obtain⟨j,out⟩:=s;dsimp only at e1 e2;subst e1;exact⟨_,by rw [y4a,if_neg ct_ge],by rw [e2,List.take_length];rfl⟩) (Nat.zero_le _) (0,[]) ⟨rfl,Nat.zero_le _,by simp⟩
 rw [y6a,g1,yOb,g2]
theorem ycM{q:PbT}(h1:q.2.1.1.length≤1000000)(h2:q.2.2.length≤1000000):y5d q=yP q.2.1 (cmdL q):=by
 obtain⟨o,g1,g2⟩:=ye (f:=y4V q) (fun i s=>s.1=(i:Int)∧i≤q.2.1.1.length∧s.2=(q.2.1.1.take i).filter fun e=>!hasB q.2.2 e) (fun o=>o=cmdL q) q.2.1.1.length 0 (by omega) (fun i s hi ⟨e1,_,e2⟩=>by
  obtain⟨j,out⟩:=s;dsimp only at e1 e2;subst e1;left;have hle:=List.length_filter_le (fun e=>!hasB q.2.2 e) (q.2.1.1.take i);rw [List.length_take,←e2] at hle;refine⟨(((i+1:Nat):Int),(q.2.1.1.take (i+1)).filter fun e=>!hasB q.2.2 e),?_,rfl,by omega,rfl⟩;rw [y4V,if_pos (ct_lt hi),ya hi,yOb,y1P (by omega),yOb,List.take_succ_eq_append_getElem hi,List.filter_append,←e2,List.filter_cons,List.filter_nil];cases hb:hasB q.2.2 q.2.1.1[i] with
  | true=>rw [if_neg (by simp),y3I,nxt (by omega),if_neg (by simp),List.append_nil]
  | false=>rw [if_pos (by rfl),yo (by simp;omega),yOb,y3I,nxt (by omega),if_pos (by rfl)]) (fun s ⟨e1,_,e2⟩=>by
  obtain⟨j,out⟩:=s;dsimp only at e1 e2;subst e1;exact⟨_,by rw [y4V,if_neg ct_ge],by rw [e2,List.take_length];rfl⟩) (Nat.zero_le _) (0,[]) ⟨rfl,Nat.zero_le _,by simp⟩
 rw [y5d,g1,yOb,g2];cases yP q.2.1 (cmdL q) <;> rfl
theorem yhZ{q:PbT}(h1:q.2.1.1.length≤1000000)(h2:q.2.2.length≤1000000):yD q=y5G q:=by
 rw [yD,y5G,yea h1 h2,yOb,ycM h1 h2]
def trE(P:AutT):List Int→Int→Int×List Int
 | [],s=>(s,[])
 | e::l,s=>match st1 P s e with
  | none=>trE P l s
  | some t=>((trE P l t).1,e::(trE P l t).2)
theorem ycg(P:AutT)(c:Int):∀(l:List Int) (s:Int) (ok:Bool) (out:List Int),trF P c l s ok out=((trE P l s).1,ok&&(trF P c l s true []).2.1,out++(trE P l s).2)
 | [],s,ok,out=>by simp [trF,trE]
 | e::l,s,ok,out=>by
  rw [trF,trE,trF];cases h:st1 P s e with
  | none=>exact ycg P c l s ok out
  | some t=>
   dsimp only;rw [ycg P c l t (ok&&_),ycg P c l t (true&&_),Bool.true_and,Bool.and_assoc,List.append_assoc];rfl
def aft(P:AutT)(c:Int)(l:List Int)(s:Int):Bool:=(trF P c l s true []).2.1
theorem y9n(P:AutT):∀(l:List Int) (s:Int),(trE P l s).2.length≤l.length
 | [],_=>Nat.le_refl _
 | e::l,s=>by
  rw [trE];cases st1 P s e with
  | none=>exact Nat.le_succ_of_le (y9n P l s)
  | some t=>exact Nat.succ_le_succ (y9n P l t)
theorem ybp(P:AutT):∀(l:List Int) (s:Int),(trE P l s).2.Sublist l
 | [],_=> .slnil
 | e::l,s=>by
  rw [trE];cases st1 P s e with
  | none=>exact .cons _ (ybp P l s)
  | some t=>exact .cons_cons _ (ybp P l t)
abbrev RunT :=Int×Int×Bool
def hnL(S:AutT)(im:List Int)(z:Int×Bool):Int×Bool:=(imL S im 32).foldl (hnS S) z
def midR(q:PbT)(r:RunT)(c:CycT):RunT:=((trE q.1 c.1 r.1).1,hnL q.2.1 (trE q.1 c.1 r.1).2 r.2)
def dnR(q:PbT)(m:RunT)(c:CycT)(cm:Int):Bool:=cm != -1&&aft q.1 cm c.2.1 m.1
def finR(q:PbT)(m:RunT)(c:CycT)(cm:Int):RunT:=
 if dnR q m c cm=true then((st1 q.1 (trE q.1 c.2.1 m.1).1 cm).getD (trE q.1 c.2.1 m.1).1,hnL q.2.1 [cm] (hnL q.2.1 (trE q.1 c.2.1 m.1).2 m.2))
 else((trE q.1 c.2.1 m.1).1,hnL q.2.1 (trE q.1 c.2.1 m.1).2 m.2)
def enR(q:PbT)(s:Int):List Int:=(cmdL q).filter fun e=>(st1 q.2.1 s e).isSome
def perm(q:PbT)(m:RunT)(e:Int):Bool:=(st1 q.1 m.1 e).isSome&&(!hasB q.2.1.1 e||(st1 q.2.1 m.2.1 e).isSome)
abbrev StpR :=List Int×List Int×List Int×Int×Bool×Int×Bool
def stpR(q:PbT)(r:RunT)(c:CycT)(ch:RunT→Int):StpR:=
 ((trE q.1 c.1 r.1).2,(trE q.1 c.2.1 (midR q r c).1).2,enR q (midR q r c).2.1,ch (midR q r c),dnR q (midR q r c) c (ch (midR q r c)),(finR q (midR q r c) c (ch (midR q r c))).2.1,(finR q (midR q r c) c (ch (midR q r c))).2.2)
def cycR(q:PbT)(ch:CycT→RunT→Int)(r:RunT)(c:CycT):RunT:=finR q (midR q r c) c (ch c (midR q r c))
def y3l(q:PbT)(ch:CycT→RunT→Int):RunT→List CycT→List StpR
 | _,[]=> []
 | r,c::l=>stpR q r c (ch c)::y3l q ch (cycR q ch r c) l
def runR(q:PbT)(ch:CycT→RunT→Int)(r:RunT)(l:List CycT):RunT:=l.foldl (cycR q ch) r
theorem yaD(q:PbT)(ch:CycT→RunT→Int):∀(l:List CycT) (r:RunT),(y3l q ch r l).length=l.length
 | [],_=>rfl
 | c::l,r=>by rw [y3l,List.length_cons,List.length_cons,yaD]
theorem ybD(q:PbT)(ch:CycT→RunT→Int)(c:CycT):∀(l:List CycT) (r:RunT),y3l q ch r (l++[c])=y3l q ch r l++[stpR q (runR q ch r l) c (ch c)]
 | [],_=>rfl
 | d::l,r=>by
  rw [List.cons_append,y3l,y3l,ybD q ch c l,List.cons_append];rfl
theorem yg6(q:PbT)(ch:CycT→RunT→Int)(c:CycT)(l:List CycT)(r:RunT):runR q ch r (l++[c])=cycR q ch (runR q ch r l) c:=List.foldl_append ..
def chP(q:PbT)(pr:List Int)(m:RunT):Int:=(pr.find? (perm q m)).getD (-1)
theorem yb8(q:PbT)(pr:List Int)(m:RunT):chP q pr m= -1∨(chP q pr m∈pr∧perm q m (chP q pr m)=true):=by
 unfold chP;cases h:pr.find? (perm q m) with
 | none=>exact .inl rfl
 | some x=>exact .inr ⟨List.mem_of_find?_eq_some h,List.find?_some h⟩
def mx(a b:Int):Int:=if a<b then b else a
theorem yaE{xs:List Int}(hl:xs.length≤1000000):y1c xs xs=some true:=by
 have hi:iter (y1D xs xs) 0=some (.inl ()):=y5m (f:=y1D xs xs) (fun k:Nat=>(k:Int)) xs.length (by omega) (fun k hk=>by
  rw [y1D,if_pos (ct_lt hk),ya hk,yOb,yOb,if_neg (by simp),nxt (by omega)]) (by rw [y1D,if_neg ct_ge])
 rw [y1c,if_neg (by simp),hi];rfl
theorem yg7{l:List StpR}(hl:l.length≤1000000)(h:∀s∈l,s.1.length≤1000000∧s.2.1.length≤1000000∧s.2.2.1.length≤1000000):y4Z l l=some true:=by
 have hi:iter (y2O l l) 0=some (.inl ()):=y5m (f:=y2O l l) (fun k:Nat=>(k:Int)) l.length (by omega) (fun k hk=>by
  obtain⟨k1,k2,k3⟩:=h _ (List.getElem_mem hk);rw [y2O,if_pos (ct_lt hk),ya hk,yOb,yOb,yaE k1,yOb,if_neg (by simp),yaE k2,yOb,yOb,if_neg (by simp),yaE k3,yOb,yOb,if_neg (by simp),nxt (by omega)]) (by rw [y2O,if_neg ct_ge])
 rw [y4Z,if_neg (by simp),hi];rfl
structure SimOk (q:PbT) (n1 n2:Nat):Prop where
 rP:Right q.1 n1
 rS:Right q.2.1 n2
 g:GenIn (toAut q.2.1) (cmdL q) n2
 ic:Inc (cmdL q)
 p0:0<n1
 u:q.2.2.length≤1000000
 gen:yP q.2.1 (cmdL q)=some (codeP (toAut q.2.1) (cmdL q) n2,0)
structure BenOk (q:PbT) (n2:Nat) (b:BenT) (r:RunT):Prop where
 e1:b.1=q
 e2:b.2.1=codeP (toAut q.2.1) (cmdL q) n2
 e3:b.2.2.1=r.1
 sh:∃s:Nat,r.2.1=(s:Int)∧Shows (toAut q.2.1) (cmdL q) n2 s r.2.2 b.2.2.2
theorem BenOk.plant{q:PbT}{n2:Nat}{b:BenT}{r:RunT}(h:BenOk q n2 b r)(x:Int):BenOk q n2 (b.1,b.2.1,x,b.2.2.2) (x,r.2):=⟨h.e1,h.e2,rfl,h.sh⟩
theorem yh9{b:BenT}{n:Nat}(hP:Right b.1.1 n){c:CycT}(hl:c.1.length≤1000000):iter (y1M c) (b,0,[])=some ((b.1,b.2.1,(trE b.1.1 c.1 b.2.2.1).1,b.2.2.2),(trE b.1.1 c.1 b.2.2.1).2):=by
 obtain⟨o,h1,h2⟩:=ye (f:=y1M c) (fun i s=>s.2.1=(i:Int)∧s.1.1=b.1∧s.1.2.1=b.2.1∧s.1.2.2.2=b.2.2.2∧s.2.2.length≤i∧trE b.1.1 c.1 b.2.2.1=((trE b.1.1 (c.1.drop i) s.1.2.2.1).1,s.2.2++(trE b.1.1 (c.1.drop i) s.1.2.2.1).2)) (fun o=>o=((b.1,b.2.1,(trE b.1.1 c.1 b.2.2.1).1,b.2.2.2),(trE b.1.1 c.1 b.2.2.1).2)) c.1.length 0 (by omega) (fun i s hi ⟨e1,e2,e3,e4,e5,e6⟩=>by
  obtain⟨⟨b1,b2,b3,b4⟩,j,out⟩:=s;dsimp only at e1 e2 e3 e4 e5 e6;subst e1 e2 e3 e4;left;rw [List.drop_eq_getElem_cons hi,trE] at e6;have ht:=ycJ (b:=(b.1,b.2.1,b3,b.2.2.2)) hP c.1[i];dsimp only at ht;rw [y1M,if_pos (ct_lt hi),ya hi,yOb,ht,yOb];cases hs:st1 b.1.1 b3 c.1[i] with
  | none=>
   rw [hs] at e6;refine⟨((b.1,b.2.1,b3,b.2.2.2),((i+1:Nat):Int),out),?_,rfl,rfl,rfl,rfl,Nat.le_succ_of_le e5,e6⟩;rw [if_neg (by simp),y1L,nxt (by omega)];rfl
  | some t=>
   rw [hs] at e6;refine⟨((b.1,b.2.1,t,b.2.2.2),((i+1:Nat):Int),out++[c.1[i]]),?_,rfl,rfl,rfl,rfl,by simp;omega,by rw [e6,List.append_assoc];rfl⟩;rw [if_pos (by rfl),yo (by simp;omega),yOb,y1L,nxt (by omega)];rfl) (fun s ⟨e1,e2,e3,e4,e5,e6⟩=>by
  obtain⟨⟨b1,b2,b3,b4⟩,j,out⟩:=s;dsimp only at e1 e2 e3 e4 e5 e6;subst e1 e2 e3 e4;rw [List.drop_length,trE,List.append_nil] at e6;exact⟨_,by rw [y1M,if_neg ct_ge],by rw [e6]⟩) (Nat.zero_le _) (b,0,[]) ⟨rfl,rfl,rfl,rfl,Nat.le_refl _,rfl⟩
 rw [h1,h2]
section
variable{q:PbT}{n1 n2:Nat}{b:BenT}{r:RunT}
theorem yb9(h:SimOk q n1 n2)(hb:BenOk q n2 b r){l:List Int}(hl:l.length≤1000000)(hn:l.Nodup):∃b',yQ b l=some (0,b')∧BenOk q n2 b' (r.1,hnL q.2.1 l r.2)∧y3B b'.2.1 b'.2.2.2=some (enR q (hnL q.2.1 l r.2).1,0):=by
 obtain⟨b1,b2,b3,b4⟩:=b;obtain⟨h1,h2,h3,s,hs,hv⟩:=hb;dsimp only at h1 h2 h3 hv;subst h1 h2 h3;obtain⟨r1,r2,al⟩:=r;dsimp only at hs hv ⊢;subst hs;obtain⟨st',g1,s',al',g2,g3,g4⟩:=yfh (b:=(b1,codeP (toAut b1.2.1) (cmdL b1) n2,r1,b4)) h.rS h.g h.ic rfl hv hl hn;have g2:hnL b1.2.1 l ((s:Int),al)=((s':Int),al'):=g2;refine⟨_,g1,⟨rfl,rfl,rfl,s',by rw [g2],by rw [g2];exact g3⟩,?_⟩;rw [g2];exact yff h.g g3.ho g3.hm g4
theorem yg8(h:SimOk q n1 n2)(hb:BenOk q n2 b r){e:Int}(he:e∉q.2.2):y4k b e (enR q r.2.1)=some (perm q r e):=by
 obtain⟨b1,b2,b3,b4⟩:=b;obtain⟨h1,h2,h3,s,hs,hv⟩:=hb;dsimp only at h1 h2 h3 hv;subst h1 h2 h3;have hl:(enR b1 r.2.1).length≤32:=Nat.le_trans (List.length_filter_le _ _) h.g.ct;have hen:hasB (enR b1 r.2.1) e=(hasB b1.2.1.1 e&&(st1 b1.2.1 r.2.1 e).isSome):=by
  rw [Bool.eq_iff_iff,Bool.and_eq_true,yb,yb,enR,List.mem_filter,cmdL,List.mem_filter];have:(!hasB b1.2.2 e)=true:=by rw [Bool.not_eq_true',←Bool.not_eq_true,yb];exact he
  exact⟨fun h=>⟨h.1.1,h.2⟩,fun h=>⟨⟨h.1,this⟩,h.2⟩⟩
 rw [y4k,ybY h.rP,yOb,yg4 h.rP,perm];cases st1 b1.1 r.1 e with
 | none=>rfl
 | some t=>
  have hS1:=h.rS.l1;rw [if_pos (show (some t).isSome=true from rfl),y1P (by omega),yOb,hen];cases hx:hasB b1.2.1.1 e with
  | false=>rw [if_neg (by simp),y1P (by dsimp only;omega),yOb,yOb,yOb];dsimp only;rw [hx];rfl
  | true=>
   cases st1 b1.2.1 r.2.1 e with
   | none=>rw [if_neg (by simp),y1P (by dsimp only;omega),yOb,yOb,yOb];dsimp only;rw [hx];rfl
   | some t=>rfl
theorem yg9(h:SimOk q n1 n2)(hb:BenOk q n2 b r)(o:BenT×List Int)(en:List Int×Int)(cm:Int)(la:List Int×Bool×BenT):∃b',y1J o en cm la b=some ((o.2,la.1,en.1,cm,la.2.1,r.2.1,r.2.2),0,b')∧BenOk q n2 b' r:=by
 obtain⟨b1,b2,b3,b4⟩:=b;obtain⟨h1,h2,h3,s,hs,hv⟩:=hb;dsimp only at h1 h2 h3 hv;subst h1 h2 h3;rw [y1J];dsimp only;rw [yg1 h.g hv.ho hv.hm hv.hs hv.hq,yOb,if_neg (by simp),yfe h.g hv.ho hv.hm,yOb];exact⟨_,by rw [hs,hv.ha],⟨rfl,rfl,rfl,s,hs,hv⟩⟩
theorem yga(h:SimOk q n1 n2)(hb:BenOk q n2 b r)(o:BenT×List Int)(en:List Int×Int)(cm:Int)(la:List Int×Bool×BenT)(hl:la.1.length≤1000000)(hn:la.1.Nodup):
  ∃b' z,y1K o en cm la b=some ((o.2,la.1,en.1,cm,la.2.1,z.2.1,z.2.2),0,b')∧BenOk q n2 b' z∧z=if la.2.1=true then(r.1,hnL q.2.1 [cm] (hnL q.2.1 la.1 r.2)) else(r.1,hnL q.2.1 la.1 r.2):=by
 obtain⟨b2,g1,g2,_⟩:=yb9 h hb hl hn;rw [y1K,g1,yOb,if_neg (by simp)];dsimp only;cases hd:la.2.1 with
 | true=>
  obtain⟨b3,g3,g4,_⟩:=yb9 h g2 (l:=[cm]) (by simp) (by simp);obtain⟨b4,g5,g6⟩:=yg9 h g4 o en cm la;rw [hd] at g5;rw [if_pos rfl,g3,yOb,if_neg (by simp)];exact⟨b4,_,g5,g6,rfl⟩
 | false=>
  obtain⟨b4,g5,g6⟩:=yg9 h g2 o en cm la;rw [hd] at g5;rw [if_neg (by simp)];exact⟨b4,_,g5,g6,rfl⟩
theorem yha(h:SimOk q n1 n2)(hb:BenOk q n2 b r){c:CycT}(l1:c.1.length≤1000000)(l2:c.2.1.length≤1000000)(d1:c.1.Nodup)(d2:c.2.1.Nodup){p2:(Int→Option Bool)→Option Int}{ch:RunT→Int}
  (hp:∀b2:BenT,BenOk q n2 b2 (midR q r c)→p2 (yl (some b2) ((trE q.1 c.1 r.1).2,[],enR q (midR q r c).2.1,0,false,0,false))=some (ch (midR q r c))):
  ∃b',y2C b c p2=some (stpR q r c ch,0,b')∧BenOk q n2 b' (finR q (midR q r c) c (ch (midR q r c))):=by
 have hP1:Right b.1.1 n1:=by rw [hb.e1];exact h.rP
 have k1:=y9n q.1 c.1 r.1;have k2:=y9n q.1 c.2.1 (midR q r c).1;have s1:=d1.sublist (ybp q.1 c.1 r.1);have s2:=d2.sublist (ybp q.1 c.2.1 (midR q r c).1);have hb1:=hb.plant (trE b.1.1 c.1 b.2.2.1).1;rw [y2C,yh9 hP1 l1,yOb];dsimp only;rw [hb.e1,hb.e3] at hb1 ⊢;obtain⟨b2,g1,g2,g3⟩:=yb9 h hb1 (l:=(trE q.1 c.1 r.1).2) (by omega) s1;have g2:BenOk q n2 b2 (midR q r c):=g2;have g3:y3B b2.2.1 b2.2.2.2=some (enR q (midR q r c).2.1,0):=g3;rw [g1,yOb,if_neg (by simp)];dsimp only;rw [g3,yOb,if_neg (by simp)];dsimp only;rw [hp b2 g2,yOb];have hP2:Right b2.1.1 n1:=by rw [g2.e1];exact h.rP
 rw [yg5 hP2 l2,yOb,ycg];have hb3:=g2.plant (trE b2.1.1 c.2.1 b2.2.2.1).1;rw [stpR];generalize ch (midR q r c)=cm at *;have hdn:((cm != -1)&&(trF b2.1.1 cm c.2.1 b2.2.2.1 true []).2.1)=dnR q (midR q r c) c cm:=by rw [g2.e1,g2.e3];rfl
 dsimp only;rw [hdn,List.nil_append,finR];rw [g2.e3,g2.e1] at hb3 ⊢;cases hd:dnR q (midR q r c) c cm with
 | true=>
  rw [if_pos rfl,ycJ (by dsimp only;exact h.rP),yOb];obtain⟨b',z,w1,w2,w3⟩:=yga h (hb3.plant ((st1 q.1 (trE q.1 c.2.1 (midR q r c).1).1 cm).getD (trE q.1 c.2.1 (midR q r c).1).1)) ((q,b.2.1,(trE q.1 c.1 r.1).1,b.2.2.2),(trE q.1 c.1 r.1).2) (enR q (midR q r c).2.1,0) cm ((trE q.1 c.2.1 (midR q r c).1).2,true,(q,b2.2.1,(trE q.1 c.2.1 (midR q r c).1).1,b2.2.2.2)) (by dsimp only;omega) s2;rw [if_pos rfl] at w3 ⊢;subst w3;exact⟨b',w1,w2⟩
 | false=>
  rw [if_neg (by simp)];obtain⟨b',z,w1,w2,w3⟩:=yga h hb3 ((q,b.2.1,(trE q.1 c.1 r.1).1,b.2.2.2),(trE q.1 c.1 r.1).2) (enR q (midR q r c).2.1,0) cm ((trE q.1 c.2.1 (midR q r c).1).2,false,(q,b2.2.1,(trE q.1 c.2.1 (midR q r c).1).1,b2.2.2.2)) (by dsimp only;omega) s2;rw [if_neg (by simp)] at w3 ⊢;subst w3;exact⟨b',w1,w2⟩
end
theorem ycN{q:PbT}{n:Nat}(hP:Right q.1 n){m:RunT}{e:Int}(h:perm q m e=true):0≤e∧(st1 q.1 m.1 e).isSome=true:=by
 rw [perm,Bool.and_eq_true] at h;obtain⟨t,ht⟩:=Option.isSome_iff_exists.1 h.1;exact⟨(hP.alr e (ycF hP ht).2.2.2.2).1,h.1⟩
structure CycOk (q:PbT) (c:CycT):Prop where
 l1:c.1.length≤1000000
 l2:c.2.1.length≤1000000
 d1:c.1.Nodup
 d2:c.2.1.Nodup
section
variable{q:PbT}{n1 n2:Nat}
theorem yhb(h:SimOk q n1 n2):∃b,y4J q=some (some b,0)∧BenOk q n2 b (0,0,false):=by
 have hl:=h.rS.l1;refine⟨(q,codeP (toAut q.2.1) (cmdL q) n2,0,_),?_,⟨rfl,rfl,rfl,0,rfl,Shows.start h.g.n0⟩⟩;rw [y4J,ycM hl h.u,h.gen,yOb,if_neg (by simp)];dsimp only;rw [yg3 h.g h.rS.ali h.ic,yOb,if_neg (by simp)]
theorem ygb(h:SimOk q n1 n2){l:List CycT}(hl:l.length≤1000000)(hc:∀c∈l,CycOk q c){p2:CycT→Option ((Int→Option Bool)→Option Int)}{pr:CycT→List Int}
  (hp:∀c∈l,∃f,p2 c=some f∧∀(m:RunT) (b:BenT) (s:StpT),BenOk q n2 b m→s.2.2.1=enR q m.2.1→f (yl (some b) s)=some (chP q (pr c) m)):
  y5p q l p2=some (y3l q (fun c=>chP q (pr c)) (0,0,false) l,0):=by
 obtain⟨b,g1,g2⟩:=yhb h;obtain⟨o,h1,h2⟩:=ye (f:=y5k l p2) (fun i s=>s.1=(i:Int)∧i≤l.length∧s.2.1=y3l q (fun c=>chP q (pr c)) (0,0,false) (l.take i)∧BenOk q n2 s.2.2 (runR q (fun c=>chP q (pr c)) (0,0,false) (l.take i))) (fun o=>o= .inl (y3l q (fun c=>chP q (pr c)) (0,0,false) l)) l.length 0 (by omega) (fun i s hi ⟨e1,_,e2,e3⟩=>by
  obtain⟨j,out,b1⟩:=s;dsimp only at e1 e2 e3;subst e1;left;have hm:=List.getElem_mem hi;obtain⟨f,f1,f2⟩:=hp _ hm;have hk:=hc _ hm;obtain⟨b2,w1,w2⟩:=yha h e3 hk.l1 hk.l2 hk.d1 hk.d2 (p2:=f) (ch:=chP q (pr l[i])) (fun b2 hb2=>f2 _ b2 _ hb2 rfl);have hol:out.length≤1000000:=by rw [e2,yaD,List.length_take];omega
  refine⟨(((i+1:Nat):Int),out++[stpR q (runR q (fun c=>chP q (pr c)) (0,0,false) (l.take i)) l[i] (chP q (pr l[i]))],b2),?_,rfl,hi,?_,?_⟩
  ·rw [y5k,if_pos (ct_lt hi),ya hi,yOb,f1,yOb,w1,yOb,if_neg (by simp),yo (by simp;omega),yOb,nxt (by omega)]
  ·rw [List.take_succ_eq_append_getElem hi,ybD,e2]
  ·dsimp only;rw [List.take_succ_eq_append_getElem hi,yg6];exact w2) (fun s ⟨e1,_,e2,e3⟩=>by
  obtain⟨j,out,b1⟩:=s;dsimp only at e1 e2 e3;subst e1;exact⟨_,by rw [y5k,if_neg ct_ge],by rw [e2,List.take_length]⟩) (Nat.zero_le _) (0,[],b) ⟨rfl,Nat.zero_le _,rfl,g2⟩
 rw [y5p,g1,yOb,if_neg (by simp)];dsimp only;rw [yOb,h1,yOb,h2]
theorem yi0(h:SimOk q n1 n2){c:CycT}(hc:c.2.2= -1∨c.2.2∉q.2.2):∃f,y6i c=some f∧∀(m:RunT) (b:BenT) (s:StpT),BenOk q n2 b m→s.2.2.1=enR q m.2.1→f (yl (some b) s)=some (chP q [c.2.2] m):=by
 refine⟨_,rfl,fun m b s hb hs=>?_⟩;rw [y4Y,chP,List.find?_cons];by_cases h1:c.2.2= -1
 ·rw [h1,if_neg (by simp),yOb,if_neg (by simp)];cases hp:perm q m (-1) with
  | true=>have:=(ycN h.rP hp).1;omega
  | false=>rfl
 ·rw [if_pos (by simpa using h1),yl,yOb,hs,yg8 h hb (hc.resolve_left h1),yOb,yOb,yOb];cases perm q m c.2.2 <;> rfl
theorem yi1(h:SimOk q n1 n2){pr:List Int}(hl:pr.length≤1000000)(hc:∀e∈pr,e∉q.2.2)(c:CycT):∃f,y2D pr c=some f∧∀(m:RunT) (b:BenT) (s:StpT),BenOk q n2 b m→s.2.2.1=enR q m.2.1→f (yl (some b) s)=some (chP q pr m):=by
 refine⟨_,rfl,fun m b s hb hs=>?_⟩;obtain⟨o,h1,h2⟩:=ye (f:=y3i pr (yl (some b) s)) (fun i s=>s=(i:Int)∧pr.find? (perm q m)=(pr.drop i).find? (perm q m)) (fun o=>(o= .inl ()∧pr.find? (perm q m)=none)∨∃(i:Nat) (h:i<pr.length),o= .inr (i:Int)∧pr.find? (perm q m)=some pr[i]) pr.length 0 (by omega) (fun i st hi ⟨e1,e2⟩=>by
  subst e1;rw [List.drop_eq_getElem_cons hi,List.find?_cons] at e2;have hmay:yl (some b) s pr[i]=some (perm q m pr[i]):=by
   rw [yl,yOb,hs,yg8 h hb (hc _ (List.getElem_mem hi)),yOb]
  rw [y3i,if_pos (ct_lt hi),ya hi,yOb,hmay,yOb];cases hp:perm q m pr[i] with
  | true=>
   rw [hp] at e2;exact .inr ⟨_,by rw [if_pos rfl],.inr ⟨i,hi,rfl,e2⟩⟩
  | false=>
   rw [hp] at e2;exact .inl ⟨_,by rw [if_neg (by simp),nxt (by omega)],rfl,e2⟩) (fun st ⟨e1,e2⟩=>by
  subst e1;rw [List.drop_length] at e2;exact⟨_,by rw [y3i,if_neg ct_ge],.inl ⟨rfl,e2⟩⟩) (Nat.zero_le _) 0 ⟨rfl,rfl⟩
 rw [y2W,y4i,h1,yOb,chP];rcases h2 with ⟨rfl,g⟩|⟨i,hi,rfl,g⟩
 ·rw [g];rfl
 ·rw [g];dsimp only;rw [yOb,if_pos (by simp),ya hi,yOb];rfl
end
def evE(al u:List Int):List Int→List Int→Int
 | _,[]=>0
 | d,e::l=>if hasB al e=false then 9 else if hasB u e=false then 13 else if hasB d e=true then 8 else evE al u (d++[e]) l
def evL(q:PbT)(l:List Int):Int:=if 3<l.length then 3 else evE q.1.1 q.2.2 [] l
def scE(q:PbT):List CycT→Int
 | []=>0
 | c::l=>if evL q c.1≠0 then evL q c.1 else if evL q c.2.1≠0 then evL q c.2.1 else if c.2.2= -1 then scE q l else if hasB q.1.1 c.2.2=false then 9 else if hasB q.2.2 c.2.2=true then 13 else scE q l
theorem ygc{al u:List Int}:∀{l d:List Int},evE al u d l=0↔(∀e∈l,e∈al∧e∈u∧e∉d)∧l.Nodup
 | [],d=>by simp [evE]
 | e::l,d=>by
  rw [evE,List.nodup_cons];by_cases h1:hasB al e=false
  ·rw [if_pos h1];refine⟨fun h=>by omega,fun h=>?_⟩;rw [yb.2 (h.1 e (List.mem_cons_self ..)).1] at h1;cases h1
  rw [if_neg h1];by_cases h2:hasB u e=false
  ·rw [if_pos h2];refine⟨fun h=>by omega,fun h=>?_⟩;rw [yb.2 (h.1 e (List.mem_cons_self ..)).2.1] at h2;cases h2
  rw [if_neg h2];by_cases h3:hasB d e=true
  ·rw [if_pos h3];exact⟨fun h=>by omega,fun h=>absurd (yb.1 h3) (h.1 e (List.mem_cons_self ..)).2.2⟩
  rw [if_neg h3,ygc];rw [Bool.not_eq_false,yb] at h1 h2;rw [yb] at h3;constructor
  ·intro ⟨h4,h5⟩;refine⟨fun x hx=>?_,fun hx=>?_,h5⟩
   ·rcases List.mem_cons.1 hx with rfl|hx
    ·exact ⟨h1,h2,h3⟩
    ·have:=h4 x hx;exact⟨this.1,this.2.1,fun hd=>this.2.2 (List.mem_append_left _ hd)⟩
   ·exact (h4 e hx).2.2 (List.mem_append_right _ (List.mem_singleton_self e))
  ·intro ⟨h4,h5,h6⟩;refine⟨fun x hx=>?_,h6⟩;have:=h4 x (List.mem_cons_of_mem _ hx);refine⟨this.1,this.2.1,fun hd=>?_⟩;rcases List.mem_append.1 hd with hd|hd
   ·exact this.2.2 hd
   ·rw [List.mem_singleton.1 hd] at hx;exact h5 hx
theorem yah{q:PbT}(h1:q.1.1.length≤1000000)(h2:q.2.2.length≤1000000){l:List Int}(hl:l.length≤1000000):y3A q l=some (evL q l):=by
 rw [y3A,evL];by_cases h3:3<l.length
 ·rw [if_pos (by simp;omega),if_pos h3]
 rw [if_neg (by simp;omega),if_neg h3];obtain⟨o,g1,g2⟩:=ye (f:=y2H q l) (fun i s=>s=(i:Int)∧evE q.1.1 q.2.2 [] l=evE q.1.1 q.2.2 (l.take i) (l.drop i)) (fun o=>(match o with
   | .inl _=>0
   | .inr u=>u)=evE q.1.1 q.2.2 [] l) l.length 0 (by omega) (fun i s hi ⟨e1,e2⟩=>by
  subst e1;rw [List.drop_eq_getElem_cons hi,evE] at e2;rw [y2H,if_pos (ct_lt hi),ya hi,yOb,y1P (by omega),yOb];cases ha:hasB q.1.1 l[i]
  ·rw [if_pos ha] at e2;refine .inr ⟨_,by rw [if_pos (by rfl)],?_⟩;exact e2.symm
  rw [if_neg (by simp [ha])] at e2;rw [if_neg (by simp),y1P (by omega),yOb];cases hb:hasB q.2.2 l[i]
  ·rw [if_pos hb] at e2;refine .inr ⟨_,by rw [if_pos (by rfl)],?_⟩;exact e2.symm
  rw [if_neg (by simp [hb])] at e2;rw [if_neg (by simp),ydN (by omega),yOb,y1P (by rw [List.length_take];omega),yOb];cases hc:hasB (l.take i) l[i]
  ·rw [if_neg (by simp [hc])] at e2;exact .inl ⟨_,by rw [if_neg (by simp),nxt (by omega)],rfl,by rw [e2,List.take_succ_eq_append_getElem hi]⟩
  ·rw [if_pos hc] at e2;refine .inr ⟨_,by rw [if_pos rfl],?_⟩;exact e2.symm) (fun s ⟨e1,e2⟩=>by
  subst e1;rw [List.drop_length,evE] at e2;refine⟨_,by rw [y2H,if_neg ct_ge],?_⟩;exact e2.symm) (Nat.zero_le _) 0 ⟨rfl,rfl⟩
 rw [g1,yOb,←g2];cases o <;> rfl
theorem yai{q:PbT}(h1:q.1.1.length≤1000000)(h2:q.2.2.length≤1000000){l:List CycT}(hl:l.length≤1000000)(hc:∀c∈l,c.1.length≤1000000∧c.2.1.length≤1000000){e:Int}(he:yD q=some e):
  y1y q l=some (if e≠0 then e else if 256<l.length then 3 else scE q l):=by
 rw [y1y,he,yOb];by_cases h0:e=0
 case neg=>rw [if_pos (by simpa using h0),if_pos h0]
 rw [if_neg (by simpa using h0),if_neg (show ¬e≠0 from fun h=>h h0)];by_cases h3:256<l.length
 ·rw [if_pos (by simp;omega),if_pos h3]
 rw [if_neg (by simp;omega),if_neg h3];have hin:∀c∈l,iter (y1H q c) 0=some (if evL q c.1≠0 then .inr (evL q c.1) else if evL q c.2.1≠0 then .inr (evL q c.2.1) else .inl ()):=fun c hm=>by
  obtain⟨k1,k2⟩:=hc c hm;refine y4L (n:=3) (by omega) ?_;rw [yc,y1H,if_pos (by simp),show idx [c.1,c.2.1] 0=some c.1 from rfl,yOb,yah h1 h2 k1,yOb];by_cases g1:evL q c.1=0
  case neg=>rw [if_pos (by simpa using g1),if_pos g1]
  rw [if_neg (by simpa using g1),if_neg (show ¬evL q c.1≠0 from fun h=>h g1)];dsimp only;rw [yc,y1H,show W (0+1)=1 from rfl,if_pos (by simp),show idx [c.1,c.2.1] 1=some c.2.1 from rfl,yOb,yah h1 h2 k2,yOb];by_cases g2:evL q c.2.1=0
  case neg=>rw [if_pos (by simpa using g2),if_pos g2]
  rw [if_neg (by simpa using g2),if_neg (show ¬evL q c.2.1≠0 from fun h=>h g2)];dsimp only;rw [yc,y1H,show W (1+1)=2 from rfl,if_neg (by simp)]
 obtain⟨o,g1,g2⟩:=ye (f:=y2I q l) (fun i s=>s=(i:Int)∧scE q l=scE q (l.drop i)) (fun o=>(match o with
   | .inl _=>0
   | .inr u=>u)=scE q l) l.length 0 (by omega) (fun i s hi ⟨e1,e2⟩=>by
  subst e1;rw [List.drop_eq_getElem_cons hi,scE] at e2;rw [y2I,if_pos (ct_lt hi),ya hi,yOb,hin _ (List.getElem_mem hi),yOb];by_cases k1:evL q l[i].1=0
  case neg=>
   rw [if_pos k1] at e2 ⊢;refine .inr ⟨_,rfl,?_⟩;exact e2.symm
  rw [if_neg (show ¬evL q l[i].1≠0 from fun h=>h k1)] at e2 ⊢;by_cases k2:evL q l[i].2.1=0
  case neg=>
   rw [if_pos k2] at e2 ⊢;refine .inr ⟨_,rfl,?_⟩;exact e2.symm
  rw [if_neg (show ¬evL q l[i].2.1≠0 from fun h=>h k2)] at e2 ⊢;dsimp only;by_cases k3:l[i].2.2= -1
  ·rw [if_pos k3] at e2;exact .inl ⟨_,by rw [if_pos (by simpa using k3),y1G,nxt (by omega)],rfl,e2⟩
  rw [if_neg k3] at e2;rw [if_neg (by simpa using k3),y1P (by omega),yOb];cases ha:hasB q.1.1 l[i].2.2
  ·rw [if_pos ha] at e2;refine .inr ⟨_,by rw [if_pos (by rfl)],?_⟩;exact e2.symm
  rw [if_neg (by simp [ha])] at e2;rw [if_neg (by simp),y1P (by omega),yOb];cases hb:hasB q.2.2 l[i].2.2
  ·rw [if_neg (by simp [hb])] at e2;exact .inl ⟨_,by rw [if_neg (by simp),y1G,nxt (by omega)],rfl,e2⟩
  ·rw [if_pos hb] at e2;refine .inr ⟨_,by rw [if_pos rfl],?_⟩;exact e2.symm) (fun s ⟨e1,e2⟩=>by
  subst e1;rw [List.drop_length,scE] at e2;refine⟨_,by rw [y2I,if_neg ct_ge],?_⟩;exact e2.symm) (Nat.zero_le _) 0 ⟨rfl,rfl⟩
 rw [g1,yOb,←g2];cases o <;> rfl
structure CycIn (q:PbT) (c:CycT):Prop where
 l1:c.1.length≤3
 l2:c.2.1.length≤3
 d1:c.1.Nodup
 d2:c.2.1.Nodup
 i1:∀e∈c.1,e∈q.1.1∧e∈q.2.2
 i2:∀e∈c.2.1,e∈q.1.1∧e∈q.2.2
 cm:c.2.2= -1∨(c.2.2∈q.1.1∧c.2.2∉q.2.2)
theorem CycIn.ok{q:PbT}{c:CycT}(h:CycIn q c):CycOk q c:=⟨by have:=h.l1;omega,by have:=h.l2;omega,h.d1,h.d2⟩
theorem ych{q:PbT}:∀{l:List CycT},scE q l=0↔ ∀c∈l,CycIn q c
 | []=>by simp [scE]
 | c::l=>by
  have hev:∀{w:List Int},evL q w=0↔w.length≤3∧(∀e∈w,e∈q.1.1∧e∈q.2.2)∧w.Nodup:=fun {w}=>by
   rw [evL];by_cases h:3<w.length
   ·rw [if_pos h];exact⟨fun h=>by omega,fun h=>by omega⟩
   ·rw [if_neg h,ygc];exact⟨fun g=>⟨by omega,fun e he=>⟨(g.1 e he).1,(g.1 e he).2.1⟩,g.2⟩,fun g=>⟨fun e he=>⟨(g.2.1 e he).1,(g.2.1 e he).2,List.not_mem_nil⟩,g.2.2⟩⟩
  rw [scE,List.forall_mem_cons,←ych];by_cases k1:evL q c.1=0
  case neg=>
   rw [if_pos k1];exact⟨fun h=>absurd h k1,fun h=>absurd (hev.2 ⟨h.1.l1,h.1.i1,h.1.d1⟩) k1⟩
  rw [if_neg (show ¬evL q c.1≠0 from fun h=>h k1)];by_cases k2:evL q c.2.1=0
  case neg=>
   rw [if_pos k2];exact⟨fun h=>absurd h k2,fun h=>absurd (hev.2 ⟨h.1.l2,h.1.i2,h.1.d2⟩) k2⟩
  rw [if_neg (show ¬evL q c.2.1≠0 from fun h=>h k2)];have g1:=hev.1 k1;have g2:=hev.1 k2;by_cases k3:c.2.2= -1
  ·rw [if_pos k3];exact⟨fun h=>⟨⟨g1.1,g2.1,g1.2.2,g2.2.2,g1.2.1,g2.2.1,.inl k3⟩,h⟩,fun h=>h.2⟩
  rw [if_neg k3];cases ha:hasB q.1.1 c.2.2
  ·rw [if_pos rfl];refine⟨fun h=>by omega,fun h=>?_⟩;rcases h.1.cm with h|h
   ·exact absurd h k3
   ·rw [yb.2 h.1] at ha;cases ha
  rw [if_neg (by simp)];cases hb:hasB q.2.2 c.2.2
  ·rw [if_neg (by simp)];exact⟨fun h=>⟨⟨g1.1,g2.1,g1.2.2,g2.2.2,g1.2.1,g2.2.1,.inr ⟨yb.1 ha,fun hm=>by rw [yb.2 hm] at hb;cases hb⟩⟩,h⟩,fun h=>h.2⟩
  ·rw [if_pos rfl];refine⟨fun h=>by omega,fun h=>?_⟩;rcases h.1.cm with h|h
   ·exact absurd h k3
   ·exact absurd (yb.1 hb) h.2
theorem Right.err0{a:AutT}{n:Nat}(h:Right a n):(toAut a).err=0:=by
 have h1:=h.l1;have h2:=h.l2;have h3:=h.l3;have g:=yaA (a:=toAut a) (by show(a.2.2.2.map toEd).length<_;rw [List.length_map];omega) (by show a.1.length<_;omega) (by show a.2.2.1.length<_;omega);rw [y9b,h.check] at g;exact(Option.some.inj g).symm
theorem ygd{a:AutT}{n:Nat}(h:Right a n)(hn:n≤25)(he:∀x∈a.1,0≤x∧x<5):a.2.2.2.length≤125:=by
 have hx:∀x∈a.2.2.2,0≤x.1*5+x.2.1∧x.1*5+x.2.1<((125:Nat):Int):=fun x hx=>by
  have g:=h.es x hx;have:=he _ g.2.2.2.2;omega
 have hi:Inc (a.2.2.2.map fun x=>x.1*5+x.2.1):=by
  unfold Inc;rw [List.pairwise_map];refine(List.pairwise_iff_getElem.2 fun i j hi hj hij=>?_);have g:=List.pairwise_iff_getElem.1 h.so i j hi hj hij;have g1:=he _ (h.es _ (List.getElem_mem hi)).2.2.2.2;have g2:=he _ (h.es _ (List.getElem_mem hj)).2.2.2.2;omega
 have:=y5q (lo:=0) hi (fun y hy=>by
  obtain⟨x,h1,rfl⟩:=List.mem_map.1 hy;exact hx x h1) (Int.le_refl _)
 simpa using this
theorem yge{q:PbT}{n1 n2:Nat}(h:PbOk q n1 n2)(l2:n2≤25)(he:∀x∈q.1.1,0≤x∧x<5):∃e,yD q=some e∧y5G q=some e∧(e=0→SimOk q n1 n2):=by
 obtain⟨t,p,T,k1,k2,n,ho,_⟩:=h.open;have hS:=h.rS;have hul:=Alp.len ⟨h.iu,h.ur⟩;have hal:=Alp.len ⟨hS.ali,hS.alr⟩;have hes:=ygd hS l2 fun x hx=>he x (h.sub x hx);have hsub:(cmdL q).Sublist q.2.1.1:=List.filter_sublist;have hic:Inc (cmdL q):=List.Pairwise.sublist hsub hS.ali;have hcr:∀x∈cmdL q,0≤x∧x<32:=fun x hx=>hS.alr x (hsub.subset hx);have hcl:=Alp.len ⟨hic,hcr⟩;rw [←yhZ (by omega) (by omega),yD,y7a,ho,yOb,yOb,if_neg (by simp),h.rP.nn];by_cases h0:n1=0
 ·subst h0;exact⟨12,by rw [if_pos (by rfl)],by rw [if_pos (by rfl)],fun h=>by omega⟩
 rw [if_neg (by simp;omega),ycM (by omega) (by omega)];have hsb:yX (cmdL q) q.2.1.1=some true:=by
  rw [ydd (by omega) (by omega) hic hS.ali];exact congrArg some (List.all_eq_true.2 fun x hx=>yb.2 (hsub.subset hx))
 have hse:yB 32 none (cmdL q)=0:=y6u hic hcr nofun;by_cases hz:n2=0
 ·subst hz;have:yP q.2.1 (cmdL q)=some (((0,0,0,[],[]),[],[],0),21):=by
   rw [yP,hS.check,yOb,if_neg (by simp),y9z (by omega),hse,yOb,if_neg (by simp),hsb,yOb,if_neg (by simp),if_pos (by rw [hS.nn];rfl)]
  rw [this,yOb];exact⟨21,rfl,rfl,fun h=>by omega⟩
 have hg:GenIn (toAut q.2.1) (cmdL q) n2:=⟨hS.nn,by omega,by omega,by show(q.2.1.2.2.2.map toEd).length≤256;rw [List.length_map];omega,hal,hcl,fun x hx=>by
  obtain⟨y,hy,rfl⟩:=List.mem_map.1 hx;have:=hS.es y hy;exact⟨this.1,this.2.1,this.2.2.1,this.2.2.2.1⟩⟩
 have hgen:=ye8 hg hS.l2 hS.err0 hse hsb;rw [y9b] at hgen;rw [hgen,yOb];exact⟨0,rfl,rfl,fun _=>⟨h.rP,hS,hg,hic,by omega,by omega,hgen⟩⟩
theorem yi2{x:Des26×Bool}(hd:Des26In x.1):∃q n1 n2 e,y3k x=some q∧PbOk q n1 n2∧(∀a∈q.1.1,0≤a∧a<5)∧n1≤5∧n2≤25∧yD q=some e∧y5G q=some e∧(e=0→SimOk q n1 n2):=by
 obtain⟨q,n1,n2,h1,h2,h3,h4,h5⟩:=yf8 hd x.2;obtain⟨e,g1,g2,g3⟩:=yge h2 h4 h5;refine⟨q,n1,n2,e,?_,h2,h5,h3,h4,g1,g2,g3⟩;rw [y3k,h1,yOb]
theorem yeN{q:PbT}{n:Nat}(rP:Right q.1 n)(hu:q.2.2.length≤1000000)(mk:Int)(tn:Bool):∃l,y3L q mk tn=some l∧l.length≤3∧l.Nodup∧∀e∈l,e∈q.1.1∧e∈q.2.2:=by
 have hl:=rP.l1;obtain⟨o,h1,h2⟩:=ye (f:=y2N q mk tn) (fun i s=>s.1=(i:Int)∧i≤q.1.1.length∧s.2.length≤3∧s.2.Nodup∧∀e∈s.2,e∈q.1.1.take i∧e∈q.2.2) (fun o=>o.length≤3∧o.Nodup∧∀e∈o,e∈q.1.1∧e∈q.2.2) q.1.1.length 0 (by omega) (fun i s hi ⟨e1,_,e2,e3,e4⟩=>by
  obtain⟨j,out⟩:=s;dsimp only at e1 e2 e3 e4;subst e1;by_cases h3:out.length<3
  case neg=>
   right;rw [y2N,if_neg (by simp;omega)];exact⟨_,rfl,e2,e3,fun e he=>⟨List.mem_of_mem_take (e4 e he).1,(e4 e he).2⟩⟩
  left;rw [y2N,if_pos (by simp;omega),ya hi,yOb,has55 hu,yOb];have hsub:∀e∈q.1.1.take i,e∈q.1.1.take (i+1):=fun e he=>by
   rw [List.take_succ_eq_append_getElem hi];exact List.mem_append_left _ he
  have hx:q.1.1[i]∈q.1.1.take (i+1):=by
   rw [List.take_succ_eq_append_getElem hi];exact List.mem_append_right _ (List.mem_singleton_self _)
  have hnew:q.1.1[i]∉out:=fun hm=>by
   obtain⟨k,hk,e⟩:=List.getElem_of_mem (e4 _ hm).1;rw [List.length_take] at hk;rw [List.getElem_take] at e;have:=List.pairwise_iff_getElem.1 rP.ali k i (by omega) hi (by omega);omega
  have skip:∃s',yN ((i:Int),out) out=some (.inl s')∧s'.1=((i+1:Nat):Int)∧i+1≤q.1.1.length∧s'.2.length≤3∧s'.2.Nodup∧∀e∈s'.2,e∈q.1.1.take (i+1)∧e∈q.2.2:=
   ⟨(_,out),by rw [yN,nxt (by omega)],rfl,hi,e2,e3,fun e he=>⟨hsub e (e4 e he).1,(e4 e he).2⟩⟩
  cases hb:hasB q.2.2 q.1.1[i] with
  | false=>
   rw [if_neg (by simp),yOb,if_neg (by simp)];exact skip
  | true=>
   have hu:=yb.1 hb;rw [if_pos rfl,show ng (i:Int)=some () from if_neg (by omega),yOb,yOb];split
   ·cases tn with
    | true=>
     rw [if_pos rfl,yo (by simp;omega),yOb];refine⟨(_,_),by rw [yN,nxt (by omega)],rfl,hi,by simp;omega,?_,fun e he=>?_⟩
     ·exact List.nodup_cons.2 ⟨hnew,e3⟩
     ·rcases List.mem_cons.1 he with rfl|he
      ·exact ⟨hx,hu⟩
      ·exact ⟨hsub e (e4 e he).1,(e4 e he).2⟩
    | false=>
     rw [if_neg (by simp),yo (by simp;omega),yOb];refine⟨(_,_),by rw [yN,nxt (by omega)],rfl,hi,by simp;omega,?_,fun e he=>?_⟩
     ·dsimp only;rw [List.nodup_append];exact⟨e3,by simp,fun a ha b hb e=>by rw [List.mem_singleton.1 hb] at e;rw [e] at ha;exact hnew ha⟩
     ·rcases List.mem_append.1 he with he|he
      ·exact ⟨hsub e (e4 e he).1,(e4 e he).2⟩
      ·rw [List.mem_singleton.1 he];exact⟨hx,hu⟩
   ·exact skip) (fun s ⟨e1,_,e2,e3,e4⟩=>by
  obtain⟨j,out⟩:=s;dsimp only at e1 e2 e3 e4;subst e1;rw [List.take_length] at e4;exact⟨_,by rw [y2N,if_neg (by simp)],e2,e3,e4⟩) (Nat.zero_le _) (0,[]) ⟨rfl,Nat.zero_le _,by simp,by simp,fun e he=>by cases he⟩
 exact⟨o,by rw [y3L,h1,yOb],h2⟩
theorem yhc{q:PbT}{n:Nat}(rP:Right q.1 n)(hu:q.2.2.length≤1000000){d:List (Int×Int×Int×Int)}(hd:∀x∈d,0≤x.2.2.2∧x.2.2.2<256):∃l,y2V d q=some l∧l.length≤8∧∀c∈l,CycIn q c:=by
 have hl:=rP.l1;obtain⟨o,h1,h2⟩:=ye (f:=y2m d q) (fun i s=>s.1=(i:Int)∧i≤8∧i≤d.length∧s.2.length≤i∧∀c∈s.2,CycIn q c) (fun o=>o.length≤8∧∀c∈o,CycIn q c) (min d.length 8) 0 (by omega) (fun i s hi ⟨e1,_,_,e2,e3⟩=>by
  obtain⟨j,out⟩:=s;dsimp only at e1 e2 e3;subst e1;have hi1:i<d.length:=by omega
  have hx:=hd _ (List.getElem_mem hi1);obtain⟨l1,p1,p2,p3,p4⟩:=yeN rP hu d[i].1 ((d[i].2.2.1.tmod 2)==1);obtain⟨l2,r1,r2,r3,r4⟩:=yeN rP hu d[i].2.1 (((IntKind.u8.wrap (d[i].2.2.1.tdiv 2)).tmod 2)==1);left;rw [y2m,if_pos (by simp;omega),ya hi1,yOb,yOb,p1,yOb,yOb,yOb,r1,yOb,yOb];have hfin:∀cm:Int,(cm= -1∨(cm∈q.1.1∧cm∉q.2.2))→∃s',y1n ((i:Int),out) l1 l2 cm=some (.inl s')∧s'.1=((i+1:Nat):Int)∧i+1≤8∧i+1≤d.length∧s'.2.length≤i+1∧∀c∈s'.2,CycIn q c:=fun cm hcm=>by
   rw [y1n];dsimp only;rw [yo (by simp;omega),yOb,nxt (by omega)];refine⟨_,rfl,rfl,by omega,hi1,by simp;omega,fun c hc=>?_⟩;rcases List.mem_append.1 hc with hc|hc
   ·exact e3 c hc
   ·rw [List.mem_singleton.1 hc];exact⟨p2,r2,p3,r3,p4,r4,hcm⟩
  rw [W_of (by omega) (by omega)];have hk:d[i].2.2.2.tmod 6=d[i].2.2.2 % 6:=Int.tmod_eq_emod_of_nonneg hx.1;obtain⟨k,hk2⟩:∃k:Nat,d[i].2.2.2.tmod 6=(k:Int):=⟨(d[i].2.2.2 % 6).toNat,by rw [hk];omega⟩;have hW:W d[i].2.2.2=d[i].2.2.2:=W_of (by omega) (by omega);split
  ·rename_i hlt;rw [hk2] at hlt ⊢;have hkl:k<q.1.1.length:=by simpa using hlt
   rw [ya hkl,yOb,has55 hu,yOb,y1o,hW,hk2];cases hb:hasB q.2.2 q.1.1[k] with
   | false=>
    rw [if_pos (by rfl),ya hkl,yOb];exact hfin _ (.inr ⟨List.getElem_mem hkl,fun hm=>by rw [yb.2 hm] at hb;cases hb⟩)
   | true=>
    rw [if_neg (by simp)];exact hfin _ (.inl rfl)
  ·rw [y1o,if_neg (by simp)];exact hfin _ (.inl rfl)) (fun s ⟨e1,_,_,e2,e3⟩=>by
  obtain⟨j,out⟩:=s;dsimp only at e1 e2 e3;subst e1;exact⟨_,by rw [y2m,if_neg (by simp;omega)],by omega,e3⟩) (Nat.zero_le _) (0,[]) ⟨rfl,by omega,Nat.zero_le _,by simp,fun c hc=>by cases hc⟩
 exact⟨o,by rw [y2V,h1,yOb],h2⟩
theorem yaF{q:PbT}{ch:CycT→RunT→Int}:∀{l:List CycT} {r:RunT} {s:StpR},s∈y3l q ch r l→∃r' c,c∈l∧s=stpR q r' c (ch c)
 | [],_,_,h=>by cases h
 | c::l,r,s,h=>by
  rcases List.mem_cons.1 h with rfl|h
  ·exact ⟨r,c,List.mem_cons_self ..,rfl⟩
  ·obtain ⟨r',c',h1,h2⟩:=yaF h;exact⟨r',c',List.mem_cons_of_mem _ h1,h2⟩
theorem ygf{q:PbT}{n1 n2:Nat}(h:SimOk q n1 n2){pr:CycT→List Int}{r:RunT}{l:List CycT}(hl:∀c∈l,c.1.length≤50∧c.2.1.length≤50):∀s∈y3l q (fun c=>chP q (pr c)) r l,s.1.length+s.2.1.length≤100∧s.2.2.1.length≤32∧(s.2.2.2.1= -1∨0≤s.2.2.2.1):=fun s hs=>by
 obtain⟨r',c,hc,rfl⟩:=yaF hs;have k:=hl c hc;have k1:=y9n q.1 c.1 r'.1;have k2:=y9n q.1 c.2.1 (midR q r' c).1;refine⟨?_,Nat.le_trans (List.length_filter_le _ _) h.g.ct,?_⟩
 ·show (trE q.1 c.1 r'.1).2.length+(trE q.1 c.2.1 (midR q r' c).1).2.length≤100;omega
 ·exact (yb8 q (pr c) (midR q r' c)).imp id fun g=>(ycN h.rP g.2).1
section
variable{q:PbT}{n1 n2:Nat}
theorem ygg(h1:q.1.1.length≤1000000)(h2:q.2.2.length≤1000000){l:List Int}(hl:l.length≤1000000):y1Y q l=some (priE q.1.1 q.2.2 [] l):=by
 obtain⟨o,g1,g2⟩:=ye (f:=y2n q l) (fun i s=>s=(i:Int)∧priE q.1.1 q.2.2 [] l=priE q.1.1 q.2.2 (l.take i) (l.drop i)) (fun o=>(match o with
   | .inl _=>0
   | .inr u=>u)=priE q.1.1 q.2.2 [] l) l.length 0 (by omega) (fun i s hi ⟨e1,e2⟩=>by
  subst e1;rw [List.drop_eq_getElem_cons hi,priE] at e2;rw [y2n,if_pos (ct_lt hi),ya hi,yOb,y1P (by omega),yOb];cases ha:hasB q.1.1 l[i]
  ·rw [if_pos ha] at e2;refine .inr ⟨_,by rw [if_pos (by rfl)],?_⟩;exact e2.symm
  rw [if_neg (by simp [ha])] at e2;rw [if_neg (by simp),y1P (by omega),yOb];cases hb:hasB q.2.2 l[i]
  case true=>
   rw [if_pos hb] at e2;refine .inr ⟨_,by rw [if_pos rfl],?_⟩;exact e2.symm
  rw [if_neg (by simp [hb])] at e2;rw [if_neg (by simp),ydN (by omega),yOb,y1P (by rw [List.length_take];omega),yOb];cases hc:hasB (l.take i) l[i]
  ·rw [if_neg (by simp [hc])] at e2;exact .inl ⟨_,by rw [if_neg (by simp),nxt (by omega)],rfl,by rw [e2,List.take_succ_eq_append_getElem hi]⟩
  ·rw [if_pos hc] at e2;refine .inr ⟨_,by rw [if_pos rfl],?_⟩;exact e2.symm) (fun s ⟨e1,e2⟩=>by
  subst e1;rw [List.drop_length,priE] at e2;refine⟨_,by rw [y2n,if_neg ct_ge],?_⟩;exact e2.symm) (Nat.zero_le _) 0 ⟨rfl,rfl⟩
 rw [y1Y,g1,yOb,←g2];cases o <;> rfl
theorem ydY{al u:List Int}:∀{l d:List Int},priE al u d l=0→∀e∈l,e∉u
 | e::l,d,h,x,hx=>by
  rw [priE] at h;split at h
  ·omega
  split at h
  ·omega
  rename_i h2;split at h
  ·omega
  rcases List.mem_cons.1 hx with rfl|hx
  ·exact fun hm=>h2 (yb.2 hm)
  ·exact ydY h x hx
end
def vE(q:PbT)(e:Int)(l:List CycT):Int:=if e≠0 then e else if 256<l.length then 3 else scE q l
theorem vE_ok{q:PbT}{e:Int}{l:List CycT}(h:vE q e l=0):e=0∧l.length≤256∧∀c∈l,CycIn q c:=by
 rw [vE] at h;split at h
 ·omega
 split at h
 ·omega
 ·exact ⟨by omega,by omega,ych.1 h⟩
section
variable{q:PbT}{n1 n2:Nat}{e:Int}
theorem Run_v(hu:q.2.2.length≤1000000)(hP:Right q.1 n1)(he:yD q=some e)(hs:e=0→SimOk q n1 n2){l:List CycT}(hl:l.length≤1000)(hc:∀c∈l,c.1.length≤1000000∧c.2.1.length≤1000000):
  y4x q l=some (if vE q e l≠0 then([],vE q e l) else(y3l q (fun c=>chP q [c.2.2]) (0,0,false) l,0)):=by
 rw [y4x,yai hP.l1 hu (by omega) hc he,yOb];have hv:(if e≠0 then e else if 256<l.length then 3 else scE q l)=vE q e l:=rfl;rw [hv];by_cases h1:vE q e l=0
 case neg=>rw [if_pos (by simpa using h1),if_pos h1]
 obtain⟨h0,_,hin⟩:=vE_ok h1;have hk:=hs h0;rw [if_neg (by simpa using h1),if_neg (show ¬vE q e l≠0 from fun h=>h h1),ygb hk (by omega) (fun c hc=>(hin c hc).ok) (pr:=fun c=> [c.2.2]) fun c hc=>yi0 hk ((hin c hc).cm.imp id fun g=>g.2)];rfl
theorem Aut_v(hu:q.2.2.length≤1000000)(hP:Right q.1 n1)(he:yD q=some e)(hs:e=0→SimOk q n1 n2){l:List CycT}(hl:l.length≤1000)(hc:∀c∈l,c.1.length≤1000000∧c.2.1.length≤1000000){pr:List Int}(hpl:pr.length≤1000000):
  y6k q pr l=some (if vE q e l≠0 then([],vE q e l) else if priE q.1.1 q.2.2 [] pr≠0 then([],priE q.1.1 q.2.2 [] pr) else(y3l q (fun _=>chP q pr) (0,0,false) l,0)):=by
 rw [y6k,yai hP.l1 hu (by omega) hc he,yOb];have hv:(if e≠0 then e else if 256<l.length then 3 else scE q l)=vE q e l:=rfl;rw [hv];by_cases h1:vE q e l=0
 case neg=>rw [if_pos (by simpa using h1),if_pos h1]
 obtain⟨h0,_,hin⟩:=vE_ok h1;have hk:=hs h0;rw [if_neg (by simpa using h1),if_neg (show ¬vE q e l≠0 from fun h=>h h1),ygg hP.l1 hu hpl,yOb];by_cases h2:priE q.1.1 q.2.2 [] pr=0
 case neg=>rw [if_pos (by simpa using h2),if_pos h2]
 rw [if_neg (by simpa using h2),if_neg (show ¬priE q.1.1 q.2.2 [] pr≠0 from fun h=>h h2),ygb hk (by omega) (fun c hc=>(hin c hc).ok) (pr:=fun _=>pr) fun c _=>yi1 hk hpl (ydY h2) c];rfl
end
theorem yi3(q:PbT)(pr:List Int)(l:List CycT):y5a q pr l=y6k q pr l:=rfl
def zipC(l:List CycT)(L:List StpR):List CycT:=List.zipWith (fun c s=>(c.1,c.2.1,s.2.2.2.1)) l L
theorem yil{q:PbT}{n:Nat}(hP:Right q.1 n)(pr:List Int)(m:RunT):chP q [chP q pr m] m=chP q pr m:=by
 rcases yb8 q pr m with h|⟨_,h⟩
 ·rw [h,chP,List.find?_cons];cases hp:perm q m (-1) with
  | true=>have:=(ycN hP hp).1;omega
  | false=>rfl
 ·rw [chP,List.find?_cons,h];rfl
theorem yde{q:PbT}{n:Nat}(hP:Right q.1 n)(pr:List Int):∀(l:List CycT) (r:RunT),y3l q (fun c=>chP q [c.2.2]) r (zipC l (y3l q (fun _=>chP q pr) r l))=y3l q (fun _=>chP q pr) r l
 | [],_=>rfl
 | c::l,r=>by
  have h1:chP q [chP q pr (midR q r c)] (midR q r c)=chP q pr (midR q r c):=yil hP pr _;have e1:stpR q r (c.1,c.2.1,chP q pr (midR q r c)) (chP q [chP q pr (midR q r c)])=stpR q r c (chP q pr):=by
   rw [stpR,stpR];show(_,_,_,chP q [chP q pr (midR q r c)] (midR q r c),dnR q (midR q r c) _ (chP q [chP q pr (midR q r c)] (midR q r c)),(finR q (midR q r c) _ (chP q [chP q pr (midR q r c)] (midR q r c))).2.1,(finR q (midR q r c) _ (chP q [chP q pr (midR q r c)] (midR q r c))).2.2)=_;rw [h1];rfl
  have e2:cycR q (fun c=>chP q [c.2.2]) r (c.1,c.2.1,chP q pr (midR q r c))=cycR q (fun _=>chP q pr) r c:=by
   rw [cycR,cycR];show finR q (midR q r c) _ (chP q [chP q pr (midR q r c)] (midR q r c))=_;rw [h1];rfl
  have:=yde hP pr l (cycR q (fun _=>chP q pr) r c);rw [y3l,zipC,List.zipWith_cons_cons,y3l];show stpR q r (c.1,c.2.1,chP q pr (midR q r c)) (chP q [chP q pr (midR q r c)])::y3l q (fun c=>chP q [c.2.2]) (cycR q (fun c=>chP q [c.2.2]) r (c.1,c.2.1,chP q pr (midR q r c))) _=_;rw [e1,e2];exact congrArg _ this
theorem yhd{q:PbT}{n:Nat}(hP:Right q.1 n)(hu:q.2.2.length≤1000000){t:Int}(t0:0≤t)(t1:t<256):∃pr,iter (yz t q) (0,[])=some pr∧pr.length≤1000000∧(∀e∈pr,e∈q.1.1∧e∉q.2.2)∧pr.Nodup:=by
 have hl:=hP.l1;obtain⟨T,rfl⟩:∃T:Nat,t=(T:Int):=⟨t.toNat,by omega⟩;obtain⟨o,h1,h2⟩:=ye (f:=yz (T:Int) q) (fun i s=>s.1=(i:Int)∧i≤q.1.1.length∧s.2.length≤i∧(∀e∈s.2,e∉q.2.2∧∃k,k<i∧q.1.1[(k+T) % q.1.1.length]? =some e)∧s.2.Nodup) (fun o=>o.length≤1000000∧(∀e∈o,e∈q.1.1∧e∉q.2.2)∧o.Nodup) q.1.1.length 0 (by omega) (fun i s hi ⟨e1,_,e2,e3,e4⟩=>by
  obtain⟨j,out⟩:=s;dsimp only at e1 e2 e3 e4;subst e1;have hm:(i+T) % q.1.1.length<q.1.1.length:=Nat.mod_lt _ (by omega);have hix:(W ((i:Int)+W (T:Int))).tmod (q.1.1.length:Int)=(((i+T) % q.1.1.length:Nat):Int):=by
   rw [W_nat (by omega),show(i:Int)+(T:Int)=((i+T:Nat):Int) by omega,W_nat (by omega),Int.tmod_eq_emod_of_nonneg (by omega)];rfl
  left;rw [yz,if_pos (ct_lt hi),show nz (q.1.1.length:Int)=some () from if_neg (by simp;intro h;rw [h] at hi;simp at hi),yOb];dsimp only;rw [hix,ya hm,yOb,has55 hu,yOb];have old:∀e∈out,e∉q.2.2∧∃k,k<i+1∧q.1.1[(k+T) % q.1.1.length]? =some e:=fun e he=>by
   obtain⟨g1,k,g2,g3⟩:=e3 e he;exact⟨g1,k,by omega,g3⟩
  cases hb:hasB q.2.2 q.1.1[(i+T) % q.1.1.length] with
  | true=>
   rw [if_neg (by simp)];exact⟨(_,out),by rw [yy,nxt (by omega)],rfl,hi,by dsimp only;omega,old,e4⟩
  | false=>
   rw [if_pos (by rfl),yo (by simp;omega),yOb];refine⟨(_,_),by rw [yy,nxt (by omega)],rfl,hi,by simp;omega,fun e he=>?_,?_⟩
   ·rcases List.mem_append.1 he with he|he
    ·exact old e he
    ·rw [List.mem_singleton.1 he];exact⟨(fun hx=>by rw [yb.2 hx] at hb;cases hb),i,by omega,yGe hm⟩
   ·dsimp only;rw [List.nodup_append];refine⟨e4,by simp,fun a ha b hbm e=>?_⟩;rw [List.mem_singleton.1 hbm] at e;obtain⟨_,k,g2,g3⟩:=e3 a ha;have hk:(k+T) % q.1.1.length<q.1.1.length:=Nat.mod_lt _ (by omega);rw [yGe hk,e] at g3;have g3:=Option.some.inj g3;have hd:(k+T) % q.1.1.length=(i+T) % q.1.1.length:=by
     rcases Nat.lt_trichotomy ((k+T) % q.1.1.length) ((i+T) % q.1.1.length) with h|h|h
     ·have:=List.pairwise_iff_getElem.1 hP.ali _ _ hk hm h;omega
     ·exact h
     ·have:=List.pairwise_iff_getElem.1 hP.ali _ _ hm hk h;omega
    have hs:=Nat.sub_mod_eq_zero_of_mod_eq hd.symm;rw [show i+T-(k+T)=i-k by omega,Nat.mod_eq_of_lt (by omega)] at hs;omega) (fun s ⟨e1,_,e2,e3,e4⟩=>by
  obtain⟨j,out⟩:=s;dsimp only at e1 e2 e3 e4;subst e1;exact⟨_,by rw [yz,if_neg ct_ge],by omega,fun e he=>by
   obtain⟨g1,k,_,g3⟩:=e3 e he;exact⟨List.mem_of_getElem? g3,g1⟩,e4⟩) (Nat.zero_le _) (0,[]) ⟨rfl,Nat.zero_le _,by simp,(fun e he=>by cases he),by simp⟩
 exact⟨o,h1,h2⟩
theorem yhe{l:List CycT}{L:List StpR}(hl:l.length≤1000000)(hL:L.length=l.length)(e:Int):iter (yx (L,e)) (0,l)=some (zipC l L):=by
 obtain⟨o,h1,h2⟩:=ye (f:=yx (L,e)) (fun i s=>s.1=(i:Int)∧s.2=zipC (l.take i) (L.take i)++l.drop i) (fun o=>o=zipC l L) L.length 0 (by omega) (fun i s hi ⟨e1,e2⟩=>by
  obtain⟨j,l'⟩:=s;dsimp only at e1 e2;subst e1 e2;have hil:i<l.length:=by omega
  have hz:(zipC (l.take i) (L.take i)).length=i:=by
   rw [zipC,List.length_zipWith,List.length_take,List.length_take];omega
  have hlen:(zipC (l.take i) (L.take i)++l.drop i).length=l.length:=by
   rw [List.length_append,hz,List.length_drop];omega
  left;have hat:(zipC (l.take i) (L.take i)++l.drop i)[i]'(by omega)=l[i]:=by
   rw [List.getElem_append_right (by omega)];simp [hz]
  rw [yx,if_pos (ct_lt hi),ya hi,yOb];dsimp only;rw [ya (by omega),yOb,y7T (by omega),yOb,hat,nxt (by omega)];refine⟨_,rfl,rfl,?_⟩;dsimp only;rw [List.set_append_right _ _ (by omega),hz,Nat.sub_self,List.drop_eq_getElem_cons hil,List.set_cons_zero,List.take_succ_eq_append_getElem hil,List.take_succ_eq_append_getElem hi,zipC,zipC,List.zipWith_append (by rw [List.length_take,List.length_take];omega),List.append_assoc];rfl) (fun s ⟨e1,e2⟩=>by
  obtain⟨j,l'⟩:=s;dsimp only at e1 e2;subst e1 e2;refine⟨_,by rw [yx,if_neg ct_ge],?_⟩;rw [List.take_length,hL,List.take_length,List.drop_length,List.append_nil]) (Nat.zero_le _) (0,l) ⟨rfl,rfl⟩
 rw [h1,h2]
theorem ydh{x:Des26×Bool}(hd:Des26In x.1){d:List (Int×Int×Int×Int)}(hdr:∀y∈d,0≤y.2.2.2∧y.2.2.2<256){t:Int}(t0:0≤t)(t1:t<256):y2k x d t=some true:=by
 obtain⟨q,n1,n2,e,h1,hP,_,_,_,h2,h3,hs⟩:=yi2 hd;have hul:=Alp.len ⟨hP.iu,hP.ur⟩;obtain⟨l,g1,g2,g3⟩:=yhc hP.rP (by omega) hdr;obtain⟨pr,p1,p2,p3,p4⟩:=yhd hP.rP (by omega) t0 t1;have hc:∀c∈l,c.1.length≤1000000∧c.2.1.length≤1000000:=fun c hc=>by
  have:=(g3 c hc).l1;have:=(g3 c hc).l2;omega
 rw [y2k,yhX,yOb,if_neg (by simp),h1,yOb,p1,yOb,g1,yOb,yi3,Aut_v (by omega) hP.rP h2 hs (by omega) hc p2,yOb];by_cases h0:e=0
 case neg=>
  have hv:vE q e l=e:=by rw [vE,if_pos h0]
  rw [hv,if_pos h0,if_pos (by simpa using h0),h2,yOb];simp
 have hk:=hs h0;have hv:vE q e l=0:=by rw [vE,if_neg (show ¬e≠0 from fun h=>h h0),if_neg (by omega),ych.2 g3]
 have hpr:priE q.1.1 q.2.2 [] pr=0:=yeK (fun e he=>⟨(p3 e he).1,(p3 e he).2,List.not_mem_nil⟩) p4;rw [hv,if_neg (show ¬(0:Int)≠0 from fun h=>h rfl),hpr,if_neg (show ¬(0:Int)≠0 from fun h=>h rfl),if_neg (by simp)];dsimp only;have hL:=yaD q (fun _=>chP q pr) l (0,0,false);rw [if_neg (by rw [hL];simp),yhe (by omega) hL,yOb];have hmem:∀c∈zipC l (y3l q (fun _=>chP q pr) (0,0,false) l),CycIn q c:=fun c hm=>by
  obtain⟨i,hi,rfl⟩:=List.getElem_of_mem hm;unfold zipC at hi ⊢;rw [List.length_zipWith] at hi;rw [List.getElem_zipWith];have hc:=g3 _ (List.getElem_mem (show i<l.length by omega));obtain⟨r',c',_,hst⟩:=yaF (List.getElem_mem (show i<(y3l q (fun _=>chP q pr) (0,0,false) l).length by omega));refine⟨hc.l1,hc.l2,hc.d1,hc.d2,hc.i1,hc.i2,?_⟩;dsimp only;rw [hst];exact(yb8 q pr (midR q r' c')).imp id fun g=>p3 _ g.1
 have hzl:(zipC l (y3l q (fun _=>chP q pr) (0,0,false) l)).length=l.length:=by
  rw [zipC,List.length_zipWith,hL,Nat.min_self]
 have hv2:vE q e (zipC l (y3l q (fun _=>chP q pr) (0,0,false) l))=0:=by rw [vE,if_neg (show ¬e≠0 from fun h=>h h0),if_neg (by omega),ych.2 hmem]
 rw [Run_v (by omega) hP.rP h2 hs (by omega) (fun c hm=>by have:=(hmem c hm).l1;have:=(hmem c hm).l2;omega),yOb,hv2,if_neg (show ¬(0:Int)≠0 from fun h=>h rfl),if_pos (by rfl),yde hP.rP];dsimp only;have hf:=ygf hk (pr:=fun _=>pr) (r:=(0,0,false)) (l:=l) (fun c hm=>by have:=(g3 c hm).l1;have:=(g3 c hm).l2;omega);rw [yg7 (by omega) (fun s hm=>by have:=hf s hm;omega)];rfl
end Go.Proofs.YtecmobjeeonmaaaGreatDoor
namespace Go.Proofs.YtecmobjeeonmaaaGreatDoor
open Go Go.RowKit Go.ChangeShapes Go.WideShapes Go.Deep
def Op(P:Program){α:Type}(r:Rep α)(Q:α→Prop)(t:TypeId):Prop:=
 ∀(H:Type) (enc:TypeId×Value→H) (w:World) (fuel:Nat) (cs:List Value) (x:DataW H×List MemPlace),DataW.trod enc P w 0 (fun _=>true) true fuel t cs=some x→∃y:α,r.rd ⟨w,fun _=>0⟩ cs y∧Q y
section
variable{P:Program}{α β:Type}{r:Rep α}{q:Rep β}{Q:α→Prop}{R:β→Prop}{t e:TypeId}
theorem Op.int{k:IntKind}(ht:P.underlying t=some (.int k)):Op P (rK k) (fun n=>k.min≤n∧n≤k.max) t:=by
 intro H enc w fuel cs x h;obtain⟨n,h1,h2,h3⟩:=DataW.trod_int ht h;refine⟨n,h1,?_⟩;simpa [Lit.wf] using h3
theorem Op.bool(ht:P.underlying t=some .bool):Op P rB (fun _=>True) t:=by
 intro H enc w fuel cs x h;obtain⟨b,h1,h2⟩:=DataW.trod_bool ht h;exact⟨b,h1,trivial⟩
theorem yhf{H:Type}{enc:TypeId×Value→H}{w:World}{base fuel:Nat}{v:Value}{x:DataW H×List MemPlace}(ht:P.underlying t=some (.slice e))(hc:P.cellsOf e=r.sz)(ho:Op P r Q e)(hok:Cell.okWide P w .any base t v)
  (h:DataW.trod enc P w 0 (fun _=>true) true fuel t [v]=some x):∃(a:Option Addr) (c:Nat) (xs:List α),v= .slice a xs.length c∧RdL r ⟨w,fun _=>0⟩ a c xs∧∀y∈xs,Q y:=by
 rcases open_slice ht h with ⟨h1,-⟩|⟨a,len,cap,m,n,D,Pl,h1,-,h3,h4,h5,-,h7⟩
 ·rw [List.cons.injEq] at h1;refine⟨none,0,[],h1.1,⟨[],⟨by simp,by simp,by simp,fun _=>rfl,fun ad e=>(by cases e),fun ad e=>(by cases e)⟩,fun ad e=>(by cases e),rfl⟩,fun y hy=>(by cases hy)⟩
 ·rw [List.cons.injEq] at h1;have hv:=h1.1;subst hv;rw [if_pos rfl] at h5;subst h5;have hsp:a.spot=none:=by
   simp only [Cell.okWide,ht,Cell.ok] at hok;exact hok.2.2.2.1
  have hadd:∀k,a.add k=⟨a.block,a.off+k,none⟩:=fun k=>by
   obtain⟨b,o,sp⟩:=a;dsimp only at hsp;subst hsp;unfold Addr.add;split
   ·rename_i hk;subst hk;rfl
   ·rfl
  have key:∀k,k≤len→∃(xs:List α) (cs:List Value),xs.length=k∧Cells r ⟨w,fun _=>0⟩ cs xs∧(∀y∈xs,Q y)∧∀j (hj:j<cs.length),w.cell? ⟨a.block,a.off+j,none⟩=some cs[j]:=by
   intro k
   induction k with
   | zero=>intro _;exact⟨[],[],rfl,rfl,fun y hy=>(by cases hy),fun j hj=>absurd hj (Nat.not_lt_zero _)⟩
   | succ k ih=>
    intro hk;obtain⟨xs,cs,g1,g2,g3,g4⟩:=ih (by omega);obtain⟨cs',k1,k2⟩:=h7 k (by omega);obtain⟨y,k3,k4⟩:=ho H enc w n cs' _ k2;obtain⟨-,k5,k6⟩:=World.cells?_some k1;have hl:=g2.len;rw [g1] at hl;rw [hc] at k5 k6;refine⟨xs++[y],cs++cs',by simp [g1],g2.append ⟨cs',[],by simp,k3,rfl⟩,fun z hz=>?_,fun j hj=>?_⟩
    ·rcases List.mem_append.1 hz with hz|hz
     ·exact g3 z hz
     ·rw [List.mem_singleton.1 hz];exact k4
    ·by_cases hlt:j<cs.length
     ·rw [List.getElem_append_left hlt];exact g4 j hlt
     ·have hj2:j-cs.length<cs'.length:=by rw [List.length_append] at hj;omega
      rw [List.getElem_append_right (by omega)];have:=k6 (j-cs.length) (by omega);rw [add_add,hadd,yGe hj2] at this;rw [←this];congr 2;omega
  obtain⟨xs,cs,g1,g2,g3,g4⟩:=key len (Nat.le_refl _);subst g1;refine⟨some a,m,xs,rfl,⟨cs,⟨g2.len,h3,h4,fun e=>(by cases e),fun ad e=>(by cases e;exact hsp),fun ad e j hj=>(by cases e;exact g4 j hj)⟩,fun _ _ _=>rfl,g2⟩,g3⟩
theorem yim{w:World}{base:Nat}{v:Value}{fs:Array Field}{ts:List TypeId}(ht:P.underlying t=some (.struct fs))(hts:P.cellTypes P.depth t=some ts)(hsz:P.cellsOf t=ts.length)(hok:Value.okWide P w .any base t v):
  ∃cs,v= .agg cs∧cs.size=ts.length∧∀(i:Nat) (u:TypeId),ts[i]? =some u→∃c:Value,cs[i]? =some c∧Cell.okWide P w .any base u c:=by
 simp only [Value.okWide,ht] at hok;obtain⟨cs,rfl,h1,ts',h2,h3,h4⟩:=hok;rw [hts] at h2;cases h2;refine⟨cs,rfl,by omega,fun i u hu=>?_⟩;have hlt:i<ts.length:=(List.getElem?_eq_some_iff.1 hu).1;obtain⟨u',g1,g2⟩:=h4 i cs[i] (Array.getElem?_eq_getElem (by omega));rw [Nat.mod_eq_of_lt hlt,hu] at g1;cases g1;exact⟨_,Array.getElem?_eq_getElem (by omega),g2⟩
theorem yaG{H:Type}{enc:TypeId×Value→H}{w:World}{fuel:Nat}{cs:List Value}{x:DataW H×List MemPlace}{fs:Array Field}(ht:P.underlying t=some (.struct fs))(h:DataW.trod enc P w 0 (fun _=>true) true fuel t cs=some x){i:Nat}{f:Field}(hf:fs[i]? =some f):
  ∃n y,DataW.trod enc P w 0 (fun _=>true) true n f.type ((cs.drop f.offset).take (P.cellsOf f.type))=some y:=by
 obtain⟨xs,n,_,_,_,h5,h6⟩:=DataW.trod_struct ht h;have hlt:=(Array.getElem?_eq_some_iff.1 hf).1;exact⟨n,xs[i]'(by omega),by rw [h6 i f hf,yGe (by omega)]⟩
end
end Go.Proofs.YtecmobjeeonmaaaGreatDoor
namespace Go.Proofs.YtecmobjeeonmaaaGreatDoor
open Go Go.ChangeShapes Go.WideShapes Go.ChangeAt Go.RowKit Go.Deep
theorem Fw.law{P:Program}{f:FuncId}{ts:List TV}(h:Fw P f ⟨0,[]⟩ ts [] (.b true) []){w:World}{vs:List Value}(ha:All3 (fun _=> .bool false) ⟨w,fun _=>0⟩ ts vs):Calls P f vs.toArray w fun e w'=>e= .returned (.bool true)∧Below w.heap.size w w':=
 Calls.mono (h.is [] (fun _=> .bool false) ⟨w,fun _=>0⟩ vs rfl (Nat.le_refl _) List.nodup_nil (fun t ht=>by cases ht) ha (fun i o h=>by simp at h)) fun e W' ⟨v,s',hw,he,hm,β',_,hv,_⟩=>by
  obtain⟨hv,_⟩:=hv;subst hw;subst hv;exact⟨he,(hm.weak (S':=No) fun t ⟨i,hi,_⟩=>by cases hi).below⟩
theorem All3.c{β:Nat→Value}{s:Sig}{x:TV}{xs:List TV}{v:Value}{us:List Value}(h:x.p β s v)(h2:All3 β s xs us):All3 β s (x::xs) (v::us):=⟨v,us,h,h2,rfl⟩
theorem yfi{α:Type}[Inhabited α]{n:Nat}{p:Nat→α→Prop}(h:∀i,i<n→∃x,p i x):∃f:Nat→α,∀i,i<n→p i (f i):=
 ⟨fun i=>if hi:i<n then Classical.choose (h i hi) else default,fun i hi=>by
  dsimp only;rw [dif_pos hi];exact Classical.choose_spec (h i hi)⟩
abbrev yin :=(Int×y1w)×(Int×y1w)×Int
def pbT :List TypeId:=[22]++List.replicate 27 5++[22]++List.replicate 27 5++[22]
section
variable{H:Type}{enc:TypeId×Value→H}{w:World}{base:Nat}{v:Value}{d:DataW H}{ps:List MemPlace}
theorem op_u8 :Op Tryz.prog (rK .u8) (fun n=>0≤n∧n<256) 5:=by
 intro H enc w fuel cs x h;obtain⟨y,h1,h2⟩:=(Op.int (P:=Tryz.prog) (k:= .u8) Tryz.underlying5) H enc w fuel cs x h;refine⟨y,h1,?_⟩;simp [IntKind.min,IntKind.max,IntKind.signed,IntKind.bits] at h2;omega
end
theorem Tryz.own :ownKnob Tryz.prog.godebug=none:=by kernel_rfl
theorem Tryz.laidOut :laidOutB Tryz.prog=true:=by kernel_rfl
section
variable{H:Type}{enc:TypeId×Value→H}
def ydZ(P:Program)(ts:List TypeId):Bool:=ts.all fun t=>P.readableRec t&&decide (t<P.types.size)
theorem yaL{P:Program}(hl:laidOutB P=true){W W':World}(hb:Below W.heap.size W W'){sp:Nat→Bool}:∀{ts:List TypeId} {vs:List Value} {ds:List (DataW H)} {ps:List MemPlace},ydZ P ts=true→
  DataW.TrodAll enc P W 0 (fun _=>true) true ts vs ds ps→(∀x∈ps,x.block<W.heap.size)→(∀x∈ps,sp x.block=true)→DataW.TrodAll enc P W' 0 sp true ts vs ds ps
 | [],[],[],_,_,h,_,_=>h
 | [],_::_,_,_,_,h,_,_=>h.elim
 | [],[],_::_,_,_,h,_,_=>h.elim
 | t::ts,[],_,_,_,h,_,_=>h.elim
 | t::ts,_::_,[],_,_,h,_,_=>h.elim
 | t::ts,v::vs,d::ds,ps,hc,⟨p,q,h1,h2,e⟩,hlt,hsp=>by
  subst e;unfold ydZ at hc;rw [List.all_cons,Bool.and_eq_true,Bool.and_eq_true] at hc;exact⟨p,q,WideElems.Trod_stays hl hc.1.1 (of_decide_eq_true hc.1.2) h1 (fun x hx=>hb.same (hlt x (List.mem_append_left _ hx))) (fun x hx=>hsp x (List.mem_append_left _ hx)),
   yaL hl hb hc.2 h2 (fun x hx=>hlt x (List.mem_append_right _ hx)) (fun x hx=>hsp x (List.mem_append_right _ hx)),rfl⟩
theorem yhg{P:Program}(hl:laidOutB P=true){f:Func}{s:ChangeSpec}{apart fresh handsOn again:Bool}{W W':World}{args:Array Value}{ds:List (DataW H)}{before:List MemPlace}{tb:TypeId}{b:Bool}
  (hW:DataW.Whole enc P f.params.toList s.vars apart W args.toList ds [] before) (hv:s.vars= []) (hc:ydZ P f.params.toList=true) (hrt:f.resultTypes= #[tb]) (ht:P.underlying tb=some .bool)
  (hr:(s.fn H (ds++[])).results= [.lit (.bool b)]) (ha:(s.fn H (ds++[])).args=ds) (hvn:(s.fn H (ds++[])).vars= []) (hb:Below W.heap.size W W'):
  s.post enc P f apart fresh handsOn again W args (.bool b) W':=by
 have hlt:∀p∈before,p.block<W.heap.size:=fun p hp=>hW.lt p hp;have hWc:=hW;obtain⟨p,q,hA,hV,rfl,hz,hn⟩:=hWc;rw [hv] at hV;obtain⟨-,rfl⟩:=trodVars_none hV;rw [List.append_nil] at hlt hz hn;have hargs:∀sp:Nat→Bool,(∀x∈p,sp x.block=true)→DataW.TrodAll enc P W' 0 sp true f.params.toList args.toList (s.fn H (ds++[])).args p:=fun sp hsp=>by
  rw [ha];exact yaL hl hb hc hA hlt hsp
 have hres:∀(b0:Nat) (sp:Nat→Bool) (hd:Bool),DataW.TrodAll enc P W' b0 sp hd f.resultTypes.toList ((Value.bool b).resultList f.resultTypes.size) (s.fn H (ds++[])).results []:=fun _ _ _=>by
  rw [hr,hrt];exact trodAll_mk1 (shut_bool ht b)
 have hvars:∀sp:Nat→Bool,DataW.TrodVars enc P W' sp s.vars (s.fn H (ds++[])).vars []:=fun sp=>by rw [hv,hvn];rfl
 have hold:∀x∈p,(fun b=>decide (b<W.heap.size)) x.block=true:=fun x hx=>by simpa using hlt x hx
 refine⟨ds,[],p++[],[],p,[],hW,hres _ _ _,hargs _ hold,hvars _,World.keptBut_mono (fun x hx=>?_) (hb.frame (· ∈p)),fun _=>?_⟩
 ·exact ⟨by rwa [List.append_nil],Or.inr (.inl hx)⟩
 ·have hok:=ok_one (f:=f) (W':=W') (by rw [hrt]) rfl (okWide_bool_mk (W':=W') ht b);refine⟨hok,_,_,([]++p)++[],⟨[]++p,[],trodAll_append (hargs _ (fun _ _=>rfl)) (hres _ _ _),hvars _,rfl,?_,?_⟩,?_⟩
  ·intro b0 off hp;have hin:MemPlace.cell b0 off∈p:=by simpa using hp
   rw [hb.frozen (hlt _ hin)];exact hz b0 off hin
  ·intro hap;simpa using hn hap
  ·intro x hx _;simpa using hx
end
/-- A cell of a byte. -/
theorem yi4{w:World}{r:Reach}{base:Nat}{v:Value}(h:Cell.okWide Tryz.prog w r base 5 v):∃n:Int,v= .int .u8 n∧0≤n∧n<256:=by
 simp only [Cell.okWide,Tryz.underlying5] at h;cases v <;> simp_all [Cell.ok];rename_i k n;obtain⟨rfl,h2⟩:=h;simp [IntKind.has,IntKind.min,IntKind.max,IntKind.signed,IntKind.bits] at h2;omega
def lay24 : List (String × DataW Unit) := [("math/bits.deBruijn32tab", Rows.laid_math_bits_deBruijn32tab), ("math/bits.deBruijn64tab", Rows.laid_math_bits_deBruijn64tab), ("internal/strconv.uint64pow10", Rows.laid_internal_strconv_uint64pow10)]
theorem ygh(os:Os)(args:Array Value):laidMetH Tryz.prog lay24 ((World.laidAll Tryz.prog os lay24).forCall (fun _ _=>0) ⟨#[],args,[]⟩).memory:=
 laidMetH_of_parts3 (fuel:=8) (laidMet_laidAll args (by kernel_rfl) (by kernel_rfl)) (by kernel_rfl) (by kernel_rfl)
theorem yhh :Tryz.prog.cellTypes Tryz.prog.depth 84=some (pbT++[4]):=by kernel_rfl
theorem yhi :Tryz.prog.cellsOf 84=(pbT++[4]).length:=by kernel_rfl
section
variable{H:Type}{enc:TypeId×Value→H}{w:World}{base:Nat}{v:Value}{d:DataW H}{ps:List MemPlace}
theorem yhj(hok:Value.okWide Tryz.prog w .any base 84 v):∃x:yin×Bool,GrIn x.1.1.2∧GrIn x.1.2.1.2∧∀β s,(TV.a (lx84 x)).p β s v:=by
 obtain⟨cs,rfl,h1,h2⟩:=yim Tryz.underlying84 yhh yhi hok;have h1':cs.size=58:=h1;obtain⟨f,hf⟩:=yfi (α:=Int) (n:=57) (p:=fun i n=>cs[i]? =some (.int .u8 n)∧0≤n∧n<256) (fun i hi=>by
  obtain⟨u,hu,hu2⟩:∃u,pbT[i]? =some u∧(u=22∨u=5):=by
   refine⟨pbT[i]'hi,yGe (l:=pbT) hi,?_⟩;have:=List.getElem_mem (l:=pbT) hi;generalize pbT[i]'hi=u at this;simp only [pbT,List.mem_append,List.mem_singleton,List.mem_replicate] at this;rcases this with (((h|h)|h)|h)|h
   ·exact .inl h
   ·exact .inr h.2
   ·exact .inl h
   ·exact .inr h.2
   ·exact .inl h
  obtain⟨c,g1,g2⟩:=h2 i u (by rw [List.getElem?_append_left hi];exact hu);have g2':Cell.okWide Tryz.prog w .any base 5 c:=by
   rcases hu2 with rfl|rfl
   ·simp only [Cell.okWide,Cell.ok,Tryz.underlying22,Tryz.underlying5] at g2 ⊢;exact g2
   ·exact g2
  obtain⟨n,rfl,g3⟩:∃n:Int,c= .int .u8 n∧0≤n∧n<256:=by
   simp only [Cell.okWide,Tryz.underlying5] at g2';cases c <;> simp_all [Cell.ok];rename_i k n;obtain⟨rfl,h2⟩:=g2';simp [IntKind.has,IntKind.min,IntKind.max,IntKind.signed,IntKind.bits] at h2;omega
  exact⟨n,g1,g3⟩)
 obtain⟨b,hb⟩:∃b,cs[57]? =some (.bool b):=by
  obtain⟨c,g1,g2⟩:=h2 57 4 rfl;simp only [Cell.okWide,Tryz.underlying4] at g2;cases c <;> simp_all [Cell.ok]
 have hcs:cs=((List.range 57).map (fun i=>Value.int .u8 (f i))++[Value.bool b]).toArray:=by
  apply Array.ext_getElem?;intro i;by_cases hi:i<57
  ·rw [(hf i hi).1,List.getElem?_toArray,List.getElem?_append_left (by simpa using hi)];simp [hi]
  ·by_cases hi2:i=57
   ·subst hi2;rw [hb];rfl
   ·rw [Array.getElem?_eq_none (by omega),Array.getElem?_eq_none (by simp;omega)]
 have gr:∀o,o+27≤57→GrIn (f o,f (o+1),((f (o+2),f (o+3),f (o+4),f (o+5),f (o+6)),(f (o+7),f (o+8),f (o+9),f (o+10),f (o+11)),(f (o+12),f (o+13),f (o+14),f (o+15),f (o+16)),(f (o+17),f (o+18),f (o+19),f (o+20),f (o+21)),(f (o+22),f (o+23),f (o+24),f (o+25),f (o+26)))):=fun o ho=>by
  refine⟨(hf o (by omega)).2,fun y hy=>?_⟩;have hy2:y∈(List.range 25).map fun i=>f (o+(i+2)):=hy;obtain⟨i,hi,rfl⟩:=List.mem_map.1 hy2;have:=List.mem_range.1 hi;exact(hf (o+(i+2)) (by omega)).2
 refine⟨(((f 0,f 1,f 2,((f 3,f 4,f 5,f 6,f 7),(f 8,f 9,f 10,f 11,f 12),(f 13,f 14,f 15,f 16,f 17),(f 18,f 19,f 20,f 21,f 22),(f 23,f 24,f 25,f 26,f 27))),(f 28,f 29,f 30,((f 31,f 32,f 33,f 34,f 35),(f 36,f 37,f 38,f 39,f 40),(f 41,f 42,f 43,f 44,f 45),(f 46,f 47,f 48,f 49,f 50),(f 51,f 52,f 53,f 54,f 55))),f 56),b),gr 1 (by omega),gr 29 (by omega),fun β s=>?_⟩;refine⟨(List.range 57).map (fun i=>Value.int .u8 (f i))++[Value.bool b],?_,by rw [hcs]⟩;exact y9Y (cs:=(List.range 57).map (fun i=>Value.int .u8 (f i))++[Value.bool b]) (List.all_eq_true.2 fun x hx=>by
  rcases List.mem_append.1 hx with hx|hx
  ·obtain ⟨i,_,rfl⟩:=List.mem_map.1 hx;rfl
  ·rw [List.mem_singleton.1 hx];rfl)
end
theorem Op.struct4{α β γ δ:Type}{r:Rep α}{q:Rep β}{u:Rep γ}{z:Rep δ}{Q:α→Prop}{R:β→Prop}{U:γ→Prop}{Z':δ→Prop}{P:Program}{t:TypeId}{f0 f1 f2 f3:Field}(ht:P.underlying t=some (.struct #[f0,f1,f2,f3]))(h0:Op P r Q f0.type)(h1:Op P q R f1.type)(h2:Op P u U f2.type)(h3:Op P z Z' f3.type)(o0:f0.offset=0)(o1:f1.offset=r.sz)(o2:f2.offset=r.sz+q.sz)(o3:f3.offset=r.sz+q.sz+u.sz)
  (c0:P.cellsOf f0.type=r.sz) (c1:P.cellsOf f1.type=q.sz) (c2:P.cellsOf f2.type=u.sz) (c3:P.cellsOf f3.type=z.sz) (c:P.cellsOf t=r.sz+q.sz+u.sz+z.sz):Op P (rP r (rP q (rP u z))) (fun y=>Q y.1∧R y.2.1∧U y.2.2.1∧Z' y.2.2.2) t:=by
 intro H enc w fuel cs x h;obtain⟨xs,n,_,_,hl,h5,h6⟩:=DataW.trod_struct ht h;obtain⟨n0,x0,g0⟩:=yaG (i:=0) (f:=f0) ht h rfl;obtain⟨n1,x1,g1⟩:=yaG (i:=1) (f:=f1) ht h rfl;obtain⟨n2,x2,g2⟩:=yaG (i:=2) (f:=f2) ht h rfl;obtain⟨n3,x3,g3⟩:=yaG (i:=3) (f:=f3) ht h rfl;obtain⟨y0,a0,b0⟩:=h0 _ _ _ _ _ _ g0;obtain⟨y1,a1,b1⟩:=h1 _ _ _ _ _ _ g1;obtain⟨y2,a2,b2⟩:=h2 _ _ _ _ _ _ g2;obtain⟨y3,a3,b3⟩:=h3 _ _ _ _ _ _ g3;rw [o0,c0] at a0;rw [o1,c1] at a1;rw [o2,c2] at a2;rw [o3,c3] at a3;refine⟨(y0,y1,y2,y3),⟨_,_,?_,a0,_,_,rfl,a1,_,_,rfl,a2,a3⟩,b0,b1,b2,b3⟩;have e3:((cs.drop (r.sz+q.sz+u.sz)).take z.sz)=cs.drop (r.sz+q.sz+u.sz):=List.take_of_length_le (by rw [List.length_drop];omega);rw [e3,List.drop_zero,show cs.drop (r.sz+q.sz+u.sz)=((cs.drop r.sz).drop q.sz).drop u.sz by simp [List.drop_drop,Nat.add_assoc],show cs.drop (r.sz+q.sz)=(cs.drop r.sz).drop q.sz by simp [List.drop_drop],List.take_append_drop,List.take_append_drop,List.take_append_drop]
section
variable{H:Type}{enc:TypeId×Value→H}{w:World}{base:Nat}{v:Value}{d:DataW H}{ps:List MemPlace}
/-- A draft. -/
theorem ygi(hok:Value.okWide Tryz.prog w .any base 86 v)(h:DataW.Trod enc Tryz.prog w 0 (fun _=>true) true 86 v d ps):∃xs:List (Int×Int×Int×Int),(∀y∈xs,0≤y.2.2.2∧y.2.2.2<256)∧∀β,(TV.f (rP (rK .u8) (rP (rK .u8) (rP (rK .u8) (rK .u8)))) xs).p β ⟨w,fun _=>0⟩ v:=by
 obtain⟨fuel,hf⟩:=h;simp only [Value.okWide,Tryz.underlying86] at hok;have hv:v.cells.toList= [v]:=by
  simp only [Cell.okWide,Tryz.underlying86] at hok;cases v <;> simp_all [Cell.ok,Value.cells]
 rw [hv] at hf;obtain⟨a,c,xs,rfl,h1,h2⟩:=yhf Tryz.underlying86 (by kernel_rfl) (Op.struct4 Tryz.underlying209 op_u8 op_u8 op_u8 op_u8 rfl rfl rfl rfl (by kernel_rfl) (by kernel_rfl) (by kernel_rfl) (by kernel_rfl) (by kernel_rfl)) hok hf;exact⟨xs,fun y hy=>(h2 y hy).2.2.2,fun β=>⟨a,c,rfl,h1⟩⟩
end
theorem y8U(os:Os)(started:os.Started)(H:Type)(enc:TypeId×Value→H):
  ReturnsInHanded {} Tryz.checked os 12 .any (fun w args=>(Rows.simulationAutomaticSpec.pre enc Tryz.prog Tryz.f12 [] false w args∧laidMetH Tryz.prog lay24 w)∧sizedMet enc Tryz.prog Tryz.f12 (OpenSpec.ofChange Rows.simulationAutomaticSpec) false w args) (Rows.simulationAutomaticSpec.post enc Tryz.prog Tryz.f12 false true false false):=by
 refine returnsInHanded_of_change_and (C:=Tryz.checked) (X:=fun w _=>laidMetH Tryz.prog lay24 w) (fun _ _ _ hh h=>h.of_heap hh) Tryz.own started (by kernel_rfl) Tryz.func12
  (ChangeSpec.witness_shaped (enc:=enc) (C:=Tryz.checked) (os:=os) (X:=fun w _=>laidMetH Tryz.prog lay24 w) false (World.laidAll Tryz.prog os lay24) #[.agg (Array.replicate 57 (.int .u8 0) ++ #[.bool false]),.slice none 0 0,.int .u8 0] 8 (World.laidAll_os _ _ _) (World.shaped_of_ZipB (by kernel_rfl) (by kernel_rfl)) (by kernel_rfl) (by kernel_rfl) (by kernel_rfl) (ygh os _)) ?_
 intro W base args ds gs before hval0 hW _ _ _ _;have hval:∀(j:Nat) t v,Tryz.f12.params[j]? =some t→args[j]? =some v→Value.okWide Tryz.prog W .any base t v:=hval0;have hW':=hW;obtain⟨p,q,hA0,hV,rfl,hfz,hnd⟩:=hW;have hA:DataW.TrodAll enc Tryz.prog W 0 (fun _=>true) true Tryz.f12.params.toList args.toList ds p:=hA0;rw [Tryz.params12] at hA hval;obtain⟨v0,v1,v2,d0,d1,d2,p0,p1,p2,rfl,rfl,rfl,h0,h1,h2⟩:=trodAll_three hA;obtain⟨x,g1,g2,r0⟩:=yhj (hval 0 84 v0 rfl rfl);obtain⟨y,hd,r1⟩:=ygi (hval 1 86 v1 rfl rfl) h1;have u2:=hval 2 5 v2 rfl rfl;simp only [Value.okWide,Tryz.underlying5] at u2;obtain⟨m,rfl,m0,m1⟩:=yi4 u2;obtain⟨rfl,rfl⟩:=trodVars_none hV;clear hA0 hval0;refine Calls.mono ((y6Q (ydh (x:=x) ⟨g1,g2⟩ hd m0 m1)).law (All3.c (r0 _ _) (All3.c (r1 _) (All3.c ⟨rfl,rfl⟩ rfl)))) fun e W' ⟨he,hbl⟩=>?_;subst he;exact⟨_,rfl,yhg Tryz.laidOut hW' rfl (by kernel_rfl) (by kernel_rfl) Tryz.underlying4 rfl rfl rfl hbl⟩
end Go.Proofs.YtecmobjeeonmaaaGreatDoor
namespace Go.Proofs.YtecmobjeeonmaaaGreatDoor
open Go Go.RowKit
set_option maxRecDepth 100000
theorem yi5 :Tryz.prog.stopsHeard=true:=by kernel_rfl
theorem yi6 :Tryz.prog.mayEnter=true:=by kernel_rfl
theorem yi7 :(laidOutB Tryz.prog&&mapsRowed Tryz.prog)=true:=by kernel_rfl
theorem yi8 :(Tryz.prog.stops==[])=true:=by kernel_rfl
theorem yhk :(Tryz.prog.stopKnobs==[])=true:=by kernel_rfl
theorem yhl :false=Tryz.prog.looks []:=by kernel_rfl
end Go.Proofs.YtecmobjeeonmaaaGreatDoor
namespace Go.Proofs.YtecmobjeeonmaaaGreatDoor
open Go Go.ChangeShapes Go.WideShapes Go.ChangeAt Go.RowKit Go.Deep
theorem y9P :(Rows.simulationAutomaticRow.inPlace==Tryz.prog.inPlace 12)=true:=by kernel_rfl
theorem y9Q :(Rows.simulationAutomaticRow.unfollowed==Tryz.prog.unfollowed 12)=true:=by kernel_rfl
theorem y9R :(Rows.simulationAutomaticRow.recurses==Tryz.prog.recurses 12)=true:=by kernel_rfl
theorem y9S :(Rows.simulationAutomaticRow.named==Tryz.prog.varsNamed 12)=true:=by kernel_rfl
theorem y9T :(Rows.simulationAutomaticRow.lifted==Tryz.prog.liftsFinal)=true:=by kernel_rfl
theorem y8V :joinedFacts Tryz.prog 12 Tryz.f12 Rows.simulationAutomaticSpec Rows.simulationAutomaticRow=true:=by
 have h8:=yi7;rw [Bool.and_eq_true] at h8;unfold joinedFacts;rw [h8.1,h8.2,y9P,y9Q,y9R,y9S,y9T,yi5,yi6,yi8,yhk];change (_:Bool)=true;kernel_rfl
theorem y9f :Rows.SimulationAutomaticSaid:=
 OpenClaim.holds_of_wide 12 Tryz.f12 rfl rfl rfl rfl rfl rfl rfl ⟨rfl,rfl,rfl,rfl,rfl⟩ rfl rfl rfl rfl rfl (by kernel_rfl) Tryz.func12 y8V
  (of_decide_eq_true (by kernel_rfl)) (by unfold Func.isWrapper;first | (rw [if_pos (by decide +kernel)];kernel_rfl)|(rw [if_neg (by decide +kernel)];exact⟨rfl,rfl⟩))
  (fun os started H enc _=>y8U os started H enc)
theorem simulationAutomatic_k12 :false=Rows.simulationAutomaticRow.goesBy Tryz.prog:=by kernel_rfl
theorem simulationAutomatic_k13 : Tryz.prog.funcNamed "overseer/overseerlaw55.SimulationAutomatic" = some 12 := by kernel_rfl
theorem simulationAutomatic_k14 :(Tryz.f12.params.toList.all fun u=>!(Tryz.prog.wantsStandIn u))=true:=by kernel_rfl
theorem simulationAutomatic_k15 :Rows.simulationAutomaticRow.wfByText (OpenSpec.ofChange Rows.simulationAutomaticSpec)=true:=by kernel_rfl
theorem simulationAutomatic_card_holds :Rows.SimulationAutomaticCardSaid:=
 Claim7.holds_tied_plain_at .later [] [.data,.data,.data] true _ false
  y9f (fun _ h=>by cases h) simulationAutomatic_k15 (fun _ h=>by cases h) simulationAutomatic_row_tie rfl ⟨rfl,rfl⟩ (by kernel_rfl) rfl
  (fun f fn hf hfn=>by
   obtain rfl:f=12:=Option.some.inj (simulationAutomatic_k13.symm.trans hf) |>.symm;obtain rfl:fn=Tryz.f12:=(Option.some.inj (Tryz.func12.symm.trans hfn)).symm;exact⟨yhl,fun j t ht=>by
    have hm:t∈Tryz.f12.params:=Array.mem_of_getElem? ht;exact(show Tryz.prog.wantsStandIn t=false by simpa using List.all_eq_true.1 simulationAutomatic_k14 t (Array.mem_toList_iff.2 hm))⟩)
  simulationAutomatic_k12
end Go.Proofs.YtecmobjeeonmaaaGreatDoor
