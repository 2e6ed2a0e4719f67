/- SimulationScripts returns true for all arguments, and leaves its arguments as they were. The condition: three tables of Go's library (math/bits, internal/strconv) hold what their source text lays, and the card ties this to the text. -/
import Derived.Deep.Slices
import Derived.ChangeSame
import Derived.ProofKit
import Derived.Test.YtfdeiphkmjdifaaGreatDoorProg
import Derived.Test.YtfdeiphkmjdifaaGreatDoorRows
import Derived.Test.YtfdeiphkmjdifaaGreatDoorTie
import Derived.Test.YtfdeiphkmjdifaaGreatDoorCards
import Derived.Lay
import Derived.LaidMore
import Derived.LaidHandle
import Derived.SevenTiedAt
import Derived.Stop.Joined
import Derived.Test.YtfdeiphkmjdifaaGreatDoorQs7
set_option maxRecDepth 100000
namespace Go.Proofs.YtfdeiphkmjdifaaGreatDoor
section
open Go.Proofs.Tryz Go Go.RowKit
variable{e:Int}{n2:Nat}{c:CycT}{u:LI}{n1:Nat}{x:Int}{U:LI}{y:Int}{w:LI}{i:Nat}{v:Int}
theorem ycT{S:AutT}{n:Nat}(hS:Right S n){im:LI}:e∈imL S im 32↔e∈im∧e∈S.1:=by
 unfold imL;rw [List.mem_filter,yAe,ya,ya,yMp];constructor
 ·rintro ⟨_,h⟩;exact h
 ·intro h;have:=hS.alr e h.2;exact⟨⟨e.toNat,List.mem_range.2 (by omega),by omega⟩,h⟩
theorem yev{S:AutT}{im:LI}:Inc (imL S im 32):=by
 unfold imL Inc;refine List.Pairwise.filter _ ?_;rw [List.pairwise_map];exact List.pairwise_lt_range.imp fun h=>by omega
theorem yht{b:BenT}{n:Nat}(hS:Right b.1.2.1 n){l:LI}(hl:l.length≤1000000):iter (y1Q b l) (0,[])=some (l.filter (hasB b.1.2.1.1)):=by
 obtain⟨o,h1,h2⟩:=ye (f:=y1Q b l) (fun i s=>s.1=(i:Int)∧i≤l.length∧s.2=(l.take i).filter (hasB b.1.2.1.1)) (fun o=>o=l.filter (hasB b.1.2.1.1)) l.length 0 (by omega) (fun i s hi ⟨e1,_,e2⟩=>by
  obtain⟨j,out⟩:=s;dsimp only at e1 e2;subst e1;left;have hle:=List.length_filter_le (hasB b.1.2.1.1) (l.take i);rw [yLt,←e2] at hle;refine⟨(((i+1:Nat):Int),(l.take (i+1)).filter (hasB b.1.2.1.1)),?_,rfl,by omega,rfl⟩;rw [y1Q,iP (ct_lt hi),yb hi,yOb,yG (by have:=hS.l1;omega),yOb,yTs hi,List.filter_append,←e2,List.filter_cons,List.filter_nil];cases hb:hasB b.1.2.1.1 l[i] with
  | true=>rw [iP rfl,yg (by simp;omega),yOb,y1P,nxt (by omega),iP rfl]
  | false=>rw [iN (by simp),y1P,nxt (by omega),iN (by simp),List.append_nil]) (fun s ⟨e1,_,e2⟩=>by
  obtain⟨j,out⟩:=s;dsimp only at e1 e2;subst e1;exact⟨_,by rw [y1Q,iN ct_ge],by rw [e2,List.take_length]⟩) (yZl _) (0,[]) ⟨rfl,yZl _,by simp⟩
 rw [h1,h2]
theorem yjI{S:AutT}{n:Nat}(hS:Right S n){l:LI}(hn:l.Nodup):isL (l.filter (hasB S.1))=imL S l 32:=by
 refine ydr ?_ yev fun e=>?_
 ·have hp:=y6H (l.filter (hasB S.1));have hd:(isL (l.filter (hasB S.1))).Nodup:=hp.nodup_iff.2 (hn.filter _);exact(ydI _).imp₂ (fun _ _ h1 h2=>by omega) hd
 ·rw [(y6H _).mem_iff,List.mem_filter,ya,ycT hS]
theorem yhu{b:BenT}{n:Nat}{ctrl:LI}(hS:Right b.1.2.1 n)(hG:GenIn (toAut b.1.2.1) ctrl n)(ic:Inc ctrl)(hc:b.2.1=codeP (toAut b.1.2.1) ctrl n){s:Nat}{al:Bool}(hv:Shows (toAut b.1.2.1) ctrl n s al b.2.2.2){l:LI}(hl:l.length≤1000000)(hn:l.Nodup):
  ∃st',yW b l=some (0,(b.1,b.2.1,b.2.2.1,st'))∧∃(s':Nat) (al':Bool),(imL b.1.2.1 l 32).foldl (hnS b.1.2.1) ((s:Int),al)=((s':Int),al')∧Shows (toAut b.1.2.1) ctrl n s' al' st'∧
   ∀k,k<ctrl.length→st'.1.getD k false=(st1 b.1.2.1 (s':Int) (ctrl.getD k 0)).isSome:=by
 have hi:=yev (S:=b.1.2.1) (im:=l);have hr:∀x∈imL b.1.2.1 l 32,0≤x∧x<32:=fun x hx=>hS.alr x ((ycT hS).1 hx).2;have hlen:=Alp.len ⟨hi,hr⟩;obtain⟨st',g1,g2,g3⟩:=yiq hG hS.ali ic hi (by omega) (y7y hi hr nofun) (yAt.2 fun x hx=>ya.2 ((ycT hS).1 hx).2) hv;refine⟨st',?_,_,_,yeu hS _ _ _,g2,fun k hk=>?_⟩
 ·have hfl:=List.length_filter_le (hasB b.1.2.1.1) l;rw [yW,yht hS hl,yOb,y2A,iP (by omega),yOb,yjI hS hn,hc,g1,yOb,iP (by rfl),y3n,←hc]
 ·rw [g3 k hk,←yfR hS];simp
def cmdL(q:PbT):LI:=q.2.1.1.filter fun e=>!hasB q.2.2 e
theorem yg9{q:PbT}(h1:q.2.1.1.length≤1000000)(h2:q.2.2.length≤1000000):y4O q=some (cmdL q):=by
 obtain⟨o,g1,g2⟩:=ye (f:=y3C q) (fun i s=>s.1=(i:Int)∧i≤q.2.1.1.length∧s.2=(q.2.1.1.take i).filter fun e=>!hasB q.2.2 e) (fun o=>o=cmdL q) q.2.1.1.length 0 (by omega) (fun i s hi ⟨e1,_,e2⟩=>by
  obtain⟨j,out⟩:=s;dsimp only at e1 e2;subst e1;left;have hle:=List.length_filter_le (fun e=>!hasB q.2.2 e) (q.2.1.1.take i);rw [yLt,←e2] at hle;refine⟨(((i+1:Nat):Int),(q.2.1.1.take (i+1)).filter fun e=>!hasB q.2.2 e),?_,rfl,by omega,rfl⟩;rw [y3C,iP (ct_lt hi),yb hi,yOb,has55 h2,yOb,yTs hi,List.filter_append,←e2,List.filter_cons,List.filter_nil];cases hb:hasB q.2.2 q.2.1.1[i] with
  | true=>rw [iN (by simp),y2j,nxt (by omega),iN (by simp),List.append_nil]
  | false=>rw [iP (by rfl),yOb,yg (by simp;omega),yOb,y2j,nxt (by omega),iP (by rfl)]) (fun s ⟨e1,_,e2⟩=>by
  obtain⟨j,out⟩:=s;dsimp only at e1 e2;subst e1;exact⟨_,by rw [y3C,iN ct_ge],by rw [e2,List.take_length];rfl⟩) (yZl _) (0,[]) ⟨rfl,yZl _,by simp⟩
 rw [y4O,g1,yOb,g2]
theorem yew{q:PbT}(h1:q.2.1.1.length≤1000000)(h2:q.2.2.length≤1000000):y6q q=yS q.2.1 (cmdL q):=by
 obtain⟨o,g1,g2⟩:=ye (f:=y6v q) (fun i s=>s.1=(i:Int)∧i≤q.2.1.1.length∧s.2=(q.2.1.1.take i).filter fun e=>!hasB q.2.2 e) (fun o=>o=cmdL q) q.2.1.1.length 0 (by omega) (fun i s hi ⟨e1,_,e2⟩=>by
  obtain⟨j,out⟩:=s;dsimp only at e1 e2;subst e1;left;have hle:=List.length_filter_le (fun e=>!hasB q.2.2 e) (q.2.1.1.take i);rw [yLt,←e2] at hle;refine⟨(((i+1:Nat):Int),(q.2.1.1.take (i+1)).filter fun e=>!hasB q.2.2 e),?_,rfl,by omega,rfl⟩;rw [y6v,iP (ct_lt hi),yb hi,yOb,yG (by omega),yOb,yTs hi,List.filter_append,←e2,List.filter_cons,List.filter_nil];cases hb:hasB q.2.2 q.2.1.1[i] with
  | true=>rw [iN (by simp),y4z,nxt (by omega),iN (by simp),List.append_nil]
  | false=>rw [iP (by rfl),yg (by simp;omega),yOb,y4z,nxt (by omega),iP (by rfl)]) (fun s ⟨e1,_,e2⟩=>by
  obtain⟨j,out⟩:=s;dsimp only at e1 e2;subst e1;exact⟨_,by rw [y6v,iN ct_ge],by rw [e2,List.take_length];rfl⟩) (yZl _) (0,[]) ⟨rfl,yZl _,by simp⟩
 rw [y6q,g1,yOb,g2];cases yS q.2.1 (cmdL q) <;> rfl
theorem ykH{q:PbT}(h1:q.2.1.1.length≤1000000)(h2:q.2.2.length≤1000000):yr q=y2S q:=by
 rw [yr,y2S,yg9 h1 h2,yOb,yew h1 h2]
def trE(P:AutT):LI→Int→Int×LI
 | [],s=>(s,[])
 | e::l,s=>match st1 P s e with
  | none=>trE P l s
  | some t=>((trE P l t).1,e::(trE P l t).2)
theorem ycx(P:AutT)(c:Int):∀(l:LI) (s:Int) (ok:Bool) (out:LI),trF P c l s ok out=((trE P l s).1,ok&&(trF P c l s true []).2.1,out++(trE P l s).2)
 | [],s,ok,out=>by simp [trF,trE]
 | e::l,s,ok,out=>by
  rw [trF,trE,trF];cases h:st1 P s e with
  | none=>exact ycx P c l s ok out
  | some t=>
   dsimp only;rw [ycx P c l t (ok&&_),ycx P c l t (true&&_),Bool.true_and,Bool.and_assoc,yAa];rfl
def aft(P:AutT)(c:Int)(l:LI)(s:Int):Bool:=(trF P c l s true []).2.1
theorem yjJ(P:AutT)(c e:Int)(l:LI)(s:Int):aft P c (e::l) s=match st1 P s e with
  | none=>aft P c l s
  | some t=>(st1 P t c).isSome&&aft P c l t:=by
 unfold aft;rw [trF];cases st1 P s e with
 | none=>rfl
 | some t=>
  dsimp only;rw [ycx,Bool.true_and]
theorem yap(P:AutT):∀(l:LI) (s:Int),(trE P l s).2.length≤l.length
 | [],_=>yNr _
 | e::l,s=>by
  rw [trE];cases st1 P s e with
  | none=>exact Nat.le_succ_of_le (yap P l s)
  | some t=>exact Nat.succ_le_succ (yap P l t)
theorem yaq(P:AutT):∀(l:LI) (s:Int),(trE P l s).2.Sublist l
 | [],_=> .slnil
 | e::l,s=>by
  rw [trE];cases st1 P s e with
  | none=>exact .cons _ (yaq P l s)
  | some t=>exact .cons_cons _ (yaq P l t)
abbrev RunT :=Int×Int×Bool
def hnL(S:AutT)(im:LI)(z:Int×Bool):Int×Bool:=(imL S im 32).foldl (hnS S) z
def midR(q:PbT)(r:RunT)(c:CycT):RunT:=((trE q.1 c.1 r.1).1,hnL q.2.1 (trE q.1 c.1 r.1).2 r.2)
def dnR(q:PbT)(m:RunT)(c:CycT)(cm:Int):Bool:=cm != -1&&aft q.1 cm c.2.1 m.1
def finR(q:PbT)(m:RunT)(c:CycT)(cm:Int):RunT:=
 if dnR q m c cm=true then((st1 q.1 (trE q.1 c.2.1 m.1).1 cm).getD (trE q.1 c.2.1 m.1).1,hnL q.2.1 [cm] (hnL q.2.1 (trE q.1 c.2.1 m.1).2 m.2))
 else((trE q.1 c.2.1 m.1).1,hnL q.2.1 (trE q.1 c.2.1 m.1).2 m.2)
def enR(q:PbT)(s:Int):LI:=(cmdL q).filter fun e=>(st1 q.2.1 s e).isSome
def perm(q:PbT)(m:RunT)(e:Int):Bool:=(st1 q.1 m.1 e).isSome&&(!hasB q.2.1.1 e||(st1 q.2.1 m.2.1 e).isSome)
abbrev StpR :=LI×LI×LI×Int×Bool×Int×Bool
def stpR(q:PbT)(r:RunT)(c:CycT)(ch:RunT→Int):StpR:=
 ((trE q.1 c.1 r.1).2,(trE q.1 c.2.1 (midR q r c).1).2,enR q (midR q r c).2.1,ch (midR q r c),dnR q (midR q r c) c (ch (midR q r c)),(finR q (midR q r c) c (ch (midR q r c))).2.1,(finR q (midR q r c) c (ch (midR q r c))).2.2)
def cycR(q:PbT)(ch:CycT→RunT→Int)(r:RunT)(c:CycT):RunT:=finR q (midR q r c) c (ch c (midR q r c))
def y3j(q:PbT)(ch:CycT→RunT→Int):RunT→List CycT→List StpR
 | _,[]=> []
 | r,c::l=>stpR q r c (ch c)::y3j q ch (cycR q ch r c) l
def runR(q:PbT)(ch:CycT→RunT→Int)(r:RunT)(l:List CycT):RunT:=l.foldl (cycR q ch) r
theorem ybY(q:PbT)(ch:CycT→RunT→Int):∀(l:List CycT) (r:RunT),(y3j q ch r l).length=l.length
 | [],_=>rfl
 | c::l,r=>by rw [y3j,yLc,yLc,ybY]
theorem yd8(q:PbT)(ch:CycT→RunT→Int)(c:CycT):∀(l:List CycT) (r:RunT),y3j q ch r (l++[c])=y3j q ch r l++[stpR q (runR q ch r l) c (ch c)]
 | [],_=>rfl
 | d::l,r=>by
  rw [List.cons_append,y3j,y3j,yd8 q ch c l,List.cons_append];rfl
theorem yit(q:PbT)(ch:CycT→RunT→Int)(c:CycT)(l:List CycT)(r:RunT):runR q ch r (l++[c])=cycR q ch (runR q ch r l) c:=List.foldl_append ..
def chP(q:PbT)(pr:LI)(m:RunT):Int:=(pr.find? (perm q m)).getD (-1)
theorem ycy(q:PbT)(pr:LI)(m:RunT):chP q pr m= -1∨(chP q pr m∈pr∧perm q m (chP q pr m)=true):=by
 unfold chP;cases h:pr.find? (perm q m) with
 | none=>exact .inl rfl
 | some x=>exact .inr ⟨List.mem_of_find?_eq_some h,List.find?_some h⟩
def wdR(s:StpR):LI:=s.1++s.2.1++(if s.2.2.2.2.1=true then [s.2.2.2.1] else [])
def flw(q:PbT)(z:RunT)(e:Int):RunT:=if z.2.2=true then z else match st1 q.1 z.1 e with
 | none=>(z.1,z.2.1,true)
 | some t=>if hasB q.2.1.1 e=true then(match st1 q.2.1 z.2.1 e with
  | none=>(t,z.2.1,true)
  | some u=>(t,u,false)) else(t,z.2.1,false)
theorem ydw(q:PbT):∀(w:LI) (z:RunT),z.2.2=true→w.foldl (flw q) z=z
 | [],_,_=>rfl
 | e::w,z,h=>by rw [List.foldl_cons,flw,iP h,ydw q w z h]
def difR(q:PbT):Int→RunT→List StpR→Int×Int×Bool
 | _,_,[]=>(0,0,false)
 | i,z,s::l=>if((wdR s).foldl (flw q) z).2.2=true then(i,1,true) else if s.2.2.2.2.2.2=true then(i,2,true) else if(s.2.2.2.2.2.1 != ((wdR s).foldl (flw q) z).2.1)=true then(i,3,true) else difR q (i+1) ((wdR s).foldl (flw q) z) l
theorem yhv{a b:LI}(h:a.length+b.length≤100000):y6U [a,b]=some (a++b):=by
 have h1:iter (y3M [a,b]) (0,0)=some ((a.length+b.length:Nat):Int):=by
  refine y3r (n:=3) (by omega) ?_;rw [yc,y3M,iP (by simp),show idx [a,b] 0=some a from rfl,yOb];dsimp only;rw [show (0:Int)+(a.length:Int)=((a.length:Nat):Int) by omega,W_nat (by omega),iN (by simp),y5z];dsimp only;rw [yc,y3M,show W (0+1)=1 from rfl,iP (by simp),show idx [a,b] 1=some b from rfl,yOb];dsimp only;rw [show (a.length:Int)+(b.length:Int)=((a.length+b.length:Nat):Int) by omega,W_nat (by omega),iN (by simp;omega),y5z];dsimp only;rw [yc,y3M,show W (1+1)=2 from rfl,iN (by simp)]
 have h2:iter (y3L [a,b]) (0,[])=some (a++b):=by
  refine y3r (n:=3) (by omega) ?_;rw [yc,y3L,iP (by simp),show idx [a,b] 0=some a from rfl,yOb,yg (by simp;omega),yOb,show W (0+1)=1 from rfl];dsimp only;rw [yc,y3L,iP (by simp),show idx [a,b] 1=some b from rfl,yOb,yg (by simp;omega),yOb,show W (1+1)=2 from rfl];dsimp only;rw [yc,y3L,iN (by simp)];rfl
 rw [y6U,h1,yOb,y6r,iP ⟨rfl,by omega,by omega⟩,yOb,h2,yOb]
def Shw(l:List StpR):Prop:=∀s∈l,s.1.length+s.2.1.length≤100
theorem yex{s:StpR}(h:s.1.length+s.2.1.length≤100):(wdR s).length≤101:=by
 unfold wdR;rw [yLa,yLa];split <;> simp <;> omega
theorem yiu{s:StpR}(h:s.1.length+s.2.1.length≤100):y3N s=some (wdR s):=by
 rw [y3N,yhv (by omega),yOb,wdR];cases s.2.2.2.2.1 with
 | true=>rw [iP rfl,yg (by simp;omega),yOb,iP rfl];rfl
 | false=>rw [iN (by simp),iN (by simp),List.append_nil];rfl
theorem yf3{l:List StpR}(h:Shw l):(l.flatMap wdR).length≤l.length*101:=by
 induction l with
 | nil=>simp
 | cons s l ih=>
  have h1:=yex (h s (yMc ..));have h2:=ih fun x hx=>h x (yMm _ hx);rw [List.flatMap_cons,yLa,yLc];omega
theorem Shw.take{l:List StpR}(h:Shw l)(i:Nat):Shw (l.take i):=fun s hs=>h s (List.mem_of_mem_take hs)
theorem yhw(l:List StpR)(s:StpR):(l++[s]).flatMap wdR=l.flatMap wdR++wdR s:=by simp
theorem ykI{l:List StpR}(h:Shw l)(hl:l.length≤1000):y6s l=some (l.flatMap wdR):=by
 have e0:((0:Int),([]:LI))=(fun k:Nat=>((k:Int),(l.take k).flatMap wdR)) 0:=rfl;have hi:iter (y4E l) (0,[])=some (l.flatMap wdR):=by
  refine Eq.trans (congrArg _ e0) (y2D (f:=y4E l) (fun k:Nat=>((k:Int),(l.take k).flatMap wdR)) l.length (by omega) (fun k hk=>?_) ?_)
  ·have h1:=h _ (yGm hk);have h2:=yex h1;have h3:=yf3 (h.take k);rw [yLt] at h3;have h4:min k l.length*101≤1000*101:=Nat.mul_le_mul_right _ (by omega);rw [y4E,iP (ct_lt hk),yb hk,yOb,yiu h1,yOb,yg (by dsimp only;omega),yOb];dsimp only;rw [nxt (by omega),yTs hk,yhw]
  ·rw [y4E,iN ct_ge,List.take_length]
 rw [y6s,hi,yOb]
def mx(a b:Int):Int:=if a<b then b else a
theorem ydV{xs:LI}(hl:xs.length≤1000000):y1S xs xs=some true:=by
 have hi:iter (y2h xs xs) 0=some (.inl ()):=y2D (f:=y2h xs xs) (fun k:Nat=>(k:Int)) xs.length (by omega) (fun k hk=>by
  rw [y2h,iP (ct_lt hk),yb hk,yOb,yOb,iN (by simp),nxt (by omega)]) (by rw [y2h,iN ct_ge])
 rw [y1S,iN (by simp),hi];rfl
structure SimOk (q:PbT) (n1 n2:Nat):Prop where
 rP:Right q.1 n1
 rS:Right q.2.1 n2
 g:GenIn (toAut q.2.1) (cmdL q) n2
 ic:Inc (cmdL q)
 p0:0<n1
 u:q.2.2.length≤1000000
 gen:yS q.2.1 (cmdL q)=some (codeP (toAut q.2.1) (cmdL q) n2,0)
structure BenOk (q:PbT) (n2:Nat) (b:BenT) (r:RunT):Prop where
 e1:b.1=q
 e2:b.2.1=codeP (toAut q.2.1) (cmdL q) n2
 e3:b.2.2.1=r.1
 sh:∃s:Nat,r.2.1=(s:Int)∧Shows (toAut q.2.1) (cmdL q) n2 s r.2.2 b.2.2.2
theorem BenOk.plant{q:PbT}{b:BenT}{r:RunT}(h:BenOk q n2 b r)(x:Int):BenOk q n2 (b.1,b.2.1,x,b.2.2.2) (x,r.2):=⟨h.e1,h.e2,rfl,h.sh⟩
theorem yjK{b:BenT}{n:Nat}(hP:Right b.1.1 n)(hl:c.1.length≤1000000):iter (y2e c) (b,0,[])=some ((b.1,b.2.1,(trE b.1.1 c.1 b.2.2.1).1,b.2.2.2),(trE b.1.1 c.1 b.2.2.1).2):=by
 obtain⟨o,h1,h2⟩:=ye (f:=y2e c) (fun i s=>s.2.1=(i:Int)∧s.1.1=b.1∧s.1.2.1=b.2.1∧s.1.2.2.2=b.2.2.2∧s.2.2.length≤i∧trE b.1.1 c.1 b.2.2.1=((trE b.1.1 (c.1.drop i) s.1.2.2.1).1,s.2.2++(trE b.1.1 (c.1.drop i) s.1.2.2.1).2)) (fun o=>o=((b.1,b.2.1,(trE b.1.1 c.1 b.2.2.1).1,b.2.2.2),(trE b.1.1 c.1 b.2.2.1).2)) c.1.length 0 (by omega) (fun i s hi ⟨e1,e2,e3,e4,e5,e6⟩=>by
  obtain⟨⟨b1,b2,b3,b4⟩,j,out⟩:=s;dsimp only at e1 e2 e3 e4 e5 e6;subst e1 e2 e3 e4;left;rw [yDc hi,trE] at e6;have ht:=yet (b:=(b.1,b.2.1,b3,b.2.2.2)) hP c.1[i];dsimp only at ht;rw [y2e,iP (ct_lt hi),yb hi,yOb,ht,yOb];cases hs:st1 b.1.1 b3 c.1[i] with
  | none=>
   rw [hs] at e6;refine⟨((b.1,b.2.1,b3,b.2.2.2),((i+1:Nat):Int),out),?_,rfl,rfl,rfl,rfl,Nat.le_succ_of_le e5,e6⟩;rw [iN (by simp),y2d,nxt (by omega)];rfl
  | some t=>
   rw [hs] at e6;refine⟨((b.1,b.2.1,t,b.2.2.2),((i+1:Nat):Int),out++[c.1[i]]),?_,rfl,rfl,rfl,rfl,by simp;omega,by rw [e6,yAa];rfl⟩;rw [iP (by rfl),yg (by simp;omega),yOb,y2d,nxt (by omega)];rfl) (fun s ⟨e1,e2,e3,e4,e5,e6⟩=>by
  obtain⟨⟨b1,b2,b3,b4⟩,j,out⟩:=s;dsimp only at e1 e2 e3 e4 e5 e6;subst e1 e2 e3 e4;rw [List.drop_length,trE,List.append_nil] at e6;exact⟨_,by rw [y2e,iN ct_ge],by rw [e6]⟩) (yZl _) (b,0,[]) ⟨rfl,rfl,rfl,rfl,yNr _,rfl⟩
 rw [h1,h2]
section
variable{q:PbT}{n1 n2:Nat}{b:BenT}{r:RunT}
theorem ycz(h:SimOk q n1 n2)(hb:BenOk q n2 b r){l:LI}(hl:l.length≤1000000)(hn:l.Nodup):∃b',yW b l=some (0,b')∧BenOk q n2 b' (r.1,hnL q.2.1 l r.2)∧y4h b'.2.1 b'.2.2.2=some (enR q (hnL q.2.1 l r.2).1,0):=by
 obtain⟨b1,b2,b3,b4⟩:=b;obtain⟨h1,h2,h3,s,hs,hv⟩:=hb;dsimp only at h1 h2 h3 hv;subst h1 h2 h3;obtain⟨r1,r2,al⟩:=r;dsimp only at hs hv ⊢;subst hs;obtain⟨st',g1,s',al',g2,g3,g4⟩:=yhu (b:=(b1,codeP (toAut b1.2.1) (cmdL b1) n2,r1,b4)) h.rS h.g h.ic rfl hv hl hn;have g2:hnL b1.2.1 l ((s:Int),al)=((s':Int),al'):=g2;refine⟨_,g1,⟨rfl,rfl,rfl,s',by rw [g2],by rw [g2];exact g3⟩,?_⟩;rw [g2];exact yhs h.g g3.ho g3.hm g4
theorem yl7(h:SimOk q n1 n2)(hb:BenOk q n2 b r)(he:e∉q.2.2):y5y b e (enR q r.2.1)=some (perm q r e):=by
 obtain⟨b1,b2,b3,b4⟩:=b;obtain⟨h1,h2,h3,s,hs,hv⟩:=hb;dsimp only at h1 h2 h3 hv;subst h1 h2 h3;have hl:(enR b1 r.2.1).length≤32:=Nat.le_trans (List.length_filter_le _ _) h.g.ct;have hen:hasB (enR b1 r.2.1) e=(hasB b1.2.1.1 e&&(st1 b1.2.1 r.2.1 e).isSome):=by
  rw [Bool.eq_iff_iff,yAe,ya,ya,enR,List.mem_filter,cmdL,List.mem_filter];have:(!hasB b1.2.2 e)=true:=by rw [Bool.not_eq_true',←Bool.not_eq_true,ya];exact he
  exact⟨fun h=>⟨h.1.1,h.2⟩,fun h=>⟨⟨h.1,this⟩,h.2⟩⟩
 rw [y5y,ydv h.rP,yOb,ydU h.rP,perm];cases st1 b1.1 r.1 e with
 | none=>rfl
 | some t=>
  have hS1:=h.rS.l1;rw [iP (show (some t).isSome=true from rfl),yG (by omega),yOb,hen];cases hx:hasB b1.2.1.1 e with
  | false=>rw [iN (by simp),yG (by dsimp only;omega),yOb,yOb,yOb];dsimp only;rw [hx];rfl
  | true=>
   cases st1 b1.2.1 r.2.1 e with
   | none=>rw [iN (by simp),yG (by dsimp only;omega),yOb,yOb,yOb];dsimp only;rw [hx];rfl
   | some t=>rfl
theorem yiv(h:SimOk q n1 n2)(hb:BenOk q n2 b r)(o:BenT×LI)(en:LI×Int)(cm:Int)(la:LI×Bool×BenT):∃b',y2b o en cm la b=some ((o.2,la.1,en.1,cm,la.2.1,r.2.1,r.2.2),0,b')∧BenOk q n2 b' r:=by
 obtain⟨b1,b2,b3,b4⟩:=b;obtain⟨h1,h2,h3,s,hs,hv⟩:=hb;dsimp only at h1 h2 h3 hv;subst h1 h2 h3;rw [y2b];dsimp only;rw [yip h.g hv.ho hv.hm hv.hs hv.hq,yOb,iN (by simp),yhr h.g hv.ho hv.hm,yOb];exact⟨_,by rw [hs,hv.ha],⟨rfl,rfl,rfl,s,hs,hv⟩⟩
theorem yiw(h:SimOk q n1 n2)(hb:BenOk q n2 b r)(o:BenT×LI)(en:LI×Int)(cm:Int)(la:LI×Bool×BenT)(hl:la.1.length≤1000000)(hn:la.1.Nodup):
  ∃b' z,y2c o en cm la b=some ((o.2,la.1,en.1,cm,la.2.1,z.2.1,z.2.2),0,b')∧BenOk q n2 b' z∧z=if la.2.1=true then(r.1,hnL q.2.1 [cm] (hnL q.2.1 la.1 r.2)) else(r.1,hnL q.2.1 la.1 r.2):=by
 obtain⟨b2,g1,g2,_⟩:=ycz h hb hl hn;rw [y2c,g1,yOb,iN (by simp)];dsimp only;cases hd:la.2.1 with
 | true=>
  obtain⟨b3,g3,g4,_⟩:=ycz h g2 (l:=[cm]) (by simp) (by simp);obtain⟨b4,g5,g6⟩:=yiv h g4 o en cm la;rw [hd] at g5;rw [iP rfl,g3,yOb,iN (by simp)];exact⟨b4,_,g5,g6,rfl⟩
 | false=>
  obtain⟨b4,g5,g6⟩:=yiv h g2 o en cm la;rw [hd] at g5;rw [iN (by simp)];exact⟨b4,_,g5,g6,rfl⟩
theorem yjL(h:SimOk q n1 n2)(hb:BenOk q n2 b r)(l1:c.1.length≤1000000)(l2:c.2.1.length≤1000000)(d1:c.1.Nodup)(d2:c.2.1.Nodup){p2:(Int→Option Bool)→Option Int}{ch:RunT→Int}
  (hp:∀b2:BenT,BenOk q n2 b2 (midR q r c)→p2 (yU (some b2) ((trE q.1 c.1 r.1).2,[],enR q (midR q r c).2.1,0,false,0,false))=some (ch (midR q r c))):
  ∃b',y4D b c p2=some (stpR q r c ch,0,b')∧BenOk q n2 b' (finR q (midR q r c) c (ch (midR q r c))):=by
 have hP1:Right b.1.1 n1:=by rw [hb.e1];exact h.rP
 have k1:=yap q.1 c.1 r.1;have k2:=yap q.1 c.2.1 (midR q r c).1;have s1:=d1.sublist (yaq q.1 c.1 r.1);have s2:=d2.sublist (yaq q.1 c.2.1 (midR q r c).1);have hb1:=hb.plant (trE b.1.1 c.1 b.2.2.1).1;rw [y4D,yjK hP1 l1,yOb];dsimp only;rw [hb.e1,hb.e3] at hb1 ⊢;obtain⟨b2,g1,g2,g3⟩:=ycz h hb1 (l:=(trE q.1 c.1 r.1).2) (by omega) s1;have g2:BenOk q n2 b2 (midR q r c):=g2;have g3:y4h b2.2.1 b2.2.2.2=some (enR q (midR q r c).2.1,0):=g3;rw [g1,yOb,iN (by simp)];dsimp only;rw [g3,yOb,iN (by simp)];dsimp only;rw [hp b2 g2,yOb];have hP2:Right b2.1.1 n1:=by rw [g2.e1];exact h.rP
 rw [yis hP2 l2,yOb,ycx];have hb3:=g2.plant (trE b2.1.1 c.2.1 b2.2.2.1).1;rw [stpR];generalize ch (midR q r c)=cm at *;have hdn:((cm != -1)&&(trF b2.1.1 cm c.2.1 b2.2.2.1 true []).2.1)=dnR q (midR q r c) c cm:=by rw [g2.e1,g2.e3];rfl
 dsimp only;rw [hdn,List.nil_append,finR];rw [g2.e3,g2.e1] at hb3 ⊢;cases hd:dnR q (midR q r c) c cm with
 | true=>
  rw [iP rfl,yet (by dsimp only;exact h.rP),yOb];obtain⟨b',z,w1,w2,w3⟩:=yiw h (hb3.plant ((st1 q.1 (trE q.1 c.2.1 (midR q r c).1).1 cm).getD (trE q.1 c.2.1 (midR q r c).1).1)) ((q,b.2.1,(trE q.1 c.1 r.1).1,b.2.2.2),(trE q.1 c.1 r.1).2) (enR q (midR q r c).2.1,0) cm ((trE q.1 c.2.1 (midR q r c).1).2,true,(q,b2.2.1,(trE q.1 c.2.1 (midR q r c).1).1,b2.2.2.2)) (by dsimp only;omega) s2;rw [iP rfl] at w3 ⊢;subst w3;exact⟨b',w1,w2⟩
 | false=>
  rw [iN (by simp)];obtain⟨b',z,w1,w2,w3⟩:=yiw h hb3 ((q,b.2.1,(trE q.1 c.1 r.1).1,b.2.2.2),(trE q.1 c.1 r.1).2) (enR q (midR q r c).2.1,0) cm ((trE q.1 c.2.1 (midR q r c).1).2,false,(q,b2.2.1,(trE q.1 c.2.1 (midR q r c).1).1,b2.2.2.2)) (by dsimp only;omega) s2;rw [iN (by simp)] at w3 ⊢;subst w3;exact⟨b',w1,w2⟩
end
theorem ygT{q:PbT}{n:Nat}(hP:Right q.1 n){m:RunT}(h:perm q m e=true):0≤e∧(st1 q.1 m.1 e).isSome=true:=by
 rw [perm,yAe] at h;obtain⟨t,ht⟩:=Option.isSome_iff_exists.1 h.1;exact⟨(hP.alr e (y6a hP ht).2.2.2.2).1,h.1⟩
structure CycOk (q:PbT) (c:CycT):Prop where
 l1:c.1.length≤1000000
 l2:c.2.1.length≤1000000
 d1:c.1.Nodup
 d2:c.2.1.Nodup
section
variable{q:PbT}{n1 n2:Nat}
theorem yjM(h:SimOk q n1 n2):∃b,y7d q=some (some b,0)∧BenOk q n2 b (0,0,false):=by
 have hl:=h.rS.l1;refine⟨(q,codeP (toAut q.2.1) (cmdL q) n2,0,_),?_,⟨rfl,rfl,rfl,0,rfl,Shows.start h.g.n0⟩⟩;rw [y7d,yew hl h.u,h.gen,yOb,iN (by simp)];dsimp only;rw [yir h.g h.rS.ali h.ic,yOb,iN (by simp)]
theorem yl8(h:SimOk q n1 n2){l:List CycT}(hl:l.length≤1000000)(hc:∀c∈l,CycOk q c){p2:CycT→Option ((Int→Option Bool)→Option Int)}{pr:CycT→LI}
  (hp:∀c∈l,∃f,p2 c=some f∧∀(m:RunT) (b:BenT) (s:StpT),BenOk q n2 b m→s.2.2.1=enR q m.2.1→f (yU (some b) s)=some (chP q (pr c) m)):
  y7E q l p2=some (y3j q (fun c=>chP q (pr c)) (0,0,false) l,0):=by
 obtain⟨b,g1,g2⟩:=yjM h;obtain⟨o,h1,h2⟩:=ye (f:=y6T l p2) (fun i s=>s.1=(i:Int)∧i≤l.length∧s.2.1=y3j q (fun c=>chP q (pr c)) (0,0,false) (l.take i)∧BenOk q n2 s.2.2 (runR q (fun c=>chP q (pr c)) (0,0,false) (l.take i))) (fun o=>o= .inl (y3j q (fun c=>chP q (pr c)) (0,0,false) l)) l.length 0 (by omega) (fun i s hi ⟨e1,_,e2,e3⟩=>by
  obtain⟨j,out,b1⟩:=s;dsimp only at e1 e2 e3;subst e1;left;have hm:=yGm hi;obtain⟨f,f1,f2⟩:=hp _ hm;have hk:=hc _ hm;obtain⟨b2,w1,w2⟩:=yjL h e3 hk.l1 hk.l2 hk.d1 hk.d2 (p2:=f) (ch:=chP q (pr l[i])) (fun b2 hb2=>f2 _ b2 _ hb2 rfl);have hol:out.length≤1000000:=by rw [e2,ybY,yLt];omega
  refine⟨(((i+1:Nat):Int),out++[stpR q (runR q (fun c=>chP q (pr c)) (0,0,false) (l.take i)) l[i] (chP q (pr l[i]))],b2),?_,rfl,hi,?_,?_⟩
  ·rw [y6T,iP (ct_lt hi),yb hi,yOb,f1,yOb,w1,yOb,iN (by simp),yg (by simp;omega),yOb,nxt (by omega)]
  ·rw [yTs hi,yd8,e2]
  ·dsimp only;rw [yTs hi,yit];exact w2) (fun s ⟨e1,_,e2,e3⟩=>by
  obtain⟨j,out,b1⟩:=s;dsimp only at e1 e2 e3;subst e1;exact⟨_,by rw [y6T,iN ct_ge],by rw [e2,List.take_length]⟩) (yZl _) (0,[],b) ⟨rfl,yZl _,rfl,g2⟩
 rw [y7E,g1,yOb,iN (by simp)];dsimp only;rw [yOb,h1,yOb,h2]
theorem ykJ(h:SimOk q n1 n2)(hc:c.2.2= -1∨c.2.2∉q.2.2):∃f,y8d c=some f∧∀(m:RunT) (b:BenT) (s:StpT),BenOk q n2 b m→s.2.2.1=enR q m.2.1→f (yU (some b) s)=some (chP q [c.2.2] m):=by
 refine⟨_,rfl,fun m b s hb hs=>?_⟩;rw [y6x,chP,List.find?_cons];by_cases h1:c.2.2= -1
 ·rw [h1,iN (by simp),yOb,iN (by simp)];cases hp:perm q m (-1) with
  | true=>have:=(ygT h.rP hp).1;omega
  | false=>rfl
 ·rw [iP (by simpa using h1),yU,yOb,hs,yl7 h hb (hc.resolve_left h1),yOb,yOb,yOb];cases perm q m c.2.2 <;> rfl
end
def evE(al u:LI):LI→LI→Int
 | _,[]=>0
 | d,e::l=>if hasB al e=false then 9 else if hasB u e=false then 13 else if hasB d e=true then 8 else evE al u (d++[e]) l
def evL(q:PbT)(l:LI):Int:=if 3<l.length then 3 else evE q.1.1 q.2.2 [] l
def scE(q:PbT):List CycT→Int
 | []=>0
 | c::l=>if evL q c.1≠0 then evL q c.1 else if evL q c.2.1≠0 then evL q c.2.1 else if c.2.2= -1 then scE q l else if hasB q.1.1 c.2.2=false then 9 else if hasB q.2.2 c.2.2=true then 13 else scE q l
theorem yix{al:LI}:∀{l d:LI},evE al u d l=0↔(∀e∈l,e∈al∧e∈u∧e∉d)∧l.Nodup
 | [],d=>by simp [evE]
 | e::l,d=>by
  rw [evE,List.nodup_cons];by_cases h1:hasB al e=false
  ·rw [iP h1];refine⟨fun h=>by omega,fun h=>?_⟩;rw [ya.2 (h.1 e (yMc ..)).1] at h1;cases h1
  rw [iN h1];by_cases h2:hasB u e=false
  ·rw [iP h2];refine⟨fun h=>by omega,fun h=>?_⟩;rw [ya.2 (h.1 e (yMc ..)).2.1] at h2;cases h2
  rw [iN h2];by_cases h3:hasB d e=true
  ·rw [iP h3];exact⟨fun h=>by omega,fun h=>absurd (ya.1 h3) (h.1 e (yMc ..)).2.2⟩
  rw [iN h3,yix];rw [Bool.not_eq_false,ya] at h1 h2;rw [ya] at h3;constructor
  ·intro ⟨h4,h5⟩;refine⟨fun x hx=>?_,fun hx=>?_,h5⟩
   ·rcases yMo.1 hx with rfl|hx
    ·exact ⟨h1,h2,h3⟩
    ·have:=h4 x hx;exact⟨this.1,this.2.1,fun hd=>this.2.2 (yMl _ hd)⟩
   ·exact (h4 e hx).2.2 (yMr _ (List.mem_singleton_self e))
  ·intro ⟨h4,h5,h6⟩;refine⟨fun x hx=>?_,h6⟩;have:=h4 x (yMm _ hx);refine⟨this.1,this.2.1,fun hd=>?_⟩;rcases yMa.1 hd with hd|hd
   ·exact this.2.2 hd
   ·rw [yMs.1 hd] at hx;exact h5 hx
theorem ybx{q:PbT}(h1:q.1.1.length≤1000000)(h2:q.2.2.length≤1000000){l:LI}(hl:l.length≤1000000):y4A q l=some (evL q l):=by
 rw [y4A,evL];by_cases h3:3<l.length
 ·rw [iP (by simp;omega),iP h3]
 rw [iN (by simp;omega),iN h3];obtain⟨o,g1,g2⟩:=ye (f:=y3x q l) (fun i s=>s=(i:Int)∧evE q.1.1 q.2.2 [] l=evE q.1.1 q.2.2 (l.take i) (l.drop i)) (fun o=>(match o with
   | .inl _=>0
   | .inr u=>u)=evE q.1.1 q.2.2 [] l) l.length 0 (by omega) (fun i s hi ⟨e1,e2⟩=>by
  subst e1;rw [yDc hi,evE] at e2;rw [y3x,iP (ct_lt hi),yb hi,yOb,yG (by omega),yOb];cases ha:hasB q.1.1 l[i]
  ·rw [iP ha] at e2;refine .inr ⟨_,by rw [iP (by rfl)],?_⟩;exact e2.symm
  rw [iN (by simp [ha])] at e2;rw [iN (by simp),yG (by omega),yOb];cases hb:hasB q.2.2 l[i]
  ·rw [iP hb] at e2;refine .inr ⟨_,by rw [iP (by rfl)],?_⟩;exact e2.symm
  rw [iN (by simp [hb])] at e2;rw [iN (by simp),yfH (by omega),yOb,yG (by rw [yLt];omega),yOb];cases hc:hasB (l.take i) l[i]
  ·rw [iN (by simp [hc])] at e2;exact .inl ⟨_,by rw [iN (by simp),nxt (by omega)],rfl,by rw [e2,yTs hi]⟩
  ·rw [iP hc] at e2;refine .inr ⟨_,by rw [iP rfl],?_⟩;exact e2.symm) (fun s ⟨e1,e2⟩=>by
  subst e1;rw [List.drop_length,evE] at e2;refine⟨_,by rw [y3x,iN ct_ge],?_⟩;exact e2.symm) (yZl _) 0 ⟨rfl,rfl⟩
 rw [g1,yOb,←g2];cases o <;> rfl
theorem yey{q:PbT}(h1:q.1.1.length≤1000000)(h2:q.2.2.length≤1000000){l:List CycT}(hl:l.length≤1000000)(hc:∀c∈l,c.1.length≤1000000∧c.2.1.length≤1000000)(he:yr q=some e):
  y4B q l=some (if e≠0 then e else if 256<l.length then 3 else scE q l):=by
 rw [y4B,he,yOb];by_cases h0:e=0
 case neg=>rw [iP (by simpa using h0),iP h0]
 rw [iN (by simpa using h0),iN (show ¬e≠0 from fun h=>h h0)];by_cases h3:256<l.length
 ·rw [iP (by simp;omega),iP h3]
 rw [iN (by simp;omega),iN h3];have hin:∀c∈l,iter (y2a q c) 0=some (if evL q c.1≠0 then .inr (evL q c.1) else if evL q c.2.1≠0 then .inr (evL q c.2.1) else .inl ()):=fun c hm=>by
  obtain⟨k1,k2⟩:=hc c hm;refine y3r (n:=3) (by omega) ?_;rw [yc,y2a,iP (by simp),show idx [c.1,c.2.1] 0=some c.1 from rfl,yOb,ybx h1 h2 k1,yOb];by_cases g1:evL q c.1=0
  case neg=>rw [iP (by simpa using g1),iP g1]
  rw [iN (by simpa using g1),iN (show ¬evL q c.1≠0 from fun h=>h g1)];dsimp only;rw [yc,y2a,show W (0+1)=1 from rfl,iP (by simp),show idx [c.1,c.2.1] 1=some c.2.1 from rfl,yOb,ybx h1 h2 k2,yOb];by_cases g2:evL q c.2.1=0
  case neg=>rw [iP (by simpa using g2),iP g2]
  rw [iN (by simpa using g2),iN (show ¬evL q c.2.1≠0 from fun h=>h g2)];dsimp only;rw [yc,y2a,show W (1+1)=2 from rfl,iN (by simp)]
 obtain⟨o,g1,g2⟩:=ye (f:=y3y q l) (fun i s=>s=(i:Int)∧scE q l=scE q (l.drop i)) (fun o=>(match o with
   | .inl _=>0
   | .inr u=>u)=scE q l) l.length 0 (by omega) (fun i s hi ⟨e1,e2⟩=>by
  subst e1;rw [yDc hi,scE] at e2;rw [y3y,iP (ct_lt hi),yb hi,yOb,hin _ (yGm hi),yOb];by_cases k1:evL q l[i].1=0
  case neg=>
   rw [iP k1] at e2 ⊢;refine .inr ⟨_,rfl,?_⟩;exact e2.symm
  rw [iN (show ¬evL q l[i].1≠0 from fun h=>h k1)] at e2 ⊢;by_cases k2:evL q l[i].2.1=0
  case neg=>
   rw [iP k2] at e2 ⊢;refine .inr ⟨_,rfl,?_⟩;exact e2.symm
  rw [iN (show ¬evL q l[i].2.1≠0 from fun h=>h k2)] at e2 ⊢;dsimp only;by_cases k3:l[i].2.2= -1
  ·rw [iP k3] at e2;exact .inl ⟨_,by rw [iP (by simpa using k3),y1Z,nxt (by omega)],rfl,e2⟩
  rw [iN k3] at e2;rw [iN (by simpa using k3),yG (by omega),yOb];cases ha:hasB q.1.1 l[i].2.2
  ·rw [iP ha] at e2;refine .inr ⟨_,by rw [iP (by rfl)],?_⟩;exact e2.symm
  rw [iN (by simp [ha])] at e2;rw [iN (by simp),yG (by omega),yOb];cases hb:hasB q.2.2 l[i].2.2
  ·rw [iN (by simp [hb])] at e2;exact .inl ⟨_,by rw [iN (by simp),y1Z,nxt (by omega)],rfl,e2⟩
  ·rw [iP hb] at e2;refine .inr ⟨_,by rw [iP rfl],?_⟩;exact e2.symm) (fun s ⟨e1,e2⟩=>by
  subst e1;rw [List.drop_length,scE] at e2;refine⟨_,by rw [y3y,iN ct_ge],?_⟩;exact e2.symm) (yZl _) 0 ⟨rfl,rfl⟩
 rw [g1,yOb,←g2];cases o <;> rfl
structure CycIn (q:PbT) (c:CycT):Prop where
 l1:c.1.length≤3
 l2:c.2.1.length≤3
 d1:c.1.Nodup
 d2:c.2.1.Nodup
 i1:∀e∈c.1,e∈q.1.1∧e∈q.2.2
 i2:∀e∈c.2.1,e∈q.1.1∧e∈q.2.2
 cm:c.2.2= -1∨(c.2.2∈q.1.1∧c.2.2∉q.2.2)
theorem CycIn.ok{q:PbT}(h:CycIn q c):CycOk q c:=⟨by have:=h.l1;omega,by have:=h.l2;omega,h.d1,h.d2⟩
theorem yfS{q:PbT}:∀{l:List CycT},scE q l=0↔ ∀c∈l,CycIn q c
 | []=>by simp [scE]
 | c::l=>by
  have hev:∀{w:LI},evL q w=0↔w.length≤3∧(∀e∈w,e∈q.1.1∧e∈q.2.2)∧w.Nodup:=fun {w}=>by
   rw [evL];by_cases h:3<w.length
   ·rw [iP h];exact⟨fun h=>by omega,fun h=>by omega⟩
   ·rw [iN h,yix];exact⟨fun g=>⟨by omega,fun e he=>⟨(g.1 e he).1,(g.1 e he).2.1⟩,g.2⟩,fun g=>⟨fun e he=>⟨(g.2.1 e he).1,(g.2.1 e he).2,List.not_mem_nil⟩,g.2.2⟩⟩
  rw [scE,List.forall_mem_cons,←yfS];by_cases k1:evL q c.1=0
  case neg=>
   rw [iP k1];exact⟨fun h=>absurd h k1,fun h=>absurd (hev.2 ⟨h.1.l1,h.1.i1,h.1.d1⟩) k1⟩
  rw [iN (show ¬evL q c.1≠0 from fun h=>h k1)];by_cases k2:evL q c.2.1=0
  case neg=>
   rw [iP k2];exact⟨fun h=>absurd h k2,fun h=>absurd (hev.2 ⟨h.1.l2,h.1.i2,h.1.d2⟩) k2⟩
  rw [iN (show ¬evL q c.2.1≠0 from fun h=>h k2)];have g1:=hev.1 k1;have g2:=hev.1 k2;by_cases k3:c.2.2= -1
  ·rw [iP k3];exact⟨fun h=>⟨⟨g1.1,g2.1,g1.2.2,g2.2.2,g1.2.1,g2.2.1,.inl k3⟩,h⟩,fun h=>h.2⟩
  rw [iN k3];cases ha:hasB q.1.1 c.2.2
  ·rw [iP rfl];refine⟨fun h=>by omega,fun h=>?_⟩;rcases h.1.cm with h|h
   ·exact absurd h k3
   ·rw [ya.2 h.1] at ha;cases ha
  rw [iN (by simp)];cases hb:hasB q.2.2 c.2.2
  ·rw [iN (by simp)];exact⟨fun h=>⟨⟨g1.1,g2.1,g1.2.2,g2.2.2,g1.2.1,g2.2.1,.inr ⟨ya.1 ha,fun hm=>by rw [ya.2 hm] at hb;cases hb⟩⟩,h⟩,fun h=>h.2⟩
  ·rw [iP rfl];refine⟨fun h=>by omega,fun h=>?_⟩;rcases h.1.cm with h|h
   ·exact absurd h k3
   ·exact absurd (ya.1 hb) h.2
theorem Right.err0{a:AutT}{n:Nat}(h:Right a n):(toAut a).err=0:=by
 have h1:=h.l1;have h2:=h.l2;have h3:=h.l3;have g:=ybV (a:=toAut a) (by show(a.2.2.2.map toEd).length<_;rw [yLm];omega) (by show a.1.length<_;omega) (by show a.2.2.1.length<_;omega);rw [yae,h.check] at g;exact(ySi g).symm
theorem yiy{a:AutT}{n:Nat}(h:Right a n)(hn:n≤25)(he:∀x∈a.1,0≤x∧x<5):a.2.2.2.length≤125:=by
 have hx:∀x∈a.2.2.2,0≤x.1*5+x.2.1∧x.1*5+x.2.1<((125:Nat):Int):=fun x hx=>by
  have g:=h.es x hx;have:=he _ g.2.2.2.2;omega
 have hi:Inc (a.2.2.2.map fun x=>x.1*5+x.2.1):=by
  unfold Inc;rw [List.pairwise_map];refine(yPg.2 fun i j hi hj hij=>?_);have g:=yPg.1 h.so i j hi hj hij;have g1:=he _ (h.es _ (yGm hi)).2.2.2.2;have g2:=he _ (h.es _ (yGm hj)).2.2.2.2;omega
 have:=y4p (lo:=0) hi (fun y hy=>by
  obtain⟨x,h1,rfl⟩:=yMp.1 hy;exact hx x h1) (Int.le_refl _)
 simpa using this
theorem yiz{q:PbT}(h:PbOk q n1 n2)(l2:n2≤25)(he:∀x∈q.1.1,0≤x∧x<5):∃e,yr q=some e∧y2S q=some e∧(e=0→SimOk q n1 n2):=by
 obtain⟨t,p,T,k1,k2,n,ho,_⟩:=h.open;have hS:=h.rS;have hul:=Alp.len ⟨h.iu,h.ur⟩;have hal:=Alp.len ⟨hS.ali,hS.alr⟩;have hes:=yiy hS l2 fun x hx=>he x (h.sub x hx);have hsub:(cmdL q).Sublist q.2.1.1:=List.filter_sublist;have hic:Inc (cmdL q):=List.Pairwise.sublist hsub hS.ali;have hcr:∀x∈cmdL q,0≤x∧x<32:=fun x hx=>hS.alr x (hsub.subset hx);have hcl:=Alp.len ⟨hic,hcr⟩;rw [←ykH (by omega) (by omega),yr,y8Y,ho,yOb,yOb,iN (by simp),h.rP.nn];by_cases h0:n1=0
 ·subst h0;exact⟨12,by rw [iP (by rfl)],by rw [iP (by rfl)],fun h=>by omega⟩
 rw [iN (by simp;omega),yew (by omega) (by omega)];have hsb:yV (cmdL q) q.2.1.1=some true:=by
  rw [yf2 (by omega) (by omega) hic hS.ali];exact congrArg some (yAt.2 fun x hx=>ya.2 (hsub.subset hx))
 have hse:yv 32 none (cmdL q)=0:=y7y hic hcr nofun;by_cases hz:n2=0
 ·subst hz;have:yS q.2.1 (cmdL q)=some (((0,0,0,[],[]),[],[],0),21):=by
   rw [yS,hS.check,yOb,iN (by simp),yaE (by omega),hse,yOb,iN (by simp),hsb,yOb,iN (by simp),iP (by rw [hS.nn];rfl)]
  rw [this,yOb];exact⟨21,rfl,rfl,fun h=>by omega⟩
 have hg:GenIn (toAut q.2.1) (cmdL q) n2:=⟨hS.nn,by omega,by omega,by show(q.2.1.2.2.2.map toEd).length≤256;rw [yLm];omega,hal,hcl,fun x hx=>by
  obtain⟨y,hy,rfl⟩:=yMp.1 hx;have:=hS.es y hy;exact⟨this.1,this.2.1,this.2.2.1,this.2.2.2.1⟩⟩
 have hgen:=yg7 hg hS.l2 hS.err0 hse hsb;rw [yae] at hgen;rw [hgen,yOb];exact⟨0,rfl,rfl,fun _=>⟨h.rP,hS,hg,hic,by omega,by omega,hgen⟩⟩
theorem ykK{x:Des26×Bool}(hd:Des26In x.1):∃q n1 n2 e,y4u x=some q∧PbOk q n1 n2∧(∀a∈q.1.1,0≤a∧a<5)∧n1≤5∧n2≤25∧yr q=some e∧y2S q=some e∧(e=0→SimOk q n1 n2):=by
 obtain⟨q,n1,n2,h1,h2,h3,h4,h5⟩:=yhl hd x.2;obtain⟨e,g1,g2,g3⟩:=yiz h2 h4 h5;refine⟨q,n1,n2,e,?_,h2,h5,h3,h4,g1,g2,g3⟩;rw [y4u,h1,yOb]
theorem ybZ{q:PbT}{ch:CycT→RunT→Int}:∀{l:List CycT} {r:RunT} {s:StpR},s∈y3j q ch r l→∃r' c,c∈l∧s=stpR q r' c (ch c)
 | [],_,_,h=>by cases h
 | c::l,r,s,h=>by
  rcases yMo.1 h with rfl|h
  ·exact ⟨r,c,yMc ..,rfl⟩
  ·obtain ⟨r',c',h1,h2⟩:=ybZ h;exact⟨r',c',yMm _ h1,h2⟩
theorem yiA{q:PbT}(h:SimOk q n1 n2){pr:CycT→LI}{r:RunT}{l:List CycT}(hl:∀c∈l,c.1.length≤50∧c.2.1.length≤50):∀s∈y3j q (fun c=>chP q (pr c)) r l,s.1.length+s.2.1.length≤100∧s.2.2.1.length≤32∧(s.2.2.2.1= -1∨0≤s.2.2.2.1):=fun s hs=>by
 obtain⟨r',c,hc,rfl⟩:=ybZ hs;have k:=hl c hc;have k1:=yap q.1 c.1 r'.1;have k2:=yap q.1 c.2.1 (midR q r' c).1;refine⟨?_,Nat.le_trans (List.length_filter_le _ _) h.g.ct,?_⟩
 ·show (trE q.1 c.1 r'.1).2.length+(trE q.1 c.2.1 (midR q r' c).1).2.length≤100;omega
 ·exact (ycy q (pr c) (midR q r' c)).imp id fun g=>(ygT h.rP g.2).1
theorem yl9{q:PbT}(hu:q.2.2.length≤1000000)(hP:Right q.1 n1)(he:yr q=some e)(hs:e=0→SimOk q n1 n2){l:List CycT}(hl:l.length≤256)(hc:∀c∈l,c.1.length≤1000000∧c.2.1.length≤1000000):
  y5r q l=some (if e≠0 then([],e) else if scE q l≠0 then([],scE q l) else(y3j q (fun c=>chP q [c.2.2]) (0,0,false) l,0)):=by
 rw [y5r,yey hP.l1 hu (by omega) hc he,yOb];by_cases h0:e=0
 case neg=>rw [iP h0,iP (by simpa using h0),iP h0]
 rw [iN (show ¬e≠0 from fun h=>h h0),iN (show ¬256<l.length by omega),iN (show ¬e≠0 from fun h=>h h0)];by_cases h1:scE q l=0
 case neg=>rw [iP (by simpa using h1),iP h1]
 have hk:=hs h0;have hin:=yfS.1 h1;rw [iN (by simpa using h1),iN (show ¬scE q l≠0 from fun h=>h h1),yl8 hk (by omega) (fun c hc=>(hin c hc).ok) (pr:=fun c=> [c.2.2]) fun c hc=>ykJ hk ((hin c hc).cm.imp id fun g=>g.2)];rfl
theorem ydx{τ:Type}{st:τ→Int→Option τ}:∀{u:LI} {t:τ} {e:Int},stw st t (u++[e])=(stw st t u).bind fun r=>st r e
 | [],t,e=>by
  rw [List.nil_append,stw,stw,yOb];cases st t e <;> rfl
 | x::u,t,e=>by
  rw [List.cons_append,stw,stw];cases h:st t x with
  | none=>rfl
  | some r=>
   rw [yOb,yOb,ydx]
def IsRun(P:AutT)(U:LI)(x:Int)(w:LI)(y:Int):Prop:=stw (st1 P) x w=some y∧(∀e∈w,e∈U)∧w.Nodup
theorem IsRun.snoc{P:AutT}{y':Int}(h:IsRun P U x w y)(he:e∈U)(hn:e∉w)(hs:st1 P y e=some y'):IsRun P U x (w++[e]) y':=by
 obtain⟨h1,h2,h3⟩:=h;refine⟨by rw [ydx,h1,yOb,hs],fun z hz=>?_,?_⟩
 ·rcases yMa.1 hz with hz|hz
  ·exact h2 z hz
  ·rw [yMs.1 hz];exact he
 ·rw [List.nodup_append];refine⟨h3,by simp,fun a ha b hb e=>?_⟩;rw [yMs.1 hb] at e;rw [e] at ha;exact hn ha
theorem IsRun.of_snoc{P:AutT}{y':Int}(h:IsRun P U x (w++[e]) y'):∃y,IsRun P U x w y∧e∈U∧e∉w∧st1 P y e=some y':=by
 obtain⟨h1,h2,h3⟩:=h;rw [ydx] at h1;obtain⟨y,g1,g2⟩:=Option.bind_eq_some_iff.1 h1;rw [List.nodup_append] at h3;exact⟨y,⟨g1,fun z hz=>h2 z (yMl _ hz),h3.1⟩,h2 e (by simp),fun hm=>h3.2.2 e hm e (by simp) rfl,g2⟩
structure BR (P:AutT) (U:LI) (x:Int) (z i:Nat) (A:List (Int×LI)):Prop where
 run:∀r∈A,IsRun P U x r.2 r.1
 len:∀r∈A,r.2.length≤z
 so:A.Pairwise fun r r'=>wval r.2<wval r'.2
 root:(x,([]:LI))∈A
 clo:∀(j:Nat) (r:Int×LI),j<i→A[j]? =some r→r.2.length<z→∀e∈U,e∉r.2→∀y,st1 P r.1 e=some y→(y,r.2++[e])∈A
 bd:∀(j:Nat) (r:Int×LI),i≤j→A[j]? =some r→∀q∈A,wval q.2≤33*wval r.2
theorem BR.next{P:AutT}{z:Nat}{A:List (Int×LI)}(h:BR P U x z i A){r:Int×LI}(hi:A[i]? =some r)(hr:z≤r.2.length):BR P U x z (i+1) A:=
 ⟨h.run,h.len,h.so,h.root,fun j r' hj ej hl=>by
  by_cases e:j=i
  ·subst e;rw [hi] at ej;cases ej;omega
  ·exact h.clo j r' (by omega) ej hl,fun j r' hj=>h.bd j r' (by omega)⟩
theorem BR.all{P:AutT}{z:Nat}{A:List (Int×LI)}(h:BR P U x z A.length A)(w:LI):∀y,IsRun P U x w y→w.length≤z→(y,w)∈A:=by
 refine yfB (P:=fun w=>∀y,IsRun P U x w y→w.length≤z→(y,w)∈A) (fun y hy _=>?_) (fun v e ih y hy hl=>?_) w
 ·have:some x=some y:=hy.1;cases this;exact h.root
 ·obtain ⟨y',g1,g2,g3,g4⟩:=hy.of_snoc;rw [yLa,List.length_singleton] at hl;obtain⟨j,hj,e2⟩:=yGo (ih y' g1 (by omega));exact h.clo j (y',v) hj (by rw [yGe hj,e2]) (by dsimp only;omega) e g2 g3 y g4
structure BuL (P:AutT) (U:LI) (x:Int) (z:Nat) (bs:List LI):Prop where
 mem:∀b,b∈bs↔(∃y,IsRun P U x b y)∧2≤b.length∧b.length≤z
 so:bs.Pairwise fun b b'=>wval b<wval b'
section
variable{q:ProbT}{t:TaskT}{p:AutT}{T:List LI}{n1 n2 n:Nat}
theorem yiB(h:TaskOk q t p T n1 n2 n){z c:Nat}{out:List LI}{l:List (Int×LI)}{r:Int×LI}(hc:l[c]? =some r)(hz:r.2.length<z)(hz3:z≤3)(hl:l.length≤1000000)(hB:BR q.1 t.2.2.2.2.1 x z c l):
  ∃l',iter (yQ t ((c:Int),out,l)) (0,l)=some l'∧BR q.1 t.2.2.2.2.1 x z (c+1) l':=by
 obtain⟨ui,ul,um⟩:=h.uni;obtain⟨U,hU⟩:∃U,U=t.2.2.2.2.1:=⟨_,rfl⟩;rw [←hU] at ui ul um hB ⊢;have hcl:c<l.length:=(yGs.1 hc).1;have hUr:∀i (hi:i<U.length),0≤U[i]∧U[i]<32:=fun i hi=>h.rP.alr _ ((um _).1 (yGm hi)).1;obtain⟨w,y,rfl⟩:∃w y,r=(y,w):=⟨r.2,r.1,rfl⟩;dsimp only at hz;have hcm:(y,w)∈l:=List.mem_of_getElem? hc;obtain⟨A',h1,⟨N,hN⟩,h3,h4,h5,h6,h7⟩:=ye (f:=yQ t ((c:Int),out,l))
  (fun k s=>s.1=(k:Int)∧k≤U.length∧(∃N,s.2=l++N∧N.length≤k)∧(∀r∈s.2,IsRun q.1 U x r.2 r.1)∧(∀r∈s.2,r.2.length≤z)∧(s.2.Pairwise fun r r'=>wval r.2<wval r'.2)∧
   (∀k' (h:k'<U.length),k≤k'→∀r∈s.2,wval r.2<33*wval w+U[k']+1)∧(∀k' (h:k'<U.length),k'<k→U[k']∉w→∀y',st1 q.1 y U[k']=some y'→(y',w++[U[k']])∈s.2)∧∀r∈s.2,wval r.2≤33*wval w+32)
  (fun o=>(∃N,o=l++N)∧(∀r∈o,IsRun q.1 U x r.2 r.1)∧(∀r∈o,r.2.length≤z)∧(o.Pairwise fun r r'=>wval r.2<wval r'.2)∧
   (∀k' (h:k'<U.length),U[k']∉w→∀y',st1 q.1 y U[k']=some y'→(y',w++[U[k']])∈o)∧∀r∈o,wval r.2≤33*wval w+32)
  U.length 0 (by omega) (fun k s hk ⟨e1,_,⟨N,hN,hNl⟩,q1,q2,q3,q4,q5,q6⟩=>by
   obtain⟨c',B⟩:=s;dsimp only at e1 hN q1 q2 q3 q4 q5 q6;subst e1;have hur:=hUr k hk;have hiB:B[c]? =some (y,w):=by rw [hN,yAl hcl];exact hc
   have hwB:(y,w)∈B:=List.mem_of_getElem? hiB;have hBl:B.length≤1000032:=by rw [hN,yLa];omega
   -- an event that is passed over
   have hskip:(U[k]∉w→st1 q.1 y U[k]=none)→∃s',yP ((k:Int),B) B=some (.inl s')∧s'.1=((k+1:Nat):Int)∧k+1≤U.length∧(∃N,s'.2=l++N∧N.length≤k+1)∧(∀r∈s'.2,IsRun q.1 U x r.2 r.1)∧(∀r∈s'.2,r.2.length≤z)∧(s'.2.Pairwise fun r r'=>wval r.2<wval r'.2)∧
     (∀k' (h:k'<U.length),k+1≤k'→∀r∈s'.2,wval r.2<33*wval w+U[k']+1)∧(∀k' (h:k'<U.length),k'<k+1→U[k']∉w→∀y',st1 q.1 y U[k']=some y'→(y',w++[U[k']])∈s'.2)∧∀r∈s'.2,wval r.2≤33*wval w+32:=fun hn=>by
    rw [yP];dsimp only;rw [nxt (by omega)];refine⟨_,rfl,rfl,hk,⟨N,hN,by omega⟩,q1,q2,q3,fun k' hk' hkk=>q4 k' hk' (by omega),fun k' hk' hkk hnw y' hy'=>?_,q6⟩;by_cases e:k'=k
    ·subst e;rw [hn hnw] at hy';cases hy'
    ·exact q5 k' hk' (by omega) hnw y' hy'
   left;rw [yQ,←hU];dsimp only;rw [iP (ct_lt hk),yb hk,yOb,y7O,hiB,yOb,to_eq h.g1,yOb];dsimp only;cases hst:st1 q.1 y U[k] with
   | none=>
    rw [Option.getD_none,iN (by simp),yOb,iN (by simp)];exact hskip fun _=>hst
   | some y'=>
    have hy':=y6a h.rP hst;rw [Option.getD_some,iP (by simp;omega),yOb,yG (by show w.length<_;omega),yOb,yOb];cases hh:hasB w U[k] with
    | true=>
     rw [iN (by simp)];exact hskip fun hn=>absurd (ya.1 hh) hn
    | false=>
     have hnw:U[k]∉w:=fun hm=>by
      rw [ya.2 hm] at hh;cases hh
     rw [iP (by rfl),yOb,y7H (by show w.length≤_;omega),yOb,yg (by simp;omega),yOb,yg (by simp;omega),yOb,yP];dsimp only;rw [nxt (by omega)];have hwv:wval (w++[U[k]])=33*wval w+U[k]+1:=yaQ _ _;refine⟨_,rfl,rfl,hk,⟨N++[(y',w++[U[k]])],by dsimp only;rw [hN,yAa],by simp;omega⟩,fun r hr'=>?_,fun r hr'=>?_,?_,fun k' hk' hkk r hr'=>?_,fun k' hk' hkk hnw' y2 hy2=>?_,fun r hr'=>?_⟩
     ·rcases yMa.1 hr' with hr'|hr'
      ·exact q1 r hr'
      ·rw [yMs.1 hr'];exact(q1 _ hwB).snoc (yGm hk) hnw hst
     ·rcases yMa.1 hr' with hr'|hr'
      ·exact q2 r hr'
      ·rw [yMs.1 hr'];simp;omega
     ·dsimp only;rw [List.pairwise_append];refine⟨q3,List.pairwise_singleton _ _,fun r hr' r' hr2=>?_⟩;rw [yMs.1 hr2];dsimp only;rw [hwv];exact q4 k hk (yNr _) r hr'
     ·rcases yMa.1 hr' with hr'|hr'
      ·exact q4 k' hk' (by omega) r hr'
      ·rw [yMs.1 hr'];dsimp only;rw [hwv];have:=yPg.1 ui k k' hk hk' (by omega);omega
     ·by_cases e:k'=k
      ·subst e;rw [hst] at hy2;cases hy2;exact yMr _ (yMs.2 rfl)
      ·exact yMl _ (q5 k' hk' (by omega) hnw' y2 hy2)
     ·rcases yMa.1 hr' with hr'|hr'
      ·exact q6 r hr'
      ·rw [yMs.1 hr'];dsimp only;rw [hwv];omega) (fun s ⟨e1,_,⟨N,hN,_⟩,q1,q2,q3,q4,q5,q6⟩=>by
   obtain⟨c',B⟩:=s;dsimp only at e1 hN q1 q2 q3 q4 q5 q6;subst e1;refine⟨B,?_,⟨N,hN⟩,q1,q2,q3,fun k' hk'=>q5 k' hk' hk',q6⟩;rw [yQ,←hU];dsimp only;rw [iN ct_ge]) (yZl _) (0,l) ⟨rfl,yZl _,⟨[],(List.append_nil _).symm,yNr _⟩,hB.run,hB.len,hB.so,fun k' hk' _ r hr'=>by
    have:=hB.bd c _ (yNr _) hc r hr';have:=hUr k' hk';dsimp only at *;omega,fun k' hk' h=>absurd h (Nat.not_lt_zero _),fun r hr'=>by
    have:=hB.bd c _ (yNr _) hc r hr';dsimp only at *;omega⟩
 have hcA:A'[c]? =some (y,w):=by rw [hN,yAl hcl];exact hc
 refine⟨A',h1,⟨h3,h4,h5,by rw [hN];exact yMl _ hB.root,fun j r hj ej hlz e he hne y2 hy2=>?_,fun j r hij hj q hq=>?_⟩⟩
 ·by_cases e2:j=c
  ·subst e2;rw [hcA] at ej;cases ej;obtain⟨k,hk,rfl⟩:=yGo he;exact h6 k hk hne y2 hy2
  ·rw [hN,yAl (by omega)] at ej;rw [hN];exact yMl _ (hB.clo j r (by omega) ej hlz e he hne y2 hy2)
 ·obtain ⟨hj1,hj2⟩:=yGs.1 hj;obtain⟨hi1,hi2⟩:=yGs.1 hcA;have:=yPg.1 h5 c j hi1 hj1 (by omega);rw [hi2,hj2] at this;have:=h7 q hq;dsimp only at *;omega
theorem ydW(h:TaskOk q t p T n1 n2 n){k:Nat}(hk:T[k]? =some [x,y]){z:Nat}(hz:z≤3):∃bs,y4n t (k:Int) (z:Int)=some bs∧bs.length≤40000∧BuL q.1 t.2.2.2.2.1 x z bs:=by
 have hp:=yl3 hz;obtain⟨o,h1,h2,l,h3,h4⟩:=ye (f:=y5X t (z:Int)) (fun i s=>s.1=(i:Int)∧i≤s.2.2.length∧i+potL z (s.2.2.drop i)≤pot z∧s.2.1.length≤i∧s.2.1=((s.2.2.take i).filter fun r=>decide (1<r.2.length)).map Prod.snd∧BR q.1 t.2.2.2.2.1 x z i s.2.2) (fun o=>o.length≤40000∧∃l:List (Int×LI),o=(l.filter fun r=>decide (1<r.2.length)).map Prod.snd∧BR q.1 t.2.2.2.2.1 x z l.length l) (pot z) 0 (by omega) (fun i s hi ⟨e1,g0,g1,g3,g4,g5⟩=>by
   obtain⟨c,out,l⟩:=s;dsimp only at e1 g0 g1 g3 g4 g5;subst e1;have g2:=g5.len;have hll:l.length≤pot z:=by
    have:=ydq z (l.drop i);rw [List.length_drop] at this;omega
   rw [y5X];dsimp only;by_cases hil:i<l.length
   ·left;have hil2:l[i]? =some l[i]:=yGe hil;have hj2:∀out':List LI,out'.length≤i+1→out'=((l.take (i+1)).filter fun r=>decide (1<r.2.length)).map Prod.snd→∃s',y4m t (z:Int) ((i:Int),out,l) out'=some (.inl s')∧s'.1=((i+1:Nat):Int)∧i+1≤s'.2.2.length∧i+1+potL z (s'.2.2.drop (i+1))≤pot z∧s'.2.1.length≤i+1∧s'.2.1=((s'.2.2.take (i+1)).filter fun r=>decide (1<r.2.length)).map Prod.snd∧BR q.1 t.2.2.2.2.1 x z (i+1) s'.2.2:=fun out' o1 o2=>by
     have hd:potL z (l.drop i)=pot (z-l[i].2.length)+potL z (l.drop (i+1)):=by
      rw [yDc hil];unfold potL;rw [List.map_cons,List.sum_cons]
     rw [y4m];dsimp only;rw [yb hil,yOb];have hrl:=g2 _ (yGm hil);by_cases hc:l[i].2.length=z
     ·rw [iP (by simp [hc]),y4l];dsimp only;rw [nxt (by omega)];have:=ygN (z-l[i].2.length);exact⟨_,rfl,rfl,hil,by dsimp only;omega,o1,o2,g5.next hil2 (by omega)⟩
     ·rw [iN (by simp;omega)];obtain⟨N,q1,q2,q3⟩:=yi4 h (z:=z) (out:=out) hil2 (by omega) hz (by omega) g2;obtain⟨l',r1,r2⟩:=yiB h (out:=out) hil2 (by omega) hz (by omega) g5;rw [q1] at r1;cases r1;rw [q1,yOb,y4l];dsimp only;rw [nxt (by omega)];refine⟨_,rfl,rfl,by simp;omega,?_,o1,?_,r2⟩
      ·dsimp only;rw [List.drop_append_of_le_length (by omega),yjk,yfG q3];have e:z-l[i].2.length=(z-(l[i].2.length+1))+1:=by omega
       rw [e,pot] at hd;have:=Nat.mul_le_mul_right (pot (z-(l[i].2.length+1))) q2;omega
      ·dsimp only;rw [List.take_append_of_le_length (by omega)];exact o2
    rw [iP (ct_lt hil),yb hil,yOb];by_cases h2:1<l[i].2.length
    ·rw [iP (by simp;omega),yOb,yg (by simp;omega),yOb];refine hj2 _ (by simp;omega) ?_;rw [yTs hil,List.filter_append,List.map_append,←g4];simp [h2]
    ·rw [iN (by simp;omega)];refine hj2 _ (by omega) ?_;rw [yTs hil,List.filter_append,List.map_append,←g4];simp [h2]
   ·right;rw [iN (by simp;omega)];obtain rfl:i=l.length:=by omega
    rw [List.take_length] at g4;exact⟨_,rfl,by omega,l,g4,g5⟩) (fun s ⟨e1,g0,g1,g3,g4,g5⟩=>by
   obtain⟨c,out,l⟩:=s;dsimp only at e1 g0 g1 g3 g4 g5;subst e1;have:=ydq z (l.drop (pot z));rw [List.length_drop] at this;rw [y5X];dsimp only;rw [iN (by simp;omega)];have e:pot z=l.length:=by omega
   rw [e,List.take_length] at g4;rw [e] at g5;exact⟨_,rfl,by omega,l,g4,g5⟩) (yZl _) (0,[],[(x,[])]) ⟨rfl,by simp,by rw [List.drop_zero,yjl];simp,by simp,by simp,⟨fun r hr=>by
   rw [yMs.1 hr];exact⟨rfl,(fun e he=>by cases he),yPn⟩,fun r hr=>by rw [yMs.1 hr];simp,List.pairwise_singleton _ _,yMs.2 rfl,fun j r hj=>absurd hj (Nat.not_lt_zero _),fun j r _ hj q hq=>by
   rw [yMs.1 (List.mem_of_getElem? hj),yMs.1 hq];show wval []≤33*wval [];decide⟩⟩
 refine⟨o,?_,h2,?_⟩
 ·rw [y4n,h.tt,y7O,hk,yOb,show idx [x,y] 0=some x from rfl,yOb,h1];rfl
 ·subst h3;refine⟨fun b=>?_,?_⟩
  ·constructor
   ·intro hb;obtain⟨r,hr,rfl⟩:=yMp.1 hb;obtain⟨hr,hl⟩:=List.mem_filter.1 hr;exact⟨⟨r.1,h4.run r hr⟩,by have:=of_decide_eq_true hl;omega,h4.len r hr⟩
   ·rintro ⟨⟨y',hy'⟩,hb1,hb2⟩;exact yMp.2 ⟨(y',b),List.mem_filter.2 ⟨h4.all b y' hy' hb2,decide_eq_true (by dsimp only;omega)⟩,rfl⟩
  ·rw [List.pairwise_map];exact h4.so.filter _
end
def FB(I:LI→Prop):Option LI→Prop
 | none=>∀b,¬I b
 | some b=>I b∧∀b',I b'→wval b≤wval b'
theorem ydX{a:AutT}{n:Nat}(hr:Right a n):∀{u:LI} {s t:Int},stw (st1 a) s u=some t→∀e∈u,e∈a.1
 | [],_,_,_,e,he=>by cases he
 | x::u,s,t,h,e,he=>by
  rw [stw] at h;obtain⟨r,g1,g2⟩:=Option.bind_eq_some_iff.1 h;rcases yMo.1 he with rfl|he
  ·exact (y6a hr g1).2.2.2.2
  ·exact ydX hr g2 e he
def oI(q:ProbT)(x y:Int)(z:Nat)(b:LI):Prop:=(∃v,IsRun q.1 q.2.2 x b v)∧2≤b.length∧b.length≤z∧okB q.2.1 y b=false
def oK(q:ProbT)(T:List LI)(z:Nat)(s:Int)(b:LI):Prop:=∃x y,T[s.toNat]? =some [x,y]∧oI q x y z b
section
variable{q:ProbT}{t:TaskT}{p:AutT}{T:List LI}{n1 n2 n:Nat}
theorem TaskOk.isrun(h:TaskOk q t p T n1 n2 n):IsRun q.1 t.2.2.2.2.1 x w v↔IsRun q.1 q.2.2 x w v:=by
 obtain⟨ui,ul,um⟩:=h.uni;constructor
 ·rintro ⟨h1,h2,h3⟩;exact⟨h1,fun e he=>((um e).1 (h2 e he)).2,h3⟩
 ·rintro ⟨h1,h2,h3⟩;exact⟨h1,fun e he=>(um e).2 ⟨ydX h.rP h1 e he,h2 e he⟩,h3⟩
theorem yiC(h:TaskOk q t p T n1 n2 n){k:Nat}(hk:k<T.length){z:Nat}(hz:z≤3):∃bs o,y4n t (k:Int) (z:Int)=some bs∧FB (oK q T z (k:Int)) o∧iter (y6N t (k:Int) bs) 0=some (match o with
  | none=> .inl ()
  | some b=> .inr (wN (edsOf p) (k:Int),b)):=by
 obtain⟨x,y,e,_⟩:=h.pair hk;obtain⟨bs,b1,b2,b3⟩:=ydW h e hz;have hg:∀i (hi:i<bs.length),bs.getD i []=bs[i]:=fun i hi=>by rw [yGd,yGe hi,Option.getD_some]
 have hoK:∀b,oK q T z (k:Int) b↔b∈bs∧okB q.2.1 y b=false:=fun b=>by
  rw [b3.mem];constructor
  ·rintro ⟨x',y',e',⟨v,hv⟩,h1,h2,h3⟩;rw [yTn,e] at e';cases e';exact⟨⟨⟨v,h.isrun.2 hv⟩,h1,h2⟩,h3⟩
  ·rintro ⟨⟨⟨v,hv⟩,h1,h2⟩,h3⟩;exact⟨x,y,by rw [yTn,e],⟨v,h.isrun.1 hv⟩,h1,h2,h3⟩
 obtain⟨o,g1,g2⟩:=y9e (f:=y6N t (k:Int) bs) (fun i=>i) bs.length (by omega) (fun i=>!okB q.2.1 y (bs.getD i [])) (fun i=>(wN (edsOf p) (k:Int),bs.getD i [])) (fun i hi=>by
  have:=((b3.mem _).1 (yGm hi)).2.2;rw [y6N,iP (ct_lt hi),yb hi,yOb,ydO h e (by omega),yOb,hg i hi,h.word hk,yOb,nxt (by omega)]) (by rw [y6N,iN ct_ge])
 rcases g2 with ⟨rfl,g3⟩|⟨i,hi,rfl,g3,g4⟩
 ·refine ⟨bs,none,b1,fun b hb=>?_,g1⟩;obtain⟨hm,hb⟩:=(hoK b).1 hb;obtain⟨i,hi,rfl⟩:=yGo hm;have:=g3 i hi;rw [hg i hi,hb] at this;cases this
 ·rw [hg i hi] at g1 g3;refine⟨bs,some bs[i],b1,⟨(hoK _).2 ⟨yGm hi,by simpa using g3⟩,fun b' hb'=>?_⟩,g1⟩;obtain⟨hm,hb⟩:=(hoK b').1 hb';obtain⟨j,hj,rfl⟩:=yGo hm;rcases Nat.lt_trichotomy j i with hlt|e|hlt
  ·have:=g4 j hlt;rw [hg j hj,hb] at this;cases this
  ·subst e;exact Int.le_refl _
  ·exact Int.le_of_lt (yPg.1 b3.so i j hi hj hlt)
theorem yiD(h:TaskOk q t p T n1 n2 n)(ho:y2x q=some (some t,0)){z:Nat}(z2:2≤z)(z3:z≤3):∃r,y8B q (z:Int)=some r∧((r=((0,[],[]),true,0)∧∀k,k<T.length→FB (oK q T z (k:Int)) none)∨∃(k:Nat) (b:LI),k<T.length∧FB (oK q T z (k:Int)) (some b)∧(∀j,j<k→FB (oK q T z (j:Int)) none)∧r=((1,wN (edsOf p) (k:Int),b),false,0)):=by
 have htl:=h.loop.tl;have hle:=h.loop.le;obtain⟨o,h1,h2⟩:=ye (f:=y7F (z:Int) t) (fun i s=>s=(i:Int)∧i≤T.length∧∀j,j<i→FB (oK q T z (j:Int)) none) (fun o=>(o= .inl ()∧∀k,k<T.length→FB (oK q T z (k:Int)) none)∨∃(k:Nat) (b:LI),k<T.length∧FB (oK q T z (k:Int)) (some b)∧(∀j,j<k→FB (oK q T z (j:Int)) none)∧o= .inr (wN (edsOf p) (k:Int),b)) T.length 0 (by omega) (fun i s hi ⟨e1,_,hz⟩=>by
   subst e1;obtain⟨bs,o,w0,w1,w2⟩:=yiC h hi z3;rw [y7F,h.tt,iP (ct_lt hi),w0,yOb,w2,yOb];cases o with
   | none=>
    left;dsimp only;rw [nxt (by omega)];refine⟨_,rfl,rfl,hi,fun j hj=>?_⟩;by_cases e:j=i
    ·subst e;exact w1
    ·exact hz j (by omega)
   | some b=>
    right;exact⟨_,rfl,.inr ⟨i,b,hi,w1,hz,rfl⟩⟩) (fun s ⟨e1,_,hz⟩=>by
   subst e1;exact⟨.inl (),by rw [y7F,h.tt,iN ct_ge],.inl ⟨rfl,hz⟩⟩) (yZl _) 0 ⟨rfl,yZl _,fun j hj=>absurd hj (Nat.not_lt_zero _)⟩
 rw [y8B,ho,yOb,iN (by simp),iN (by simp;omega),yOb,h1,yOb];rcases h2 with ⟨rfl,h3⟩|⟨k,b,hk,h3,h4,rfl⟩
 ·exact ⟨_,rfl,.inl ⟨rfl,h3⟩⟩
 ·exact ⟨_,rfl,.inr ⟨k,b,hk,h3,h4,rfl⟩⟩
end
def brn(P:AutT)(u:LI):LI→Int→LI→Option Int
 | _,s,[]=>some s
 | d,s,e::w=>if(hasB u e && !hasB d e)=true then(st1 P s e).bind fun r=>brn P u (d++[e]) r w else none
theorem yby{P:AutT}:∀{w d:LI} {s v:Int},brn P u d s w=some v↔stw (st1 P) s w=some v∧(∀e∈w,e∈u)∧w.Nodup∧∀e∈w,e∉d
 | [],d,s,v=>by
  rw [brn,stw];exact⟨fun h=>⟨h,(fun e he=>by cases he),yPn,fun e he=>by cases he⟩,fun h=>h.1⟩
 | e::w,d,s,v=>by
  rw [brn,stw];by_cases hc:(hasB u e && !hasB d e)=true
  ·rw [iP hc];rw [yAe,ya,Bool.not_eq_true'] at hc;have hed:e∉d:=fun hm=>by rw [ya.2 hm] at hc;exact absurd hc.2 (by simp)
   cases hs:st1 P s e with
   | none=>exact⟨(fun h=>by cases h),fun h=>by cases h.1⟩
   | some r=>
    rw [yOb,yOb,yby];constructor
    ·rintro ⟨h1,h2,h3,h4⟩;refine⟨h1,fun x hx=>?_,List.nodup_cons.2 ⟨fun hm=>h4 e hm (by simp),h3⟩,fun x hx=>?_⟩
     ·rcases yMo.1 hx with rfl|hx
      ·exact hc.1
      ·exact h2 x hx
     ·rcases yMo.1 hx with rfl|hx
      ·exact hed
      ·exact fun hm=>h4 x hx (yMl _ hm)
    ·rintro ⟨h1,h2,h3,h4⟩;obtain⟨n1,n2⟩:=List.nodup_cons.1 h3;refine⟨h1,fun x hx=>h2 x (yMm _ hx),n2,fun x hx hm=>?_⟩;rcases yMa.1 hm with hm|hm
     ·exact h4 x (yMm _ hx) hm
     ·rw [yMs.1 hm] at hx;exact n1 hx
  ·rw [iN hc];refine⟨(fun h=>by cases h),fun⟨h1,h2,h3,h4⟩=>absurd ?_ hc⟩;have:hasB d e=false:=by
    cases hb:hasB d e with
    | false=>rfl
    | true=>exact absurd (ya.1 hb) (h4 e (yMc ..))
   rw [this,ya.2 (h2 e (yMc ..))];rfl
theorem yiE{xs ys:LI}(hl:xs.length≤1000000):y7i xs ys=some (decide (xs=ys)):=by
 rw [y7i];by_cases hn:xs.length=ys.length
 case neg=>
  rw [iP (by simp;omega),decide_eq_false (fun e=>hn (by rw [e]))]
 rw [iN (by simp;omega)];obtain⟨o,h1,h2⟩:=ye (f:=y5Y xs ys) (fun i s=>s=(i:Int)∧i≤xs.length∧xs.take i=ys.take i) (fun o=>(match o with
   | .inl _=>true
   | .inr _=>false)=decide (xs=ys)) xs.length 0 (by omega) (fun i s hi ⟨e1,_,e2⟩=>by
   subst e1;have hi2:i<ys.length:=by omega
   rw [y5Y,iP (ct_lt hi),yb hi,yOb,yb hi2,yOb];by_cases h:xs[i]=ys[i]
   ·left;rw [iN (by simpa using h),nxt (by omega)];exact⟨_,rfl,rfl,hi,by rw [yTs hi,yTs hi2,e2,h]⟩
   ·right;rw [iP (by simpa using h)];refine⟨_,rfl,?_⟩;rw [decide_eq_false (fun e=>h (by subst e;rfl))]) (fun s ⟨e1,_,e2⟩=>by
   subst e1;rw [y5Y,iN ct_ge];refine⟨_,rfl,?_⟩;rw [List.take_length,hn,List.take_length] at e2;rw [decide_eq_true e2]) (yZl _) 0 ⟨rfl,yZl _,rfl⟩
 rw [h1,yOb,←h2];cases o <;> rfl
section
variable{q:ProbT}{t:TaskT}{p:AutT}{T:List LI}{n1 n2 n:Nat}
theorem yjN(h:TaskOk q t p T n1 n2 n){k:Nat}(hk:T[k]? =some [x,y]){l:LI}(hl:l.length≤1000):y7r t (k:Int) l=some ((brn q.1 q.2.2 [] x l).isSome&&decide (2≤l.length)&&decide (l.length≤3)):=by
 rw [y7r];by_cases hz:2≤l.length∧l.length≤3
 case neg=>
  rw [iP (by simp;omega)];congr 1;symm;rw [Bool.and_assoc,show(decide (2≤l.length)&&decide (l.length≤3))=false from by simp;omega,Bool.and_false]
 obtain⟨z2,z3⟩:=hz;rw [iN (by simp;omega)];obtain⟨bs,b1,b2,b3⟩:=ydW h hk (z:=l.length) z3;rw [b1,yOb];obtain⟨o,g1,g2⟩:=yen (xs:=bs) (f:=y3G l) (g:=fun b=>decide (b=l)) (fun b hb=>by
  have:=((b3.mem b).1 hb).2.2;rw [y3G,yiE (by omega),yOb]) (by omega)
 have g1:iter (y7n bs (y3G l)) 0=some o:=g1;have hm:l∈bs↔(brn q.1 q.2.2 [] x l).isSome=true:=by
  rw [b3.mem,Option.isSome_iff_exists];constructor
  ·rintro ⟨⟨v,hv⟩,_⟩;obtain⟨h1,h2,h3⟩:=h.isrun.1 hv;exact⟨v,yby.2 ⟨h1,h2,h3,fun e _ he=>by cases he⟩⟩
  ·rintro ⟨v,hv⟩;obtain⟨h1,h2,h3,_⟩:=yby.1 hv;exact⟨⟨v,h.isrun.2 ⟨h1,h2,h3⟩⟩,z2,yNr _⟩
 rw [y4U,y6o,g1,yOb];rw [decide_eq_true z2,decide_eq_true z3,Bool.and_true,Bool.and_true];rcases g2 with ⟨rfl,g3⟩|⟨i,hi,rfl,g3,_⟩
 ·have:(brn q.1 q.2.2 [] x l).isSome=false:=by
   cases hb:(brn q.1 q.2.2 [] x l).isSome with
   | false=>rfl
   | true=>
    have:=g3 l (hm.2 hb);simp at this
  rw [this];rfl
 ·have:(brn q.1 q.2.2 [] x l).isSome=true:=hm.1 (by
   have:=of_decide_eq_true g3;rw [←this];exact yGm hi)
  rw [this];simp
theorem vj1(b:Bool):y1p b=some (if b=true then 0 else 24):=by
 cases b <;> rfl
end
section
variable{q:ProbT}{t:TaskT}{p:AutT}{T:List LI}{n1 n2 n:Nat}
def l3(u:LI)(m a b c:Nat):LI:=[u.getD a 0,u.getD b 0,u.getD c 0].take m
theorem gd(hi:i<u.length):u.getD i 0=u[i]:=by rw [yGd,yGe hi,Option.getD_some]
end
theorem ycU{q:PbT}:∀(w:LI) {x y x' y':Int},w.foldl (flw q) (x,y,false)=(x',y',false)→hdl q.2.1 y w=(y',w.length)
 | [],x,y,x',y',h=>by
  cases h;rfl
 | e::w,x,y,x',y',h=>by
  rw [List.foldl_cons,flw,iN (by simp)] at h;dsimp only at h;rw [hdl];cases h1:st1 q.1 x e with
  | none=>
   rw [h1] at h;dsimp only at h;rw [ydw q w _ rfl] at h;cases h
  | some t=>
   rw [h1] at h;dsimp only at h;cases hb:hasB q.2.1.1 e with
   | true=>
    rw [hb,iP rfl] at h;rw [iP rfl];cases h2:st1 q.2.1 y e with
    | none=>
     rw [h2] at h;dsimp only at h;rw [ydw q w _ rfl] at h;cases h
    | some u=>
     rw [h2] at h;dsimp only at h ⊢;rw [ycU w h];rfl
   | false=>
    rw [hb,iN (by simp)] at h;rw [iN (by simp),ycU w h];rfl
theorem yc0{S:AutT}:∀(l:LI) {y y':Int} (al:Bool),hdl S y l=(y',l.length)→(l.filter (hasB S.1)).foldl (hnS S) (y,al)=(y',al)
 | [],y,y',al,h=>by
  cases h;rfl
 | e::l,y,y',al,h=>by
  rw [hdl] at h;cases hb:hasB S.1 e with
  | true=>
   rw [hb,iP rfl] at h;rw [List.filter_cons_of_pos hb,List.foldl_cons,hnS];dsimp only;cases h2:st1 S y e with
   | none=>
    rw [h2] at h;cases h
   | some u=>
    rw [h2] at h;dsimp only at h ⊢;have h3:hdl S u l=(y',l.length):=by
     have e1:=congrArg Prod.fst h;have e2:=congrArg Prod.snd h;rw [yLc] at e2;exact Prod.ext e1 (Nat.succ.inj e2)
    exact yc0 l al h3
  | false=>
   rw [hb,iN (by simp)] at h;rw [List.filter_cons_of_neg (by simp [hb])];have h3:hdl S y l=(y',l.length):=by
    have e1:=congrArg Prod.fst h;have e2:=congrArg Prod.snd h;rw [yLc] at e2;exact Prod.ext e1 (Nat.succ.inj e2)
   exact yc0 l al h3
theorem yez{S:AutT}{n:Nat}(hS:Right S n){l:LI}(hn:l.Nodup):imL S l 32=(isL l).filter (hasB S.1):=by
 refine ydr yev ?_ fun e=>?_
 ·have hp:=y6H l;have hd:(isL l).Nodup:=hp.nodup_iff.2 hn;exact List.Pairwise.filter _ ((ydI _).imp₂ (fun _ _ h1 h2=>by omega) hd)
 ·rw [ycT hS,List.mem_filter,ya,(y6H l).mem_iff]
theorem ykL{S:AutT}{n:Nat}(hS:Right S n){y':Int}(al:Bool)(hn:w.Nodup)(h:hdl S y w=(y',w.length))(ho:2≤w.length→okB S y w=true):hnL S w (y,al)=(y',al):=by
 have hs:hdl S y (isL w)=(y',(isL w).length):=by
  have hl:(isL w).length=w.length:=(y6H w).length_eq;by_cases h2:2≤w.length
  ·have hk:=ho h2;unfold okB at hk;simp only [yAe,beq_iff_eq] at hk;obtain⟨⟨_,k2⟩,k3⟩:=hk;rw [h] at k3;rw [hl];refine Prod.ext k3.symm ?_;show(hdl S y (isL w)).2=w.length;omega
  ·have:isL w=w:=by
    match w,h2 with
    | [],_=>rfl
    | [e],_=>rfl
    | _::_::_,h2=>simp at h2
   rw [this];exact h
 rw [hnL,yez hS hn];exact yc0 _ al hs
section
variable{q:PbT}{p:AutT}{T:List LI}{n n1 n2:Nat}
theorem ygU(h:LoopZ q.1 q.2.1 p T n){k:Nat}{t:Int}(hk:T[k]? =some [x,y])(he:e∈q.1.1)(ht:st1 q.1 x e=some t)(hs:hasB q.2.1.1 e=true→(st1 q.2.1 y e).isSome=true):
  ∃(k':Nat) (y':Int),st1 p (k:Int) e=some (k':Int)∧T[k']? =some [t,y']∧flw q (x,y,false) e=(t,y',false):=by
 have hp:e∈p.1:=(h.ev e).2 (.inl he);have hy:=h.yes k x y e;rw [pst,iP (ya.2 he),ht] at hy;rw [flw,iN (by simp)];dsimp only;rw [ht];dsimp only;by_cases hb:hasB q.2.1.1 e=true
 ·rw [iP hb] at hy;rw [iP hb];obtain⟨u,hu⟩:=Option.isSome_iff_exists.1 (hs hb);rw [hu] at hy;obtain⟨k',g1,g2⟩:=hy t u hk hp rfl;exact⟨k',u,g1,g2,by rw [hu]⟩
 ·rw [iN hb] at hy;rw [iN hb];obtain⟨k',g1,g2⟩:=hy t y hk hp rfl;exact⟨k',y,g1,g2,rfl⟩
end
abbrev LpT :=BenT×Int×Bool
theorem yiF{z:LpT}{n:Nat}(hP:Right z.1.1.1 n)(e:Int):y3Y z e=some ((st1 z.1.1.1 z.1.2.2.1 e).getD (-1)):=by
 obtain⟨k,h1,h2⟩:=yer (xs:=z.1.1.1.2.2.2) (p:=y1R (some z) e) (q:=fun x=>x.1==z.1.2.2.1&&x.2.1==e) hP.l3 (fun x=>by
  rw [y1R,yOb];by_cases hx:(x.1==z.1.2.2.1)=true
  ·rw [iP hx,y1t,hx,Bool.true_and]
  ·rw [iN hx,y1t];simp only [Bool.not_eq_true] at hx;rw [hx,Bool.false_and])
 rw [y3Y,h1,yOb];unfold st1;rcases h2 with ⟨rfl,g⟩|⟨i,hi,rfl,g⟩
 ·rw [g,iP (by simp)];rfl
 ·rw [g,iN (by simp),yOb,yb hi,yOb];rfl
def lpZ(q:PbT)(c:CodT×List Bool×List Bool)(z:RunT):LpT:=((q,c.1,z.1,c.2),z.2)
theorem yjO{q:PbT}(hP:Right q.1 n1)(hS:Right q.2.1 n2)(c:CodT×List Bool×List Bool)(z:RunT)(e:Int):y4F (lpZ q c z) e=some (lpZ q c (flw q z e)):=by
 obtain⟨pl,su,lo⟩:=z;rw [y4F,flw];dsimp only [lpZ];cases lo with
 | true=>rfl
 | false=>
  rw [iN (by simp),y6M,yiF (by dsimp only;exact hP),yOb];dsimp only;rw [ydU hP];cases h1:st1 q.1 pl e with
  | none=>
   rw [iN (by simp),y2f,yOb];rfl
  | some t=>
   have ht:=ydU hP pl e;rw [h1] at ht;rw [iP (by rfl),y2f,yOb];have ht2:decide (t≥0)=true:=ht;show y2g e ((q,c.1,t,c.2),su,!(decide (t≥0)))=_;rw [ht2,show(!true)=false from rfl,y2g];dsimp only;rw [iN (by simp),yG (by have:=hS.l1;omega),yOb,y3z];cases hb:hasB q.2.1.1 e with
   | false=>rfl
   | true=>
    rw [iN (by simp),iP rfl];obtain⟨k,g1,g2⟩:=yer (xs:=q.2.1.2.2.2) (p:=y3X (some ((q,c.1,t,c.2),su,false)) e) (q:=fun x=>x.1==su&&x.2.1==e) hS.l3 (fun x=>by
     rw [y3X,yOb];by_cases hx:(x.1==su)=true
     ·rw [iP hx,y1E,hx,Bool.true_and]
     ·rw [iN hx,y1E];simp only [Bool.not_eq_true] at hx;rw [hx,Bool.false_and])
    dsimp only [Option.getD_some];rw [g1,yOb];unfold st1;rcases g2 with ⟨rfl,g⟩|⟨i,hi,rfl,g⟩
    ·rw [g];rfl
    ·rw [g,iN (by simp),yb hi,yOb];rfl
theorem yjP{q:PbT}(hP:Right q.1 n1)(hS:Right q.2.1 n2)(c:CodT×List Bool×List Bool)(z:RunT)(hl:w.length≤1000000):iter (y2t w) (0,lpZ q c z)=some (lpZ q c (w.foldl (flw q) z)):=by
 have e0:((0:Int),lpZ q c z)=(fun k:Nat=>((k:Int),lpZ q c ((w.take k).foldl (flw q) z))) 0:=rfl;refine Eq.trans (congrArg _ e0) (y2D (f:=y2t w) (fun k:Nat=>((k:Int),lpZ q c ((w.take k).foldl (flw q) z))) w.length (by omega) (fun k hk=>?_) ?_)
 ·rw [y2t,iP (ct_lt hk),yb hk,yOb,yjO hP hS,yOb,nxt (by omega),yTs hk,List.foldl_append];rfl
 ·rw [y2t,iN ct_ge,List.take_length]
theorem yjQ{xs:LI}{p:Int→Option Bool}{g:Int→Bool}(hl:xs.length≤1000000)(hp:∀x∈xs,p x=some (g x)):y4s xs p=some (xs.any g):=by
 obtain⟨o,h1,h2⟩:=ye (f:=y2J xs p) (fun i s=>s=(i:Int)∧xs.any g=(xs.drop i).any g) (fun o=>(o= .inl ()∧xs.any g=false)∨∃i:Nat,o= .inr (i:Int)∧xs.any g=true) xs.length 0 (by omega) (fun i s hi ⟨e1,e2⟩=>by
  subst e1;rw [yDc hi,List.any_cons] at e2;rw [y2J,iP (ct_lt hi),yb hi,yOb,hp _ (yGm hi),yOb];cases hg:g xs[i] with
  | true=>
   rw [hg] at e2;exact .inr ⟨_,by rw [iP rfl],.inr ⟨i,rfl,e2⟩⟩
  | false=>
   rw [hg] at e2;exact .inl ⟨_,by rw [iN (by simp),nxt (by omega)],rfl,e2⟩) (fun s ⟨e1,e2⟩=>by
  subst e1;rw [List.drop_length] at e2;exact⟨_,by rw [y2J,iN ct_ge],.inl ⟨rfl,e2⟩⟩) (yZl _) 0 ⟨rfl,rfl⟩
 rw [y4s,y2z,h1,yOb];rcases h2 with ⟨rfl,e⟩|⟨i,rfl,e⟩
 ·rw [e];rfl
 ·rw [e];show some (decide ((i:Int)≥0))=some true;simp
def bad55(q:PbT)(l:List StpR):Bool:=(l.flatMap wdR).any fun e=>!hasB q.1.1 e
theorem yf7{q:PbT}(hP:Right q.1 n1)(hS:Right q.2.1 n2)(he:yr q=some e){l:List StpR}(hs:Shw l)(hl:l.length≤1000):
  y2m q l=some (if e≠0 then(0,0,false,e) else if bad55 q l=true then(0,0,false,9) else((difR q 0 (0,0,false) l).1,(difR q 0 (0,0,false) l).2.1,(difR q 0 (0,0,false) l).2.2,0)):=by
 have hfl:=yf3 hs;rw [y2m,he,yOb];by_cases h0:e=0
 case neg=>rw [iP (by simpa using h0),iP h0]
 rw [iN (by simpa using h0),iN (show ¬e≠0 from fun h=>h h0),ykI hs hl,yOb,yjQ (g:=fun e=>!hasB q.1.1 e) (by omega) (fun x _=>by rw [y4r,yG (by have:=hP.l1;omega),yOb]),yOb];cases hb:bad55 q l with
 | true=>
  unfold bad55 at hb;rw [hb,iP rfl,iP rfl]
 | false=>
  unfold bad55 at hb;rw [hb,iN (by simp),iN (by simp)];obtain⟨o,h1,h2⟩:=ye (f:=y2u l) (fun i s=>s.1=(i:Int)∧∃z,s.2=lpZ q ((((0,0,0,[],[]),[],[],0):CodT),[],[]) z∧difR q 0 (0,0,false) l=difR q (i:Int) z (l.drop i)) (fun o=>(o= .inl ()∧difR q 0 (0,0,false) l=(0,0,false))∨∃u:Int×Int,o= .inr u∧difR q 0 (0,0,false) l=(u.2,u.1,true)) l.length 0 (by omega) (fun i s hi ⟨e1,z,e2,e3⟩=>by
   obtain⟨j,y⟩:=s;dsimp only at e1 e2;subst e1 e2;have hw:=hs _ (yGm hi);have hwl:=yex hw;rw [yDc hi,difR] at e3;rw [y2u,iP (ct_lt hi),yb hi,yOb,yiu hw,yOb,yjP hP hS _ _ (by omega),yOb];generalize (wdR l[i]).foldl (flw q) z=z2 at *;obtain⟨z1,zs,zl⟩:=z2;dsimp only at e3;rw [show lpZ q ((((0,0,0,[],[]),[],[],0):CodT),[],[]) (z1,zs,zl)=((q,((0,0,0,[],[]),[],[],0),z1,[],[]),zs,zl) from rfl];dsimp only;cases zl with
   | true=>
    rw [iP (by rfl)] at e3;exact .inr ⟨_,by rw [iP (by rfl)],.inr ⟨(1,(i:Int)),rfl,e3⟩⟩
   | false=>
    rw [iN (by simp)] at e3;rw [iN (by simp)];generalize l[i]=s at *;obtain⟨s1,s2,s3,s4,s5,s6,s7⟩:=s;dsimp only at e3 ⊢;cases s7 with
    | true=>
     rw [iP (by rfl)] at e3;exact .inr ⟨_,by rw [iP (by rfl)],.inr ⟨(2,(i:Int)),rfl,e3⟩⟩
    | false=>
     rw [iN (by simp)] at e3;rw [iN (by simp)];cases c3:s6 != zs with
     | true=>
      rw [c3,iP (by rfl)] at e3;exact .inr ⟨_,by rw [iP (by rfl)],.inr ⟨(3,(i:Int)),rfl,e3⟩⟩
     | false=>
      rw [c3,iN (by simp)] at e3;exact .inl ⟨(_,_),by rw [iN (by simp),nxt (by omega)],rfl,(z1,zs,false),rfl,e3⟩) (fun s ⟨e1,z,e2,e3⟩=>by
   obtain⟨j,y⟩:=s;dsimp only at e1;subst e1;rw [List.drop_length,difR] at e3;exact⟨_,by rw [y2u,iN ct_ge],.inl ⟨rfl,e3⟩⟩) (yZl _) (0,lpZ q ((((0,0,0,[],[]),[],[],0):CodT),[],[]) (0,0,false)) ⟨rfl,_,rfl,rfl⟩
  have h1:iter (y2u l) (0,(q,((0,0,0,[],[]),[],[],0),0,[],[]),0,false)=some o:=h1;rw [h1,yOb];rcases h2 with ⟨rfl,g⟩|⟨u,rfl,g⟩
  ·rw [g]
  ·rw [g]
section
variable{q:PbT}{p:AutT}{T:List LI}{n n1 n2:Nat}
theorem ykM{pr:CycT→LI}{r:RunT}{l:List CycT}(hl:∀c∈l,CycIn q c)(hpr:∀c∈l,∀e∈pr c,e= -1∨(e∈q.1.1∧e∉q.2.2)):bad55 q (y3j q (fun c=>chP q (pr c)) r l)=false:=by
 unfold bad55;rw [List.any_eq_false];intro e he;obtain⟨s,g1,g2⟩:=List.mem_flatMap.1 he;obtain⟨r',c,hc,rfl⟩:=ybZ g1;have hi:=hl c hc;have:e∈q.1.1:=by
  rcases yMa.1 g2 with g2|g2
  ·rcases yMa.1 g2 with g2|g2
   ·exact (hi.i1 e ((yaq q.1 c.1 r'.1).subset g2)).1
   ·exact (hi.i2 e ((yaq q.1 c.2.1 (midR q r' c).1).subset g2)).1
  ·split at g2
   ·rename_i hd;rw [yMs.1 g2];have hd:dnR q (midR q r' c) c (chP q (pr c) (midR q r' c))=true:=hd;rw [dnR,yAe] at hd;have hne:chP q (pr c) (midR q r' c)≠ -1:=by simpa using hd.1
    obtain⟨hm,_⟩:=(ycy q (pr c) (midR q r' c)).resolve_left hne;exact((hpr c hc _ hm).resolve_left hne).1
   ·cases g2
 rw [ya.2 this];simp
end
def GoodW(q:PbT)(p:AutT)(T:List LI)(w:Int×LI×LI):Prop:=
  ∃(k:Nat) (x y:Int),stw (st1 p) 0 w.2.1=some (k:Int)∧T[k]? =some [x,y]∧
    ((w.1=1∧(∃v,IsRun q.1 q.2.2 x w.2.2 v)∧2≤w.2.2.length∧w.2.2.length≤3∧okB q.2.1 y w.2.2=false)∨
     (w.1=2∧∃u c,w.2.2= [u,c]∧u∈q.1.1∧c∈q.1.1∧dL q p T (k:Int) u c=true))
theorem vj24(b:Bool):∃c,y1p b=some c∧(c=0↔b=true):=by
 rw [vj1];cases b with
 | true=>exact⟨0,rfl,by simp⟩
 | false=>exact⟨24,rfl,by simp⟩
section
variable{q:PbT}{t:TaskT}{p:AutT}{T:List LI}{n1 n2 n:Nat}
theorem yiG(h:TaskOk q t p T n1 n2 n)(ho:y2x q=some (some t,0))(h0:0<n){kd:Int}{wd ev:LI}(lw:wd.length≤100000)(le:ev.length≤1000)(hkd:kd=1∨kd=2):∃c,y3Z q [] (kd,wd,ev)=some c∧(c=0↔GoodW q p T (kd,wd,ev)):=by
 obtain⟨ui,ul,um⟩:=h.uni;obtain⟨ci,cl,cm⟩:=h.con;rw [y3Z,ygO h ho (by simp),iP (show priE q.1.1 q.2.2 [] []=0 from rfl),yOb,iN (by simp),yOb];dsimp only;rw [ydu h.g3 h.loop.right (by omega),iN (by omega),yOb];cases hst:stw (st1 p) 0 wd with
 | none=>
  have hno:¬GoodW q p T (kd,wd,ev):=by
   rintro⟨k,x,y,g,_⟩;have g:stw (st1 p) 0 wd=some (k:Int):=g;rw [hst] at g;cases g
  rcases hkd with rfl|rfl
  ·rw [iP (by rfl),iN (by simp),yOb,iN (by simp),yOb];obtain⟨c,g1,g2⟩:=vj24 false;exact⟨c,g1,by rw [g2];exact⟨(fun h=>by cases h),fun h=>absurd h hno⟩⟩
  ·rw [iN (by simp),iP (by rfl),iN (by simp)];obtain⟨c,g1,g2⟩:=vj24 false;exact⟨c,g1,by rw [g2];exact⟨(fun h=>by cases h),fun h=>absurd h hno⟩⟩
 | some v=>
  have hv:=yfN h.loop.right hst (Int.le_refl _) (by omega);obtain⟨k,rfl⟩:∃k:Nat,v=(k:Int):=⟨v.toNat,by omega⟩;obtain⟨x,y,hk,_⟩:=h.pair (k:=k) (by rw [h.loop.tl];omega);have huniq:∀(k':Nat) (x' y':Int),stw (st1 p) 0 wd=some (k':Int)→T[k']? =some [x',y']→k'=k∧x'=x∧y'=y:=fun k' x' y' a b=>by
   rw [hst] at a;have:k'=k:=by have:=ySi a;omega
   subst this;rw [hk] at b;cases b;exact⟨rfl,rfl,rfl⟩
  rcases hkd with rfl|rfl
  ·rw [iP (by rfl),Option.getD_some,iP (by simp),yjN h hk le,yOb,yOb];have hgood:GoodW q p T (1,wd,ev)↔((brn q.1 q.2.2 [] x ev).isSome&&decide (2≤ev.length)&&decide (ev.length≤3))=true∧okB q.2.1 y ev=false:=by
    constructor
    ·rintro ⟨k',x',y',a,b,⟨_,⟨v,hr⟩,l2,l3,hok⟩|⟨hc,_⟩⟩
     ·obtain ⟨rfl,rfl,rfl⟩:=huniq k' x' y' a b;refine⟨?_,hok⟩;have:brn q.1 q.2.2 [] x' ev=some v:=yby.2 ⟨hr.1,hr.2.1,hr.2.2,fun e _ he=>by cases he⟩;rw [this,decide_eq_true l2,decide_eq_true l3];rfl
     ·cases hc
    ·rintro ⟨hb,hok⟩;rw [yAe,yAe,decide_eq_true_eq,decide_eq_true_eq] at hb;obtain⟨⟨b1,b2⟩,b3⟩:=hb;obtain⟨v,hv⟩:=Option.isSome_iff_exists.1 b1;obtain⟨r1,r2,r3,_⟩:=yby.1 hv;exact⟨k,x,y,hst,hk,.inl ⟨rfl,⟨v,r1,r2,r3⟩,b2,b3,hok⟩⟩
   rw [hgood];cases hb:(brn q.1 q.2.2 [] x ev).isSome&&decide (2≤ev.length)&&decide (ev.length≤3) with
   | false=>
    rw [iN (by simp),yOb];obtain⟨c,g1,g2⟩:=vj24 false;exact⟨c,g1,by rw [g2];simp⟩
   | true=>
    rw [iP rfl,ydO h hk (by omega),yOb,yOb];obtain⟨c,g1,g2⟩:=vj24 (!okB q.2.1 y ev);exact⟨c,g1,by rw [g2];simp⟩
  ·rw [iN (by simp),iP (by rfl),Option.getD_some,iP (by simp)];have hbad:∀{b:Prop},¬b→∃c,y1p false=some c∧(c=0↔b):=fun {b} hb=>by
    obtain⟨c,g1,g2⟩:=vj24 false;exact⟨c,g1,by rw [g2];exact⟨(fun h=>by cases h),fun h=>absurd h hb⟩⟩
   match ev,le with
   | [u,c],_=>
    have hgood:GoodW q p T (2,wd,[u,c])↔u∈q.1.1∧c∈q.1.1∧dL q p T (k:Int) u c=true:=by
     constructor
     ·rintro ⟨k',x',y',a,b,⟨hc,_⟩|⟨_,u',c',e,g⟩⟩
      ·cases hc
      ·obtain ⟨rfl,rfl,rfl⟩:=huniq k' x' y' a b;cases e;exact g
     ·intro g;exact⟨k,x,y,hst,hk,.inr ⟨rfl,u,c,rfl,g⟩⟩
    rw [hgood,iP (by rfl),show idx [u,c] 0=some u from rfl,yOb,y2v (by omega) ui,yOb,dL];by_cases hu:u∈q.1.1∧u∈q.2.2
    case neg=>
     have:hasB t.2.2.2.2.1 u=false:=by rw [←Bool.not_eq_true,ya,um];exact hu
     rw [this,iN (by simp)];refine hbad fun⟨g1,_,g3⟩=>hu ⟨g1,?_⟩;rw [yAe,yAe] at g3;exact ya.1 g3.1.1
    rw [ya.2 ((um u).2 hu),iP rfl,show idx [u,c] 1=some c from rfl,yOb,y2v (by omega) ci,yOb];by_cases hc:c∈q.1.1∧c∉q.2.2
    case neg=>
     have:hasB t.2.2.2.2.2 c=false:=by rw [←Bool.not_eq_true,ya,cm];exact hc
     rw [this,iN (by simp)];refine hbad fun⟨_,g2,g3⟩=>hc ⟨g2,fun hm=>?_⟩;rw [ya.2 hm] at g3;simp at g3
    rw [ya.2 ((cm c).2 hc),iP rfl,yOb,yOb,ydR h,yOb];obtain⟨z,g1,g2⟩:=vj24 (dB q.1 p T (k:Int) u c);refine⟨z,g1,?_⟩;have hcf:hasB q.2.2 c=false:=by rw [←Bool.not_eq_true,ya];exact hc.2
    rw [g2,ya.2 hu.2,hcf];simp [hu.1,hc.1]
   | [],_ | [_],_ | _::_::_::_,_=>
    rw [iN (by simp <;> omega)];refine hbad ?_;rintro⟨k',x',y',a,b,⟨hc,_⟩|⟨_,u',c',e,g⟩⟩
    ·cases hc
    ·cases e
end
abbrev chS(q:PbT):CycT→RunT→Int:=fun c=>chP q [c.2.2]
def cyW(q:PbT)(e:Int):CycT:=if hasB q.2.2 e=true then([e],[],-1) else([],[],e)
theorem ybz(S:AutT)(z:Int×Bool):hnL S [] z=z:=by
 have:imL S [] 32= []:=by
  unfold imL;rw [List.filter_eq_nil_iff];intro a _;simp [hasB]
 rw [hnL,this];rfl
theorem yfT(q:PbT)(m:RunT):chP q [-1] m= -1:=by
 rcases ycy q [-1] m with h|⟨h,_⟩
 ·exact h
 ·exact yMs.1 h
theorem ygV{q:PbT}{m:RunT}(h:perm q m e=true):chP q [e] m=e:=by
 rw [chP,List.find?_cons,h];rfl
theorem ygW(P:AutT):∀(b:LI) {x v:Int},stw (st1 P) x b=some v→trE P b x=(v,b)
 | [],x,v,h=>by
  cases h;rfl
 | e::b,x,v,h=>by
  rw [stw] at h;obtain⟨t,h1,h2⟩:=Option.bind_eq_some_iff.1 h;rw [trE,h1];dsimp only;rw [ygW P b h2]
theorem ycA(S:AutT):∀(l:LI) (y:Int),(l.foldl (hnS S) (y,true)).2=true
 | [],_=>rfl
 | e::l,y=>by
  rw [List.foldl_cons,hnS];dsimp only;cases st1 S y e with
  | none=>exact ycA S l y
  | some t=>exact ycA S l t
theorem ycB{S:AutT}:∀(l:LI) {y:Int} (al:Bool),(hdl S y l).2≠l.length→((l.filter (hasB S.1)).foldl (hnS S) (y,al)).2=true
 | [],y,al,h=>absurd rfl h
 | e::l,y,al,h=>by
  rw [hdl] at h;cases hb:hasB S.1 e with
  | true=>
   rw [hb,iP rfl] at h;rw [List.filter_cons_of_pos hb,List.foldl_cons,hnS];dsimp only;cases h2:st1 S y e with
   | none=>exact ycA S _ y
   | some u=>
    rw [h2] at h;exact ycB l al fun hc=>h (by rw [yLc];exact congrArg (· + 1) hc)
  | false=>
   rw [hb,iN (by simp)] at h;rw [List.filter_cons_of_neg (by simp [hb])];exact ycB l al fun hc=>h (by rw [yLc];exact congrArg (· + 1) hc)
section
variable{q:PbT}{p:AutT}{T:List LI}{n n1 n2:Nat}
theorem yeA(h:LoopZ q.1 q.2.1 p T n)(hs:∀e∈q.2.1.1,e∈q.1.1){k:Nat}(hk:T[k]? =some [x,y])(hv:st1 p (k:Int) e=some v):e∈q.1.1∧∃(k':Nat) (t y':Int),v=(k':Int)∧T[k']? =some [t,y']∧st1 q.1 x e=some t∧flw q (x,y,false) e=(t,y',false)∧(hasB q.2.1.1 e=true→(st1 q.2.1 y e).isSome=true):=by
 have hp:=(y6a h.right hv).2.2.2.2;have he:e∈q.1.1:=((h.ev e).1 hp).elim id (hs e);have hps:∃z,pst q.1 q.2.1 x y e=some z:=by
  cases hps:pst q.1 q.2.1 x y e with
  | none=>
   rw [h.no k x y e hk hp hps] at hv;cases hv
  | some z=>exact⟨z,rfl⟩
 obtain⟨z,hps⟩:=hps;rw [pst,iP (ya.2 he)] at hps;obtain⟨t,ht,hps⟩:=Option.bind_eq_some_iff.1 hps;have hb:hasB q.2.1.1 e=true→(st1 q.2.1 y e).isSome=true:=fun hb=>by
  rw [iP hb] at hps;cases h2:st1 q.2.1 y e with
  | none=>rw [h2] at hps;cases hps
  | some u=>rfl
 obtain⟨k',y',g1,g2,g3⟩:=ygU h hk he ht hb;rw [hv] at g1;exact⟨he,k',t,y',ySi g1,g2,ht,g3,hb⟩
theorem ygX{t:Int}{al:Bool}(ht:st1 q.1 x e=some t)(hb:hasB q.2.1.1 e=true→(st1 q.2.1 y e).isSome=true):perm q (x,y,al) e=true:=by
 rw [perm];dsimp only;rw [ht];cases h1:hasB q.2.1.1 e with
 | false=>rfl
 | true=>rw [hb h1];rfl
theorem yla(h:LoopZ q.1 q.2.1 p T n)(hP:Right q.1 n1)(hS:Right q.2.1 n2)(hs:∀e∈q.2.1.1,e∈q.1.1){k:Nat}(hk:T[k]? =some [x,y])(hv:st1 p (k:Int) e=some v):
  ∃(k':Nat) (t y':Int),v=(k':Int)∧T[k']? =some [t,y']∧cycR q (chS q) (x,y,false) (cyW q e)=(t,y',false)∧(wdR (stpR q (x,y,false) (cyW q e) (chS q (cyW q e)))).foldl (flw q) (x,y,false)=(t,y',false):=by
 obtain⟨he,k',t,y',g1,g2,ht,g3,hb⟩:=yeA h hs hk hv;have hne:e≠ -1:=fun hc=>by have:=(hP.alr e he).1;omega
 have h1:hnL q.2.1 [e] (y,false)=(y',false):=ykL hS false (by simp) (ycU [e] (by rw [List.foldl_cons,List.foldl_nil];exact g3)) fun h=>by simp at h
 refine⟨k',t,y',g1,g2,?_⟩;unfold cyW;by_cases hu:hasB q.2.2 e=true
 ·rw [iP hu];have htr:trE q.1 [e] x=(t,[e]):=by rw [trE,ht];rfl
  have hm:midR q (x,y,false) ([e],[],-1)=(t,y',false):=by
   rw [midR];dsimp only;rw [htr,h1]
  have hd:dnR q (t,y',false) ([e],[],-1) (-1)=false:=rfl;have hcn:∀m,chS q ([e],[],-1) m= -1:=yfT q;refine⟨?_,?_⟩
  ·rw [cycR,hm,hcn,finR,hd,iN (by simp)];show(t,hnL q.2.1 [] (y',false))=_;rw [ybz]
  ·rw [stpR,hm,hcn,hd,wdR];dsimp only;rw [htr,iN (by simp)];show [e].foldl (flw q) (x,y,false)=_;rw [List.foldl_cons,List.foldl_nil,g3]
 ·rw [iN hu];have hm:midR q (x,y,false) ([],[],e)=(x,y,false):=by
   rw [midR];show(x,hnL q.2.1 [] (y,false))=_;rw [ybz]
  have hch:chS q ([],[],e) (x,y,false)=e:=ygV (ygX ht hb);have hd:dnR q (x,y,false) ([],[],e) e=true:=by
   rw [dnR];have:(e != -1)=true:=by simpa using hne
   rw [this];rfl
  refine⟨?_,?_⟩
  ·rw [cycR,hm,hch,finR,hd,iP rfl];show((st1 q.1 x e).getD x,hnL q.2.1 [e] (hnL q.2.1 [] (y,false)))=_;rw [ybz,h1,ht];rfl
  ·rw [stpR,hm,hch,hd,wdR];dsimp only;rw [iP rfl];show [e].foldl (flw q) (x,y,false)=_;rw [List.foldl_cons,List.foldl_nil,g3]
theorem ygY(h:LoopZ q.1 q.2.1 p T n)(hP:Right q.1 n1)(hS:Right q.2.1 n2)(hs:∀e∈q.2.1.1,e∈q.1.1):∀(w:LI) {k:Nat} {x y:Int} {k':Nat},T[k]? =some [x,y]→stw (st1 p) (k:Int) w=some (k':Int)→
  ∃x' y',T[k']? =some [x',y']∧∀(i:Int) (tl:List CycT),difR q i (x,y,false) (y3j q (chS q) (x,y,false) (w.map (cyW q)++tl))=difR q (i+(w.length:Int)) (x',y',false) (y3j q (chS q) (x',y',false) tl)
 | [],k,x,y,k',hk,hw=>by
  have:k=k':=by have:=ySi hw;omega
  subst this;exact⟨x,y,hk,fun i tl=>by rw [List.map_nil,List.nil_append];simp⟩
 | e::w,k,x,y,k',hk,hw=>by
  rw [stw] at hw;obtain⟨v,h1,h2⟩:=Option.bind_eq_some_iff.1 hw;obtain⟨k1,t,y1,rfl,g2,g3,g4⟩:=yla h hP hS hs hk h1;obtain⟨x',y',f1,f2⟩:=ygY h hP hS hs w g2 h2;refine⟨x',y',f1,fun i tl=>?_⟩;rw [List.map_cons,List.cons_append,y3j,difR,g4,iN (by simp)];have e1:(stpR q (x,y,false) (cyW q e) (chS q (cyW q e))).2.2.2.2.2=(cycR q (chS q) (x,y,false) (cyW q e)).2:=rfl;rw [e1,g3,iN (by simp),iN (by simp),f2,yLc];congr 1;omega
theorem yjR(hS:Right q.2.1 n2){b:LI}(hr:IsRun q.1 q.2.2 x b v)(hl:2≤b.length)(ho:okB q.2.1 y b=false)(i:Int):∃kd,difR q i (x,y,false) (y3j q (chS q) (x,y,false) [(b,[],-1)])=(i,kd,true):=by
 have htr:=ygW q.1 b hr.1;have hm:midR q (x,y,false) (b,[],-1)=(v,hnL q.2.1 b (y,false)):=by
  rw [midR];dsimp only;rw [htr]
 have hd:∀m,dnR q m (b,[],-1) (-1)=false:=fun _=>rfl;have hcn:∀m,chS q (b,[],-1) m= -1:=yfT q;have hst:stpR q (x,y,false) (b,[],-1) (chS q (b,[],-1))=(b,[],enR q (hnL q.2.1 b (y,false)).1,-1,false,hnL q.2.1 b (y,false)):=by
  rw [stpR,hm,hcn,hd];dsimp only;rw [htr,finR,hd,iN (by simp)];show(b,[],_,_,_,(hnL q.2.1 [] (hnL q.2.1 b (y,false))).1,(hnL q.2.1 [] (hnL q.2.1 b (y,false))).2)=_;rw [ybz]
 have hwd:wdR (b,[],enR q (hnL q.2.1 b (y,false)).1,-1,false,hnL q.2.1 b (y,false))=b:=by
  show b++[]++[]=b;simp
 rw [y3j,difR,hst,hwd];dsimp only;by_cases h1:(b.foldl (flw q) (x,y,false)).2.2=true
 ·exact ⟨1,by rw [iP h1]⟩
 rw [iN h1];by_cases h2:(hnL q.2.1 b (y,false)).2=true
 ·exact ⟨2,by rw [iP h2]⟩
 rw [iN h2];refine⟨3,?_⟩;have hz:b.foldl (flw q) (x,y,false)=((b.foldl (flw q) (x,y,false)).1,(b.foldl (flw q) (x,y,false)).2.1,false):=Prod.ext rfl (Prod.ext rfl (by simpa using h1));have hh:=ycU b hz;have hlen:(isL b).length=b.length:=(y6H b).length_eq;have hs2:(hdl q.2.1 y (isL b)).2=(isL b).length:=by
  by_cases hc:(hdl q.2.1 y (isL b)).2=(isL b).length
  ·exact hc
  ·exact absurd (by rw [hnL,yez hS hr.2.2];exact ycB _ false hc) h2
 have hs3:=yc0 (isL b) (y':=(hdl q.2.1 y (isL b)).1) false (Prod.ext rfl hs2);have hs4:(hnL q.2.1 b (y,false)).1=(hdl q.2.1 y (isL b)).1:=by rw [hnL,yez hS hr.2.2,hs3]
 have hne:(hdl q.2.1 y b).1≠(hdl q.2.1 y (isL b)).1:=fun hc=>by
  unfold okB at ho;rw [hs2,hc,hh,hlen] at ho;simp at ho
 rw [iP (by
  rw [hs4,bne_iff_ne];rw [hh] at hne;exact fun hc=>hne hc.symm)]
theorem yjS(h:LoopZ q.1 q.2.1 p T n)(hP:Right q.1 n1)(hs:∀e∈q.2.1.1,e∈q.1.1){k:Nat}{u c:Int}(hk:T[k]? =some [x,y])(hc:c∈q.1.1)(hd:dL q p T (k:Int) u c=true)(i:Int):difR q i (x,y,false) (y3j q (chS q) (x,y,false) [([],[u],c)])=(i,1,true):=by
 rw [dL,yAe,dB] at hd;have hne:c≠ -1:=fun hx=>by have:=(hP.alr c hc).1;omega
 cases hu:st1 p (k:Int) u with
 | none=>rw [hu] at hd;simp at hd
 | some r=>
 rw [hu] at hd;obtain⟨_,k1,x1,y1,rfl,g2,g3,g4,_⟩:=yeA h hs hk hu;have hd:=hd.2;dsimp only at hd;rw [yTn,g2] at hd;simp only [yAe] at hd;obtain⟨⟨d1,d2⟩,d3⟩:=hd;obtain⟨v,hv⟩:=Option.isSome_iff_exists.1 d1;obtain⟨_,_,t,_,_,_,ht,_,hb⟩:=yeA h hs hk hv;obtain⟨t1,ht1⟩:=Option.isSome_iff_exists.1 d3;have hm:midR q (x,y,false) ([],[u],c)=(x,y,false):=by
  rw [midR];show(x,hnL q.2.1 [] (y,false))=_;rw [ybz]
 have hch:chS q ([],[u],c) (x,y,false)=c:=ygV (ygX ht hb);have htr:trE q.1 [u] x=(x1,[u]):=by rw [trE,g3];rfl
 have hdn:dnR q (x,y,false) ([],[u],c) c=true:=by
  rw [dnR];dsimp only;have:(c != -1)=true:=by simpa using hne
  rw [this,yjJ,g3];dsimp only;rw [ht1];rfl
 have hwd:wdR (stpR q (x,y,false) ([],[u],c) (chS q ([],[u],c)))= [u,c]:=by
  rw [stpR,hm,hch,hdn,wdR];dsimp only;rw [htr,iP rfl];rfl
 have hlost:([u,c].foldl (flw q) (x,y,false)).2.2=true:=by
  rw [List.foldl_cons,List.foldl_cons,List.foldl_nil,g4];by_cases hok:hasB q.2.1.1 c=true→(st1 q.2.1 y1 c).isSome=true
  ·obtain ⟨k2,_,e1,_,_⟩:=ygU h g2 hc ht1 hok;rw [e1] at d2;simp at d2
  ·rw [Classical.not_imp] at hok;rw [flw,iN (by simp)];dsimp only;rw [ht1];dsimp only;rw [iP hok.1];cases h2:st1 q.2.1 y1 c with
   | none=>rfl
   | some z=>rw [h2] at hok;simp at hok
 rw [y3j,difR,hwd,iP hlost]
end
theorem ykN{α:Type}{xs:List α}(h:i<xs.length):slc xs (i:Int) (((i+1:Nat)):Int)=some [xs[i]]:=by
 rw [slc,iP ⟨by omega,by omega,by omega⟩,yTn,yTn,yTs h,List.drop_append_of_le_length (by rw [yLt];omega),List.drop_of_length_le (by rw [yLt];exact Nat.min_le_left _ _)];rfl
def lastW(w:Int×LI×LI):CycT:=if w.1=1 then(w.2.2,[],-1) else([],[w.2.2.getD 0 0],w.2.2.getD 1 0)
def scL(q:PbT)(w:Int×LI×LI):List CycT:=w.2.1.map (cyW q)++[lastW w]
section
variable{q:PbT}{t:TaskT}{p:AutT}{T:List LI}{n n1 n2 m1 m2:Nat}{w:Int×LI×LI}
theorem yiH{k:Nat}(hk:k<w.2.1.length):(w.2.1.take (k+1)).map (cyW q)=(w.2.1.take k).map (cyW q)++[cyW q w.2.1[k]]:=by
 rw [yTs hk,List.map_append];rfl
theorem yga(hu:q.2.2.length≤1000000)(hl:w.2.1.length≤1000000):iter (y3S q w) (0,[])=some (w.2.1.map (cyW q)):=by
 have e0:((0:Int),([]:List CycT))=(fun k:Nat=>((k:Int),(w.2.1.take k).map (cyW q))) 0:=rfl;refine Eq.trans (congrArg _ e0) (y2D (f:=y3S q w) (fun k:Nat=>((k:Int),(w.2.1.take k).map (cyW q))) w.2.1.length (by omega) (fun k hk=>?_) ?_)
 ·have hle:((w.2.1.take k).map (cyW q)).length≤1000000:=by rw [yLm,yLt];omega
  rw [y3S,iP (ct_lt hk),yb hk,yOb,yG (by omega),yOb,yiH hk];dsimp only;have hc:cyW q w.2.1[k]=if hasB q.2.2 w.2.1[k]=true then([w.2.1[k]],[],-1) else([],[],w.2.1[k]):=rfl
  rw [hc];cases hasB q.2.2 w.2.1[k] with
  | true=>rw [iP rfl,iP rfl,yg (by simp;omega),yOb,y3R,nxt (by omega)]
  | false=>rw [iN (by simp),iN (by simp),yg (by simp;omega),yOb,y3R,nxt (by omega)]
 ·rw [y3S,iN ct_ge,List.take_length]
theorem yfU(hu:q.2.2.length≤1000000)(hl:w.2.1.length≤1000000):iter (y3i q w) (0,[])=some (w.2.1.map (cyW q)):=by
 have e0:((0:Int),([]:List CycT))=(fun k:Nat=>((k:Int),(w.2.1.take k).map (cyW q))) 0:=rfl;refine Eq.trans (congrArg _ e0) (y2D (f:=y3i q w) (fun k:Nat=>((k:Int),(w.2.1.take k).map (cyW q))) w.2.1.length (by omega) (fun k hk=>?_) ?_)
 ·have hle:((w.2.1.take k).map (cyW q)).length≤1000000:=by rw [yLm,yLt];omega
  rw [y3i,iP (ct_lt hk),yb hk,yOb,has55 hu,yOb,yiH hk];dsimp only;have hc:cyW q w.2.1[k]=if hasB q.2.2 w.2.1[k]=true then([w.2.1[k]],[],-1) else([],[],w.2.1[k]):=rfl
  rw [hc];cases hasB q.2.2 w.2.1[k] with
  | true=>rw [iP rfl,iP rfl,nxt (by omega),ykN hk,yOb,yg (by simp;omega),yOb,y3h,nxt (by omega)]
  | false=>rw [iN (by simp),iN (by simp),yOb,yg (by simp;omega),yOb,y3h,nxt (by omega)]
 ·rw [y3i,iN ct_ge,List.take_length]
theorem ycC{c:Int}(hu:q.2.2.length≤1000000)(he:yr q=some e)(hv:y3Z q [] w=some c)(hg:c=0→(w.1=1∨w.1=2)→GoodW q p T w)(hl:w.2.1.length≤1000000)(hl2:w.2.2.length≤1000000):
  y2E q w=some (if e≠0 then([],e) else if w.1≠1∧w.1≠2 then([],11) else if c≠0 then([],c) else(scL q w,0)):=by
 rw [y2E,he,yOb];by_cases h0:e=0
 case neg=>rw [iP (by simpa using h0),iP h0]
 rw [iN (by simpa using h0),iN (show ¬e≠0 from fun h=>h h0)];by_cases hk:w.1≠1∧w.1≠2
 ·rw [iP (by simpa using hk),iP hk]
 rw [iN (by simpa using hk),iN hk,hv,yOb];have hk:w.1=1∨w.1=2:=by omega
 by_cases hc:c=0
 case neg=>rw [iP (by simpa using hc),iP hc]
 rw [iN (by simpa using hc),iN (show ¬c≠0 from fun h=>h hc),yga hu hl,yOb,scL,lastW];rcases hk with hk|hk
 ·rw [iP (by simpa using hk),iP hk,y7H (by omega),yOb,yg (by simp;omega),yOb]
 ·obtain ⟨k,x,y,_,_,⟨h1,_⟩|⟨_,u,z,hev,_⟩⟩:=hg hc (.inr hk)
  ·omega
  ·rw [iN (by simp [hk]),iN (by omega),hev,show idx [u,z] 0=some u from rfl,yOb,show idx [u,z] 1=some z from rfl,yOb,yg (by simp;omega),yOb];rfl
theorem ylb(h:TaskOk q t p T n1 n2 n)(hg:GoodW q p T w):∀c∈scL q w,CycIn q c:=by
 obtain⟨k,x,y,hst,hk,hkd⟩:=hg;have hin:∀e,e∈p.1→e∈q.1.1:=fun e he=>((h.loop.ev e).1 he).elim id (h.sub e);intro c hc;rcases yMa.1 hc with hc|hc
 ·obtain ⟨e,he,rfl⟩:=yMp.1 hc;have hP:=hin e (ydX h.loop.right hst e he);unfold cyW;by_cases hu:hasB q.2.2 e=true
  ·rw [iP hu];exact⟨by simp,by simp,by simp,by simp,fun a ha=>by rw [yMs.1 ha];exact⟨hP,ya.1 hu⟩,(fun a ha=>by cases ha),.inl rfl⟩
  ·rw [iN hu];exact⟨by simp,by simp,by simp,by simp,(fun a ha=>by cases ha),(fun a ha=>by cases ha),.inr ⟨hP,fun hm=>hu (ya.2 hm)⟩⟩
 ·rw [yMs.1 hc,lastW];rcases hkd with ⟨h1,⟨v,hr⟩,_,l3,_⟩|⟨h2,u,z,hev,hu,hz,hd⟩
  ·rw [iP h1];exact⟨l3,by simp,hr.2.2,by simp,fun a ha=>⟨ydX h.rP hr.1 a ha,hr.2.1 a ha⟩,(fun a ha=>by cases ha),.inl rfl⟩
  ·rw [iN (by omega),hev];rw [dL,yAe,yAe] at hd;refine⟨by simp,by simp,by simp,by simp,(fun a ha=>by cases ha),fun a ha=>?_,.inr ⟨hz,fun hm=>?_⟩⟩
   ·have ha:a=u:=yMs.1 ha;rw [ha];exact⟨hu,ya.1 hd.1.1⟩
   ·have hm:z∈q.2.2:=hm;rw [ya.2 hm] at hd;simp at hd
theorem yiI{l:List CycT}(hl:l.length≤1000000)(hc:∀c∈l,CycIn q c)(e:Int):iter (y3f l (l,e)) 0=some (.inl ()):=
 y2D (f:=y3f l (l,e)) (fun k:Nat=>(k:Int)) l.length (by omega) (fun k hk=>by
  have h:=hc _ (yGm hk);have h1:=h.l1;have h2:=h.l2;rw [y3f];dsimp only;rw [iP (ct_lt hk),yb hk,yOb,yOb,ydV (by omega),yOb,iN (by simp),yOb,yOb,ydV (by omega),yOb,iN (by simp),yOb,yOb,y3e,iN (by simp),nxt (by omega)]) (by rw [y3f];dsimp only;rw [iN ct_ge])
theorem yjT(h:TaskOk q t p T n1 n2 n)(h0:0<n)(hs:SimOk q m1 m2)(hu:q.2.2.length≤1000000)(he:yr q=some 0)(hv:y3Z q [] w=some 0)(hg:GoodW q p T w)(hl:w.2.1.length≤100000)(hl2:w.2.2.length≤1000):yR q w=some true:=by
 have hin:=ylb h hg;have hlen:(scL q w).length=w.2.1.length+1:=by rw [scL,yLa,yLm];rfl
 have hk12:w.1=1∨w.1=2:=by
  obtain⟨_,_,_,_,_,⟨h1,_⟩|⟨h2,_⟩⟩:=hg
  ·exact .inl h1
  ·exact .inr h2
 have hsc:=ycC (p:=p) (T:=T) hu he hv (fun _ _=>hg) (by omega) (by omega);rw [iN (show ¬(0:Int)≠0 from fun h=>h rfl),iN (by omega),iN (show ¬(0:Int)≠0 from fun h=>h rfl)] at hsc;have hj:y3g q w (scL q w)=some true:=by
  rw [y3g,hsc,yOb,iN (by simp),yiI (by omega) hin,yOb];dsimp only;by_cases hb:256<(scL q w).length
  ·rw [iP (by simp;omega)]
  have hc:∀c∈scL q w,c.1.length≤50∧c.2.1.length≤50:=fun c hc=>by
   have:=(hin c hc).l1;have:=(hin c hc).l2;omega
  have hf:=yiA hs (pr:=fun c=> [c.2.2]) (r:=(0,0,false)) hc;have hsl:=ybY q (fun c=>chP q [c.2.2]) (scL q w) (0,0,false);have hbad:=ykM (q:=q) (pr:=fun c=> [c.2.2]) (r:=(0,0,false)) hin fun c hc e he=>by rw [yMs.1 he];exact(hin c hc).cm
  rw [iN (by simp;omega),yl9 hu hs.rP he (fun _=>hs) (by omega) (fun c h=>by have:=hc c h;omega),yOb,iN (show ¬(0:Int)≠0 from fun h=>h rfl),iN (show ¬scE q (scL q w)≠0 from fun h=>h (yfS.2 hin))];dsimp only;rw [yf7 hs.rP hs.rS he (fun s hm=>(hf s hm).1) (by omega),yOb,iN (show ¬(0:Int)≠0 from fun h=>h rfl),hbad,iN (show ¬(false=true) by simp)];have hd:∃kd,difR q 0 (0,0,false) (y3j q (fun c=>chP q [c.2.2]) (0,0,false) (scL q w))=((w.2.1.length:Int),kd,true):=by
   obtain⟨k,x,y,hst,hk,hkd⟩:=hg;obtain⟨x',y',f1,f2⟩:=ygY h.loop hs.rP hs.rS h.sub w.2.1 (h.loop.t0 h0) hst;rw [hk] at f1;cases f1;have f3:=f2 0 [lastW w];rw [Int.zero_add] at f3;have f3:difR q 0 (0,0,false) (y3j q (fun c=>chP q [c.2.2]) (0,0,false) (scL q w))=_:=f3;rw [f3,lastW];rcases hkd with ⟨h1,⟨v,hr⟩,l2,_,hok⟩|⟨h2,u,z,hev,hu,hz,hdl⟩
   ·rw [iP h1];exact yjR hs.rS hr l2 hok _
   ·rw [iN (by omega),hev];exact⟨1,yjS h.loop hs.rP h.sub hk hz hdl _⟩
  obtain⟨kd,hd⟩:=hd;rw [hd];have hW:W ((((scL q w).length:Nat):Int)-1)=(w.2.1.length:Int):=by
   rw [hlen,show(((w.2.1.length+1:Nat):Int)-1)=((w.2.1.length:Nat):Int) by omega,W_nat (by omega)]
  dsimp only;rw [hW];simp
 rw [yR,yfU hu (by omega),yOb];have hsl:scL q w=w.2.1.map (cyW q)++[lastW w]:=rfl;rcases hk12 with h1|h2
 ·rw [iP (by simpa using h1),yg (by simp;omega),yOb];rw [hsl,lastW,iP h1] at hj;exact hj
 ·obtain ⟨_,_,_,_,_,⟨h1,_⟩|⟨_,u,z,hev,_⟩⟩:=hg
  ·omega
  ·rw [iN (by simp [h2]),hev,show slc [u,z] 0 1=some [u] from rfl,yOb,show idx [u,z] 1=some z from rfl,yOb,yg (by simp;omega),yOb];rw [hsl,lastW,iN (by omega),hev] at hj;exact hj
end
section
variable{q:PbT}{t:TaskT}{p:AutT}{T:List LI}{n n1 n2 m1 m2:Nat}
theorem yjU(h:TaskOk q t p T n1 n2 n)(ho:y2x q=some (some t,0)){kd:Int}{wd ev:LI}(lw:wd.length≤100000)(hk:kd≠1∧kd≠2):∃c,y3Z q [] (kd,wd,ev)=some c:=by
 rw [y3Z,ygO h ho (by simp),iP (show priE q.1.1 q.2.2 [] []=0 from rfl),yOb,iN (by simp),yOb];dsimp only;rw [ydu h.g3 h.loop.right (by omega),yOb,iN (by simpa using hk.1),iN (by simpa using hk.2)];by_cases h3:kd=3
 case neg=>exact⟨11,by rw [iN (by simpa using h3)]⟩
 rw [iP (by simpa using h3)];obtain⟨g,r,X,hg,hgr,hr⟩:=yf6 h [] (by simp);have hRr:=hr.right;obtain⟨b,hb1,hb2,hb3⟩:=yi8 hgr hRr;rw [hg,yOb,ydu hgr hRr (by omega),yOb];by_cases hc:(((if X.length=0 then(-1:Int) else(stw (st1 r) 0 wd).getD (-1)) != -1)&&((ev.length:Int)==0))=true
 ·rw [iP hc];rw [yAe,bne_iff_ne] at hc;by_cases h0:X.length=0
  ·rw [iP h0] at hc;exact absurd rfl hc.1
  rw [iN h0] at hc ⊢;cases hst:stw (st1 r) 0 wd with
  | none=>rw [hst] at hc;exact absurd rfl hc.1
  | some v=>
   have hv:=yfN hRr hst (Int.le_refl _) (by omega);obtain⟨k,rfl⟩:∃k:Nat,v=(k:Int):=⟨v.toNat,by omega⟩;rw [hb1,yOb,Option.getD_some,yb (show k<b.length by omega),yOb,yOb,vj1];exact⟨_,rfl⟩
 ·rw [iN hc,yOb,vj1];exact⟨_,rfl⟩
end
theorem ygb{x:Des26×Bool}(hd:Des26In x.1)(three:Bool)(w:Int×LI×LI):y3T x three w=some true:=by
 rw [y3T,ykG,yOb];by_cases hlen:w.2.1.length≤6∧w.2.2.length≤4
 case neg=>rw [iP (by simp;omega),yOb]
 obtain⟨lw,le⟩:=hlen;obtain⟨q,m1,m2,e,h1,hP,_,_,hm2,h2,h3,hs⟩:=ykK hd;have hul:=Alp.len ⟨hP.iu,hP.ur⟩;rw [iN (by simp;omega),h1,yOb,h3,yOb];obtain⟨t,p,T,n1,n2,n,ho,ht,hsy⟩:=hP.open;have hL:=ht.loop;have hle:=hL.le;by_cases h0:e=0
 case neg=>
  rw [iP (by simpa using h0),y2E,h2,yOb,iP (by simpa using h0),yOb];simp
 subst h0;have hk:=hs rfl;have hn0:0<n:=by
  have:=hL.zero;have h1:=hk.p0;have h2:=hk.g.n0;rw [hP.rP.nn,hP.rS.nn] at this;omega
 have good:∀(w:Int×LI×LI),w.2.1.length≤100000→w.2.2.length≤1000→GoodW q p T w→yR q w=some true:=fun w l1 l2 hg=>by
  obtain⟨kd,wd,ev⟩:=w;have hkd:kd=1∨kd=2:=by
   obtain⟨_,_,_,_,_,⟨h1,_⟩|⟨h2,_⟩⟩:=hg
   ·exact .inl h1
   ·exact .inr h2
  obtain⟨c,c1,c2⟩:=yiG ht ho hn0 l1 l2 hkd;rw [c2.2 hg] at c1;exact yjT ht hn0 hk (by omega) h2 c1 hg l1 l2
 have main:∀z:Nat,2≤z→z≤3→yN w q (z:Int)=some true:=fun z z2 z3=>by
  obtain⟨r6,o1,o2⟩:=yiD ht ho z2 z3;obtain⟨r7,d1,d2⟩:=yii ht ho;have e6:r6.2.2=0:=by
   rcases o2 with ⟨rfl,_⟩|⟨_,_,_,_,_,rfl⟩ <;> rfl
  have e7:r7.2.2=0:=by
   rcases d2 with ⟨rfl,_⟩|⟨_,_,_,_,_,rfl⟩ <;> rfl
  have s6:(if (!r6.2.1)=true then(yR q r6.1).bind fun r43=>some (!r43) else some false)=some false:=by
   rcases o2 with ⟨rfl,_⟩|⟨k,b,hk1,hf,_,rfl⟩
   ·rfl
   ·have hkn:k<n:=by rw [←hL.tl];exact hk1
    have hst:=ycw hL.right (hL.num.leads k hkn);have hwl:=ygR hL.num k hkn;obtain⟨x',y',hT,⟨v,hr⟩,l2,l3,hok⟩:=hf.1;rw [yTn] at hT;rw [iP (by rfl),good (1,wN (edsOf p) (k:Int),b) (by dsimp only;omega) (by dsimp only;omega) ⟨k,x',y',hst,hT,.inl ⟨rfl,⟨v,hr⟩,l2,by dsimp only;omega,hok⟩⟩];rfl
  have s7:(if (!r7.2.1)=true then(yR q r7.1).bind fun r39=>some (!r39) else some false)=some false:=by
   rcases d2 with ⟨rfl,_⟩|⟨k,b,hk1,hf,_,rfl⟩
   ·rfl
   ·have hkn:k<n:=by rw [←hL.tl];exact hk1
    have hst:=ycw hL.right (hL.num.leads k hkn);have hwl:=ygR hL.num k hkn;obtain⟨x',y',hT,_⟩:=ht.pair hk1;rw [iP (by rfl),good (2,wN (edsOf p) (k:Int),[b.1,b.2]) (by dsimp only;omega) (by simp) ⟨k,x',y',hst,hT,.inr ⟨rfl,b.1,b.2,rfl,hf.1,hf.2.1,hf.2.2.1⟩⟩];rfl
  rw [yN,o1,yOb,d1,yOb,e6,e7,iN (by simp),s6,yOb,yOb,iN (by simp),s7,yOb,yOb,iN (by simp)];obtain⟨kd,wd,ev⟩:=w;dsimp only at lw le;by_cases hkd:kd≠1∧kd≠2
  ·obtain ⟨c,hc⟩:=yjU ht ho (wd:=wd) (ev:=ev) (by omega) hkd;rw [ycC (p:=p) (T:=T) (by omega) h2 hc (fun _ h=>by dsimp only at h;omega) (by dsimp only;omega) (by dsimp only;omega),yOb,hc,yOb,iN (show ¬(0:Int)≠0 from fun h=>h rfl),iP hkd,iP (by simpa using hkd),yM,iP (by rfl)];rfl
  ·have hkd2:kd=1∨kd=2:=by omega
   obtain⟨c,c1,c2⟩:=yiG ht ho hn0 (wd:=wd) (ev:=ev) (by omega) (by omega) hkd2;rw [ycC (p:=p) (T:=T) (by omega) h2 c1 (fun h _=>c2.1 h) (by dsimp only;omega) (by dsimp only;omega),yOb,c1,yOb,iN (show ¬(0:Int)≠0 from fun h=>h rfl),iN hkd,iN (by simpa using hkd),yM];by_cases hc:c=0
   ·subst hc;rw [iN (by simp),iN (show ¬(0:Int)≠0 from fun h=>h rfl),iP (by rfl),good _ (by dsimp only;omega) (by dsimp only;omega) (c2.1 rfl)];rfl
   ·rw [iP (by simpa using hc),iP hc];simp
 rw [iN (by simp)];cases three with
 | true=>rw [iP rfl];exact main 3 (by omega) (by omega)
 | false=>rw [iN (by simp)];exact main 2 (by omega) (by omega)
end
section
open Go.Proofs.Tryz Go Go.RowKit Go.ChangeShapes Go.WideShapes Go.Deep
def Op(P:Program){α:Type}(r:Rep α)(Q:α→Prop)(t:TypeId):Prop:=
 ∀(H:Type) (enc:TypeId×Value→H) (w:World) (fuel:Nat) (cs:List Value) (x:DataW H×List MemPlace),DataW.trod enc P w 0 (fun _=>true) true fuel t cs=some x→∃y:α,r.rd ⟨w,fun _=>0⟩ cs y∧Q y
section
variable{P:Program}{α β:Type}{r:Rep α}{q:Rep β}{Q:α→Prop}{R:β→Prop}{t e:TypeId}
theorem Op.int{k:IntKind}(ht:P.underlying t=some (.int k)):Op P (rK k) (fun n=>k.min≤n∧n≤k.max) t:=by
 intro H enc w fuel cs x h;obtain⟨n,h1,h2,h3⟩:=DataW.trod_int ht h;refine⟨n,h1,?_⟩;simpa [Lit.wf] using h3
theorem Op.bool(ht:P.underlying t=some .bool):Op P rB (fun _=>True) t:=by
 intro H enc w fuel cs x h;obtain⟨b,h1,h2⟩:=DataW.trod_bool ht h;exact⟨b,h1,trivial⟩
theorem yiJ{H:Type}{enc:TypeId×Value→H}{w:World}{fuel:Nat}{vs:List Value}{x:DataW H×List MemPlace}(ht:P.underlying t=some (.slice e))(hc:P.cellsOf e=r.sz)(ho:Op P r Q e)(hz:0<r.sz)
  (h:DataW.trod enc P w 0 (fun _=>true) true fuel t vs=some x):∃(a:Option Addr) (c:Nat) (xs:List α),vs= [.slice a xs.length c]∧RdL r ⟨w,fun _=>0⟩ a c xs∧∀y∈xs,Q y:=by
 rcases open_slice ht h with ⟨h1,-⟩|⟨a,len,cap,m,n,D,Pl,h1,-,h3,h4,h5,-,h7⟩
 ·exact ⟨none,0,[],h1,⟨[],⟨by simp,by simp,by simp,fun _=>rfl,fun ad e=>(by cases e),fun ad e=>(by cases e)⟩,fun ad e=>(by cases e),rfl⟩,fun y hy=>(by cases hy)⟩
 ·subst h1;rw [iP rfl] at h5;subst h5;by_cases hlen:len=0
  ·subst hlen;exact⟨some a,m,[],rfl,⟨[],⟨by simp,yZl _,h4,fun e=>(by cases e),fun ad e h0=>(by simp at h0),fun ad e j hj=>(by simp at hj)⟩,fun ad e h0=>(by simp at h0),rfl⟩,fun y hy=>(by cases hy)⟩
  have hsp:a.spot=none:=by
   obtain⟨cs',k1,_⟩:=h7 0 (by omega);obtain⟨-,k5,k6⟩:=World.cells?_some k1;have:=k6 0 (by rw [hc];exact hz);rw [Nat.zero_mul,yGe (show 0<cs'.length by rw [k5,hc];exact hz)] at this;have:=World.cell?_spot this;simpa [Addr.add] using this
  have hadd:∀k,a.add k=⟨a.block,a.off+k,none⟩:=fun k=>by
   obtain⟨b,o,sp⟩:=a;dsimp only at hsp;subst hsp;unfold Addr.add;split
   ·rename_i hk;subst hk;rfl
   ·rfl
  have key:∀k,k≤len→∃(xs:List α) (cs:List Value),xs.length=k∧Cells r ⟨w,fun _=>0⟩ cs xs∧(∀y∈xs,Q y)∧∀j (hj:j<cs.length),w.cell? ⟨a.block,a.off+j,none⟩=some cs[j]:=by
   intro k
   induction k with
   | zero=>intro _;exact⟨[],[],rfl,rfl,fun y hy=>(by cases hy),fun j hj=>absurd hj (Nat.not_lt_zero _)⟩
   | succ k ih=>
    intro hk;obtain⟨xs,cs,g1,g2,g3,g4⟩:=ih (by omega);obtain⟨cs',k1,k2⟩:=h7 k (by omega);obtain⟨y,k3,k4⟩:=ho H enc w n cs' _ k2;obtain⟨-,k5,k6⟩:=World.cells?_some k1;have hl:=g2.len;rw [g1] at hl;rw [hc] at k5 k6;refine⟨xs++[y],cs++cs',by simp [g1],g2.append ⟨cs',[],by simp,k3,rfl⟩,fun z hz=>?_,fun j hj=>?_⟩
    ·rcases yMa.1 hz with hz|hz
     ·exact g3 z hz
     ·rw [yMs.1 hz];exact k4
    ·by_cases hlt:j<cs.length
     ·rw [yGl hlt];exact g4 j hlt
     ·have hj2:j-cs.length<cs'.length:=by rw [yLa] at hj;omega
      rw [List.getElem_append_right (by omega)];have:=k6 (j-cs.length) (by omega);rw [add_add,hadd,yGe hj2] at this;rw [←this];congr 2;omega
  obtain⟨xs,cs,g1,g2,g3,g4⟩:=key len (yNr _);subst g1;refine⟨some a,m,xs,rfl,⟨cs,⟨g2.len,h3,h4,fun e=>(by cases e),fun ad e _=>(by cases e;exact hsp),fun ad e j hj=>(by cases e;exact g4 j hj)⟩,fun _ _ _=>rfl,g2⟩,g3⟩
theorem yfV{H:Type}{enc:TypeId×Value→H}{w:World}{base fuel:Nat}{v:Value}{x:DataW H×List MemPlace}(ht:P.underlying t=some (.slice e))(hc:P.cellsOf e=r.sz)(ho:Op P r Q e)(_hok:Cell.okWide P w .any base t v)
  (h:DataW.trod enc P w 0 (fun _=>true) true fuel t [v]=some x) (hz:0<r.sz:=by decide):∃(a:Option Addr) (c:Nat) (xs:List α),v= .slice a xs.length c∧RdL r ⟨w,fun _=>0⟩ a c xs∧∀y∈xs,Q y:=by
 obtain⟨a,c,xs,h1,h2⟩:=yiJ ht hc ho hz h;rw [List.cons.injEq] at h1;exact⟨a,c,xs,h1.1,h2⟩
theorem yiK{w:World}{base:Nat}{v:Value}{fs:Array Field}{ts:List TypeId}(ht:P.underlying t=some (.struct fs))(hts:P.cellTypes P.depth t=some ts)(hsz:P.cellsOf t=ts.length)(hok:Value.okWide P w .any base t v):
  ∃cs,v= .agg cs∧cs.size=ts.length∧∀(i:Nat) (u:TypeId),ts[i]? =some u→∃c:Value,cs[i]? =some c∧Cell.okWide P w .any base u c:=by
 simp only [Value.okWide,ht] at hok;obtain⟨cs,rfl,h1,ts',h2,h3,h4⟩:=hok;rw [hts] at h2;cases h2;refine⟨cs,rfl,by omega,fun i u hu=>?_⟩;have hlt:i<ts.length:=(yGs.1 hu).1;obtain⟨u',g1,g2⟩:=h4 i cs[i] (Array.getElem?_eq_getElem (by omega));rw [Nat.mod_eq_of_lt hlt,hu] at g1;cases g1;exact⟨_,Array.getElem?_eq_getElem (by omega),g2⟩
theorem yjV{H:Type}{enc:TypeId×Value→H}{w:World}{fuel:Nat}{cs:List Value}{x:DataW H×List MemPlace}{fs:Array Field}(ht:P.underlying t=some (.struct fs))(h:DataW.trod enc P w 0 (fun _=>true) true fuel t cs=some x){i:Nat}{f:Field}(hf:fs[i]? =some f):
  ∃n y,DataW.trod enc P w 0 (fun _=>true) true n f.type ((cs.drop f.offset).take (P.cellsOf f.type))=some y:=by
 obtain⟨xs,n,_,_,_,h5,h6⟩:=DataW.trod_struct ht h;have hlt:=(yAs.1 hf).1;exact⟨n,xs[i]'(by omega),by rw [h6 i f hf,yGe (by omega)]⟩
theorem ycD{H:Type}{enc:TypeId×Value→H}{w:World}{fuel:Nat}{cs:List Value}{x:DataW H×List MemPlace}{fs:Array Field}(ht:P.underlying t=some (.struct fs))(h:DataW.trod enc P w 0 (fun _=>true) true fuel t cs=some x)(i:Nat)(u:TypeId){f:Field}{o:Nat}{c:Value}(hf:fs[i]? =some f)(hu:f.type=u)(ho:f.offset=o)(hc:P.cellsOf u=1)(hat:cs[o]? =some c):
  ∃n y,DataW.trod enc P w 0 (fun _=>true) true n u [c]=some y:=by
 obtain⟨n,y,g⟩:=yjV ht h hf;subst hu;subst ho;rw [hc] at g;obtain⟨hlt,he⟩:=yGs.1 hat;rw [yDc hlt,he,List.take_succ_cons,List.take_zero] at g;exact⟨n,y,g⟩
end
end
section
open Go.Proofs.Tryz Go Go.ChangeShapes Go.WideShapes Go.ChangeAt Go.RowKit Go.Deep
theorem yfW :Op prog (rK .i64) (fun n=> -9223372036854775808≤n∧n<9223372036854775808) 3:=by
 intro H enc w fuel cs x h;obtain⟨y,h1,h2⟩:=(Op.int (P:=prog) (k:= .i64) underlying3) H enc w fuel cs x h;refine⟨y,h1,?_⟩;simp [IntKind.min,IntKind.max,IntKind.signed,IntKind.bits] at h2;omega
section
variable{H:Type}{enc:TypeId×Value→H}{w:World}{base:Nat}{v:Value}{d:DataW H}{ps:List MemPlace}
theorem ygZ :prog.cellsOf 26=1:=by kernel_rfl
theorem yfX :prog.cellsOf 3=1:=by kernel_rfl
end
theorem Fw.law{P:Program}{f:FuncId}{ts:List TV}(h:Fw P f ⟨0,[]⟩ ts [] (.b true) []){w:World}{vs:List Value}(ha:All3 (fun _=> .bool false) ⟨w,fun _=>0⟩ ts vs):Calls P f vs.toArray w fun e w'=>e= .returned (.bool true)∧Below w.heap.size w w':=
 Calls.mono (h.is [] (fun _=> .bool false) ⟨w,fun _=>0⟩ vs rfl (yNr _) List.nodup_nil (fun t ht=>by cases ht) ha (fun i o h=>by simp at h)) fun e W' ⟨v,s',hw,he,hm,β',_,hv,_⟩=>by
  obtain⟨hv,_⟩:=hv;subst hw;subst hv;exact⟨he,(hm.weak (S':=No) fun t ⟨i,hi,_⟩=>by cases hi).below⟩
theorem All3.c{β:Nat→Value}{s:Sig}{x:TV}{xs:List TV}{v:Value}{us:List Value}(h:x.p β s v)(h2:All3 β s xs us):All3 β s (x::xs) (v::us):=⟨v,us,h,h2,rfl⟩
theorem yhx{α:Type}[Inhabited α]{n:Nat}{p:Nat→α→Prop}(h:∀i,i<n→∃x,p i x):∃f:Nat→α,∀i,i<n→p i (f i):=
 ⟨fun i=>if hi:i<n then Classical.choose (h i hi) else default,fun i hi=>by
  dsimp only;rw [dif_pos hi];exact Classical.choose_spec (h i hi)⟩
abbrev ylc :=(Int×y1h)×(Int×y1h)×Int
def pbT :List TypeId:=[40]++List.replicate 27 5++[40]++List.replicate 27 5++[40]
theorem arr3{cs:Array Value}(h:cs.size=3):∃a b c,cs= #[a,b,c]:=by
 obtain⟨l⟩:=cs
 match l,h with
 | [a,b,c],_=>exact⟨a,b,c,rfl⟩
theorem yiL :prog.cellTypes prog.depth 97=some [3,26,26]:=by kernel_rfl
theorem yiM :prog.cellsOf 97= [3,26,26].length:=by kernel_rfl
section
variable{H:Type}{enc:TypeId×Value→H}{w:World}{base:Nat}{v:Value}{d:DataW H}{ps:List MemPlace}
theorem yiN(hok:Value.okWide prog w .any base 4 v):∃b,v= .bool b:=by
 simp only [Value.okWide,underlying4] at hok;simp only [Cell.okWide,underlying4] at hok;cases v <;> simp_all [Cell.ok]
/-- A witness. -/
theorem ykO(hok:Value.okWide prog w .any base 97 v)(h:DataW.Trod enc prog w 0 (fun _=>true) true 97 v d ps):∃x:Int×LI×LI,∀β,(TV.a [lI x.1,lF qI x.2.1,lF qI x.2.2]).p β ⟨w,fun _=>0⟩ v:=by
 obtain⟨cs,rfl,h1,h2⟩:=yiK underlying97 yiL yiM hok;obtain⟨x,y,z,rfl⟩:=arr3 h1;obtain⟨fuel,hf⟩:=h;obtain⟨c1,e1,o1⟩:=h2 1 26 rfl;obtain⟨c2,e2,o2⟩:=h2 2 26 rfl;cases e1;cases e2;obtain⟨n0,x0,g0⟩:=ycD underlying97 hf 0 3 rfl rfl rfl yfX rfl;obtain⟨n1,x1,g1⟩:=ycD underlying97 hf 1 26 rfl rfl rfl ygZ rfl;obtain⟨n2,x2,g2⟩:=ycD underlying97 hf 2 26 rfl rfl rfl ygZ rfl;obtain⟨a,c,xs,rfl,r0,-⟩:=yfV underlying26 yfX yfW o1 g1;obtain⟨b,e,ys,rfl,r2,-⟩:=yfV underlying26 yfX yfW o2 g2;obtain⟨k,hk,-⟩:=yfW _ _ _ _ _ _ g0;cases hk;exact⟨(k,xs,ys),fun β=>⟨[_,_,_],⟨_,_,⟨rfl,rfl⟩,⟨_,_,⟨_,_,rfl,r0⟩,⟨_,_,⟨_,_,rfl,r2⟩,rfl,rfl⟩,rfl⟩,rfl⟩,rfl⟩⟩
end
theorem yOwn :ownKnob prog.godebug=none:=by kernel_rfl
theorem yLaid :laidOutB prog=true:=by kernel_rfl
section
variable{H:Type}{enc:TypeId×Value→H}
def yfY(P:Program)(ts:List TypeId):Bool:=ts.all fun t=>P.readableRec t&&decide (t<P.types.size)
theorem yca{P:Program}(hl:laidOutB P=true){W W':World}(hb:Below W.heap.size W W'){sp:Nat→Bool}:∀{ts:List TypeId} {vs:List Value} {ds:List (DataW H)} {ps:List MemPlace},yfY P ts=true→
  DataW.TrodAll enc P W 0 (fun _=>true) true ts vs ds ps→(∀x∈ps,x.block<W.heap.size)→(∀x∈ps,sp x.block=true)→DataW.TrodAll enc P W' 0 sp true ts vs ds ps
 | [],[],[],_,_,h,_,_=>h
 | [],_::_,_,_,_,h,_,_=>h.elim
 | [],[],_::_,_,_,h,_,_=>h.elim
 | t::ts,[],_,_,_,h,_,_=>h.elim
 | t::ts,_::_,[],_,_,h,_,_=>h.elim
 | t::ts,v::vs,d::ds,ps,hc,⟨p,q,h1,h2,e⟩,hlt,hsp=>by
  subst e;unfold yfY at hc;rw [List.all_cons,yAe,yAe] at hc;exact⟨p,q,WideElems.Trod_stays hl hc.1.1 (of_decide_eq_true hc.1.2) h1 (fun x hx=>hb.same (hlt x (yMl _ hx))) (fun x hx=>hsp x (yMl _ hx)),
   yca hl hb hc.2 h2 (fun x hx=>hlt x (yMr _ hx)) (fun x hx=>hsp x (yMr _ hx)),rfl⟩
theorem yjW{P:Program}(hl:laidOutB P=true){f:Func}{s:ChangeSpec}{apart fresh handsOn again:Bool}{W W':World}{args:Array Value}{ds:List (DataW H)}{before:List MemPlace}{tb:TypeId}{b:Bool}
  (hW:DataW.Whole enc P f.params.toList s.vars apart W args.toList ds [] before) (hv:s.vars= []) (hc:yfY P f.params.toList=true) (hrt:f.resultTypes= #[tb]) (ht:P.underlying tb=some .bool)
  (hr:(s.fn H (ds++[])).results= [.lit (.bool b)]) (ha:(s.fn H (ds++[])).args=ds) (hvn:(s.fn H (ds++[])).vars= []) (hb:Below W.heap.size W W'):
  s.post enc P f apart fresh handsOn again W args (.bool b) W':=by
 have hlt:∀p∈before,p.block<W.heap.size:=fun p hp=>hW.lt p hp;have hWc:=hW;obtain⟨p,q,hA,hV,rfl,hz,hn⟩:=hWc;rw [hv] at hV;obtain⟨-,rfl⟩:=trodVars_none hV;rw [List.append_nil] at hlt hz hn;have hargs:∀sp:Nat→Bool,(∀x∈p,sp x.block=true)→DataW.TrodAll enc P W' 0 sp true f.params.toList args.toList (s.fn H (ds++[])).args p:=fun sp hsp=>by
  rw [ha];exact yca hl hb hc hA hlt hsp
 have hres:∀(b0:Nat) (sp:Nat→Bool) (hd:Bool),DataW.TrodAll enc P W' b0 sp hd f.resultTypes.toList ((Value.bool b).resultList f.resultTypes.size) (s.fn H (ds++[])).results []:=fun _ _ _=>by
  rw [hr,hrt];exact trodAll_mk1 (shut_bool ht b)
 have hvars:∀sp:Nat→Bool,DataW.TrodVars enc P W' sp s.vars (s.fn H (ds++[])).vars []:=fun sp=>by rw [hv,hvn];rfl
 have hold:∀x∈p,(fun b=>decide (b<W.heap.size)) x.block=true:=fun x hx=>by simpa using hlt x hx
 refine⟨ds,[],p++[],[],p,[],hW,hres _ _ _,hargs _ hold,hvars _,World.keptBut_mono (fun x hx=>?_) (hb.frame (· ∈p)),fun _=>?_⟩
 ·exact ⟨by rwa [List.append_nil],Or.inr (.inl hx)⟩
 ·have hok:=ok_one (f:=f) (W':=W') (by rw [hrt]) rfl (okWide_bool_mk (W':=W') ht b);refine⟨hok,_,_,([]++p)++[],⟨[]++p,[],trodAll_append (hargs _ (fun _ _=>rfl)) (hres _ _ _),hvars _,rfl,?_,?_⟩,?_⟩
  ·intro b0 off hp;have hin:MemPlace.cell b0 off∈p:=by simpa using hp
   rw [hb.frozen (hlt _ hin)];exact hz b0 off hin
  ·intro hap;simpa using hn hap
  ·intro x hx _;simpa using hx
end
def lay24 : List (String × DataW Unit) := [("math/bits.deBruijn32tab", Rows.laid_math_bits_deBruijn32tab), ("math/bits.deBruijn64tab", Rows.laid_math_bits_deBruijn64tab), ("internal/strconv.uint64pow10", Rows.laid_internal_strconv_uint64pow10)]
theorem yiO(os:Os)(args:Array Value):laidMetH prog lay24 ((World.laidAll prog os lay24).forCall (fun _ _=>0) ⟨#[],args,[]⟩).memory:=
 laidMetH_of_parts3 (fuel:=8) (laidMet_laidAll args (by kernel_rfl) (by kernel_rfl)) (by kernel_rfl) (by kernel_rfl)
theorem yjX :prog.cellTypes prog.depth 95=some (pbT++[4]):=by kernel_rfl
theorem yjY :prog.cellsOf 95=(pbT++[4]).length:=by kernel_rfl
section
variable{H:Type}{enc:TypeId×Value→H}{w:World}{base:Nat}{v:Value}{d:DataW H}{ps:List MemPlace}
theorem yjZ(hok:Value.okWide prog w .any base 95 v):∃x:ylc×Bool,GrIn x.1.1.2∧GrIn x.1.2.1.2∧∀β s,(TV.a (lx95 x)).p β s v:=by
 obtain⟨cs,rfl,h1,h2⟩:=yiK underlying95 yjX yjY hok;have h1':cs.size=58:=h1;obtain⟨f,hf⟩:=yhx (α:=Int) (n:=57) (p:=fun i n=>cs[i]? =some (.int .u8 n)∧0≤n∧n<256) (fun i hi=>by
  obtain⟨u,hu,hu2⟩:∃u,pbT[i]? =some u∧(u=40∨u=5):=by
   refine⟨pbT[i]'hi,yGe (l:=pbT) hi,?_⟩;have:=yGm (l:=pbT) hi;generalize pbT[i]'hi=u at this;simp only [pbT,yMa,yMs,List.mem_replicate] at this;rcases this with (((h|h)|h)|h)|h
   ·exact .inl h
   ·exact .inr h.2
   ·exact .inl h
   ·exact .inr h.2
   ·exact .inl h
  obtain⟨c,g1,g2⟩:=h2 i u (by rw [yAl hi];exact hu);have g2':Cell.okWide prog w .any base 5 c:=by
   rcases hu2 with rfl|rfl
   ·simp only [Cell.okWide,Cell.ok,underlying40,underlying5] at g2 ⊢;exact g2
   ·exact g2
  obtain⟨n,rfl,g3⟩:∃n:Int,c= .int .u8 n∧0≤n∧n<256:=by
   simp only [Cell.okWide,underlying5] at g2';cases c <;> simp_all [Cell.ok];rename_i k n;obtain⟨rfl,h2⟩:=g2';simp [IntKind.has,IntKind.min,IntKind.max,IntKind.signed,IntKind.bits] at h2;omega
  exact⟨n,g1,g3⟩)
 obtain⟨b,hb⟩:∃b,cs[57]? =some (.bool b):=by
  obtain⟨c,g1,g2⟩:=h2 57 4 rfl;simp only [Cell.okWide,underlying4] at g2;cases c <;> simp_all [Cell.ok]
 have hcs:cs=((List.range 57).map (fun i=>Value.int .u8 (f i))++[Value.bool b]).toArray:=by
  apply Array.ext_getElem?;intro i;by_cases hi:i<57
  ·rw [(hf i hi).1,List.getElem?_toArray,yAl (by simpa using hi)];simp [hi]
  ·by_cases hi2:i=57
   ·subst hi2;rw [hb];rfl
   ·rw [Array.getElem?_eq_none (by omega),Array.getElem?_eq_none (by simp;omega)]
 have gr:∀o,o+27≤57→GrIn (f o,f (o+1),((f (o+2),f (o+3),f (o+4),f (o+5),f (o+6)),(f (o+7),f (o+8),f (o+9),f (o+10),f (o+11)),(f (o+12),f (o+13),f (o+14),f (o+15),f (o+16)),(f (o+17),f (o+18),f (o+19),f (o+20),f (o+21)),(f (o+22),f (o+23),f (o+24),f (o+25),f (o+26)))):=fun o ho=>by
  refine⟨(hf o (by omega)).2,fun y hy=>?_⟩;have hy2:y∈(List.range 25).map fun i=>f (o+(i+2)):=hy;obtain⟨i,hi,rfl⟩:=yMp.1 hy2;have:=List.mem_range.1 hi;exact(hf (o+(i+2)) (by omega)).2
 refine⟨(((f 0,f 1,f 2,((f 3,f 4,f 5,f 6,f 7),(f 8,f 9,f 10,f 11,f 12),(f 13,f 14,f 15,f 16,f 17),(f 18,f 19,f 20,f 21,f 22),(f 23,f 24,f 25,f 26,f 27))),(f 28,f 29,f 30,((f 31,f 32,f 33,f 34,f 35),(f 36,f 37,f 38,f 39,f 40),(f 41,f 42,f 43,f 44,f 45),(f 46,f 47,f 48,f 49,f 50),(f 51,f 52,f 53,f 54,f 55))),f 56),b),gr 1 (by omega),gr 29 (by omega),fun β s=>?_⟩;refine⟨(List.range 57).map (fun i=>Value.int .u8 (f i))++[Value.bool b],?_,by rw [hcs]⟩;exact yb6 (cs:=(List.range 57).map (fun i=>Value.int .u8 (f i))++[Value.bool b]) (yAt.2 fun x hx=>by
  rcases yMa.1 hx with hx|hx
  ·obtain ⟨i,_,rfl⟩:=yMp.1 hx;rfl
  ·rw [yMs.1 hx];rfl)
end
theorem yaI(os:Os)(started:os.Started)(H:Type)(enc:TypeId×Value→H):
  ReturnsInHanded {} Tryz.checked os 10 .any (fun w args=>(Rows.simulationScriptsSpec.pre enc prog Tryz.f10 [] false w args∧laidMetH prog lay24 w)∧sizedMet enc prog Tryz.f10 (OpenSpec.ofChange Rows.simulationScriptsSpec) false w args) (Rows.simulationScriptsSpec.post enc prog Tryz.f10 false true false false):=by
 refine returnsInHanded_of_change_and (C:=Tryz.checked) (X:=fun w _=>laidMetH prog lay24 w) (fun _ _ _ hh h=>h.of_heap hh) yOwn started (by kernel_rfl) func10
  (ChangeSpec.witness_shaped (enc:=enc) (C:=Tryz.checked) (os:=os) (X:=fun w _=>laidMetH prog lay24 w) false (World.laidAll prog os lay24) #[.agg (Array.replicate 57 (.int .u8 0) ++ #[.bool false]),.bool false,.agg #[.int .i64 0,.slice none 0 0,.slice none 0 0]] 8 (World.laidAll_os _ _ _) (World.shaped_of_ZipB (by kernel_rfl) (by kernel_rfl)) (by kernel_rfl) (by kernel_rfl) (by kernel_rfl) (yiO os _)) ?_
 intro W base args ds gs before hval0 hW _ _ _ _;have hval:∀(j:Nat) t v,Tryz.f10.params[j]? =some t→args[j]? =some v→Value.okWide prog W .any base t v:=hval0;have hW':=hW;obtain⟨p,q,hA0,hV,rfl,hfz,hnd⟩:=hW;have hA:DataW.TrodAll enc prog W 0 (fun _=>true) true Tryz.f10.params.toList args.toList ds p:=hA0;rw [Tryz.params10] at hA hval;obtain⟨v0,v1,v2,d0,d1,d2,p0,p1,p2,rfl,rfl,rfl,h0,h1,h2⟩:=trodAll_three hA;obtain⟨x,g1,g2,r0⟩:=yjZ (hval 0 95 v0 rfl rfl);obtain⟨b,rfl⟩:=yiN (hval 1 4 v1 rfl rfl);obtain⟨y,r1⟩:=ykO (hval 2 97 v2 rfl rfl) h2;obtain⟨rfl,rfl⟩:=trodVars_none hV;clear hA0 hval0;refine Calls.mono ((y8p (ygb (x:=x) ⟨g1,g2⟩ b y)).law (All3.c (r0 _ _) (All3.c ⟨rfl,rfl⟩ (All3.c (r1 _) rfl)))) fun e W' ⟨he,hbl⟩=>?_;subst he;exact⟨_,rfl,yjW yLaid hW' rfl (by kernel_rfl) (by kernel_rfl) underlying4 rfl rfl rfl hbl⟩
end
section
open Go.Proofs.Tryz Go Go.RowKit
set_option maxRecDepth 100000
theorem ykP :prog.stopsHeard=true:=by kernel_rfl
theorem ykQ :prog.mayEnter=true:=by kernel_rfl
theorem ykR :(laidOutB prog&&mapsRowed prog)=true:=by kernel_rfl
theorem ykS :(prog.stops==[])=true:=by kernel_rfl
theorem yk0 :(prog.stopKnobs==[])=true:=by kernel_rfl
theorem yk1 :false=prog.looks []:=by kernel_rfl
end
section
open Go.Proofs.Tryz Go Go.ChangeShapes Go.WideShapes Go.ChangeAt Go.RowKit Go.Deep
theorem yc1 :(Rows.simulationScriptsRow.inPlace==prog.inPlace 10)=true:=by kernel_rfl
theorem yc2 :(Rows.simulationScriptsRow.unfollowed==prog.unfollowed 10)=true:=by kernel_rfl
theorem yc3 :(Rows.simulationScriptsRow.recurses==prog.recurses 10)=true:=by kernel_rfl
theorem yc4 :(Rows.simulationScriptsRow.named==prog.varsNamed 10)=true:=by kernel_rfl
theorem yc5 :(Rows.simulationScriptsRow.lifted==prog.liftsFinal)=true:=by kernel_rfl
theorem yaJ :joinedFacts prog 10 Tryz.f10 Rows.simulationScriptsSpec Rows.simulationScriptsRow=true:=by
 have h8:=ykR;rw [yAe] at h8;unfold joinedFacts;rw [h8.1,h8.2,yc1,yc2,yc3,yc4,yc5,ykP,ykQ,ykS,yk0];change (_:Bool)=true;kernel_rfl
theorem yaN :Rows.SimulationScriptsSaid:=
 OpenClaim.holds_of_wide 10 Tryz.f10 rfl rfl rfl rfl rfl rfl rfl ⟨rfl,rfl,rfl,rfl,rfl⟩ rfl rfl rfl rfl rfl (by kernel_rfl) func10 yaJ
  (of_decide_eq_true (by kernel_rfl)) (by unfold Func.isWrapper;first | (rw [iP (by decide +kernel)];kernel_rfl)|(rw [iN (by decide +kernel)];exact⟨rfl,rfl⟩))
  (fun os started H enc _=>yaI os started H enc)
theorem simulationScripts_k12 :false=Rows.simulationScriptsRow.goesBy prog:=by kernel_rfl
theorem simulationScripts_k13 : prog.funcNamed "overseer/overseerlaw55.SimulationScripts" = some 10 := by kernel_rfl
theorem simulationScripts_k14 :(Tryz.f10.params.toList.all fun u=>!(prog.wantsStandIn u))=true:=by kernel_rfl
theorem simulationScripts_k15 :Rows.simulationScriptsRow.wfByText (OpenSpec.ofChange Rows.simulationScriptsSpec)=true:=by kernel_rfl
theorem simulationScripts_card_holds :Rows.SimulationScriptsCardSaid:=
 Claim7.holds_tied_plain_at .later [] [.data,.data,.data] true _ false
  yaN (fun _ h=>by cases h) simulationScripts_k15 (fun _ h=>by cases h) simulationScripts_row_tie rfl ⟨rfl,rfl⟩ (by kernel_rfl) rfl
  (fun f fn hf hfn=>by
   obtain rfl:f=10:=ySi (simulationScripts_k13.symm.trans hf) |>.symm;obtain rfl:fn=Tryz.f10:=(ySi (func10.symm.trans hfn)).symm;exact⟨yk1,fun j t ht=>by
    have hm:t∈Tryz.f10.params:=Array.mem_of_getElem? ht;exact(show prog.wantsStandIn t=false by simpa using yAt.1 simulationScripts_k14 t (Array.mem_toList_iff.2 hm))⟩)
  simulationScripts_k12
end
end Go.Proofs.YtfdeiphkmjdifaaGreatDoor
