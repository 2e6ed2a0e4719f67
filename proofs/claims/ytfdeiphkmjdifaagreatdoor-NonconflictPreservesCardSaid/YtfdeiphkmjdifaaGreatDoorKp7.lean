/- NonconflictPreserves returns true for all arguments, and leaves its arguments as they were. The condition: three tables of Go's library (math/bits, internal/strconv) hold what their source text lays, and the card ties this to the text. -/
import Derived.Deep.Slices
import Derived.ChangeSame
import Derived.ProofKit
import Derived.OpenShut
import Derived.Test.YtfdeiphkmjdifaaGreatDoorRows
import Derived.Test.YtfdeiphkmjdifaaGreatDoorTie
import Derived.Test.YtfdeiphkmjdifaaGreatDoorCards
import Derived.Test.YtfdeiphkmjdifaaGreatDoorProg
import Derived.Lay
import Derived.LaidMore
import Derived.LaidHandle
import Derived.SevenTiedAt
import Derived.Stop.Joined
import Derived.Test.YtfdeiphkmjdifaaGreatDoorKp6
set_option maxRecDepth 100000
namespace Go.Proofs.YtfdeiphkmjdifaaGreatDoor
section
open Go.Proofs.Tryz
structure Num (es:List Ed) (n:Nat):Prop where
 so:es.Pairwise fun x y=>x.f<y.f∨(x.f=y.f∧x.e<y.e)
 rng:∀x∈es,0≤x.f∧x.f<(n:Int)∧0≤x.t∧x.t<(n:Int)∧0≤x.e∧x.e<32
 cov:∀k:Nat,0<k→k<n→∃x∈es,x.t=(k:Int)
 ear:∀i (hi:i<es.length) (k:Int),0<k→k<es[i].t→∃j,∃hj:j<es.length,j<i∧es[j].t=k
 fst:∀i (hi:i<es.length),(∀j (hj:j<es.length),j<i→es[j].t≠es[i].t)→es[i].t=0∨es[i].f<es[i].t
theorem yaL{es:List Ed}{k:Int}{x:Ed}(h:es.find? (fun y=>y.t==k)=some x):∃i,∃hi:i<es.length,es[i]=x∧x.t=k∧∀j (hj:j<es.length),j<i→es[j].t≠k:=by
 rw [List.find?_eq_some_iff_getElem] at h;obtain⟨h1,i,hi,h2,h3⟩:=h;refine⟨i,hi,h2,by simpa using h1,fun j hj hji e=>?_⟩;have:=h3 j hji;simp [e] at this
def wordN(es:List Ed):Nat→Int→LI
 | 0,_=> []
 | f+1,k=>if k≤0 then [] else match es.find? (fun y=>y.t==k) with
  | none=> []
  | some x=>wordN es f x.f++[x.e]
def wN(es:List Ed)(k:Int):LI:=wordN es k.toNat k
namespace Num
variable{es:List Ed}{n:Nat}
theorem find(h:Num es n){k:Nat}(h0:0<k)(h1:k<n):∃x,es.find? (fun y=>y.t==(k:Int))=some x∧x∈es∧x.t=(k:Int)∧0≤x.f∧x.f<(k:Int):=by
 obtain⟨y,hy,ht⟩:=h.cov k h0 h1;cases hf:es.find? (fun y=>y.t==(k:Int)) with
 | none=>exact absurd (by simpa using ht) (by simpa using List.find?_eq_none.1 hf y hy)
 | some x=>
  obtain⟨i,hi,e1,e2,e3⟩:=yaL hf;have hm:x∈es:=e1▸yGm hi;refine⟨x,rfl,hm,e2,(h.rng x hm).1,?_⟩;have:=h.fst i hi (fun j hj hji=>by rw [e1,e2];exact e3 j hj hji);rw [e1,e2] at this;omega
theorem fuel(h:Num es n):∀(f:Nat) (k:Int),k<(n:Int)→k.toNat≤f→wordN es f k=wN es k:=by
 have key:∀(m:Nat) (k:Int),k.toNat=m→k<(n:Int)→∀f g,m≤f→m≤g→wordN es f k=wordN es g k:=by
  intro m
  induction m using Nat.strongRecOn with
  | ind m ih=>
   intro k hk hn f g hf hg;by_cases h0:k≤0
   ·have e:∀f,wordN es f k= []:=fun f=>by
     cases f with
     | zero=>rfl
     | succ f=>rw [wordN,if_pos h0]
    rw [e,e]
   ·obtain ⟨f,rfl⟩:∃f',f=f'+1:=⟨f-1,by omega⟩;obtain⟨g,rfl⟩:∃g',g=g'+1:=⟨g-1,by omega⟩;obtain⟨k',rfl⟩:∃k':Nat,k=(k':Int):=⟨k.toNat,by omega⟩;obtain⟨x,hx,_,ht,hf0,hfk⟩:=h.find (k:=k') (by omega) (by omega);rw [wordN,wordN,if_neg h0,if_neg h0,hx];dsimp only;rw [ih x.f.toNat (by omega) x.f rfl (by omega) f g (by omega) (by omega)]
 intro f k hn hf;exact key k.toNat k rfl hn f k.toNat hf (Nat.le_refl _)
theorem step(h:Num es n){k:Nat}(h0:0<k)(h1:k<n):∃x∈es,es.find? (fun y=>y.t==(k:Int))=some x∧x.t=(k:Int)∧0≤x.f∧x.f<(k:Int)∧wN es (k:Int)=wN es x.f++[x.e]:=by
 obtain⟨x,hx,hm,ht,hf0,hfk⟩:=h.find h0 h1;refine⟨x,hm,hx,ht,hf0,hfk,?_⟩;obtain⟨k,rfl⟩:∃k',k=k'+1:=⟨k-1,by omega⟩;unfold wN;rw [Int.toNat_natCast,wordN,if_neg (by omega),hx];dsimp only;rw [h.fuel k x.f (by omega) (by omega)];rfl
theorem zero :wN es 0= []:=rfl
theorem evs(h:Num es n):∀(k:Nat),k<n→Evs (wN es (k:Int)):=by
 intro k
 induction k using Nat.strongRecOn with
 | ind k ih=>
  intro hk;by_cases h0:k=0
  ·subst h0;exact Evs.nil
  ·obtain ⟨x,hm,_,_,hf0,hfk,e⟩:=h.step (k:=k) (by omega) hk;rw [e];have hx:=h.rng x hm;have:=ih x.f.toNat (by omega) (by omega);rw [Int.toNat_of_nonneg hf0] at this;exact this.snoc hx.2.2.2.2.1 hx.2.2.2.2.2
theorem mono(h:Num es n):∀(k' k:Nat),k<k'→k'<n→wval (wN es (k:Int))<wval (wN es (k':Int)):=by
 intro k'
 induction k' using Nat.strongRecOn with
 | ind k' ih=>
  intro k hkk hk';obtain⟨x',hm',hf',ht',hf0',hfk',e'⟩:=h.step (k:=k') (by omega) hk';have hx':=h.rng x' hm';have hw':0≤wval (wN es x'.f):=by
   have:=h.evs x'.f.toNat (by omega);rw [Int.toNat_of_nonneg hf0'] at this;exact ydx _ this
  rw [e',y9C];by_cases h0:k=0
  ·subst h0;show wval []<_;show(0:Int)<_;omega
  ·obtain ⟨x,hm,hf,ht,hf0,hfk,e⟩:=h.step (k:=k) (by omega) (by omega);have hx:=h.rng x hm;rw [e,y9C];obtain⟨i,hi,a1,a2,a3⟩:=yaL hf;obtain⟨i',hi',b1,b2,b3⟩:=yaL hf';obtain⟨j,hj,hji,hjt⟩:=h.ear i' hi' (k:Int) (by omega) (by rw [b1,b2];omega);have hij:i≤j:=Nat.le_of_not_lt fun hlt=>a3 j hj hlt hjt;have hlt:=List.pairwise_iff_getElem.1 h.so i i' hi hi' (by omega);rw [a1,b1] at hlt;rcases hlt with hlt|⟨hlt,hle⟩
   ·have:=ih x'.f.toNat (by omega) x.f.toNat (by omega) (by omega);rw [Int.toNat_of_nonneg hf0,Int.toNat_of_nonneg hf0'] at this;omega
   ·rw [hlt];omega
end Num
end
section
open Go.Proofs.Tryz Go Go.RowKit
theorem yeb{u:Nat}(hu:u<100):(32:UInt8)∉dig2 u:=by
 have h:∀v:_root_.Fin 100,(32:UInt8)∉dig2 v.val:=by decide +kernel
 exact h ⟨u,hu⟩
theorem ydh{u v:Nat}(hu:u<100)(hv:v<100)(e:dig2 u=dig2 v):u=v:=by
 have h:∀v:_root_.Fin 100,((dig2 v.val).foldl (fun acc d=>10*acc+(d.toNat-48)) 0)=v.val:=by decide +kernel
 have h1:=h ⟨u,hu⟩;have h2:=h ⟨v,hv⟩;dsimp only at h1 h2;rw [e] at h1;omega
theorem yaM{α:Type}{c:α}:∀{l1 l2 r1 r2:List α},c∉l1→c∉l2→l1++c::r1=l2++c::r2→l1=l2∧r1=r2
 | [],[],_,_,_,_,h=>⟨rfl,(List.cons.inj h).2⟩
 | [],b::l2,_,_,_,h2,h=>absurd (List.cons.inj h).1 (fun e=>h2 (e▸yMc ..))
 | a::l1,[],_,_,h1,_,h=>absurd (List.cons.inj h).1 (fun e=>h1 (e▸yMc ..))
 | a::l1,b::l2,_,_,h1,h2,h=>by
  obtain⟨e1,e2⟩:=List.cons.inj h;obtain⟨e3,e4⟩:=yaM (fun hm=>h1 (yMm _ hm)) (fun hm=>h2 (yMm _ hm)) e2;exact⟨by rw [e1,e3],e4⟩
end
section
open Go.Proofs.Tryz
def sigB(l:LI):List UInt8:=(l.flatMap fun x=>dig2 x.toNat++[32])++[59,32]
theorem ycj{u:Nat}(hu:u<100):∃d r,dig2 u=d::r∧d≠59:=by
 have h:∀v:_root_.Fin 100,(match dig2 v.val with | []=>false|d::_=>d != 59)=true:=by decide +kernel
 have h1:=h ⟨u,hu⟩;dsimp only at h1;cases hd:dig2 u with
 | nil=>rw [hd] at h1;simp at h1
 | cons d r=>rw [hd] at h1;exact⟨d,r,rfl,by simpa using h1⟩
theorem yck{u:Nat}(hu:u<100):(58:UInt8)∉dig2 u:=by
 have h:∀v:_root_.Fin 100,(58:UInt8)∉dig2 v.val:=by decide +kernel
 exact h ⟨u,hu⟩
def Hund(l:LI):Prop:=∀x∈l,0≤x∧x<100
theorem ydi :∀{l l':LI} {r r':List UInt8},Hund l→Hund l'→sigB l++r=sigB l'++r'→l=l'∧r=r'
 | [],[],r,r',_,_,h=>⟨rfl,by simpa [sigB] using h⟩
 | [],y::l',r,r',_,h2,h=>by
  obtain⟨d,u,e,hd⟩:=ycj (u:=y.toNat) (by have:=h2 y (.head _);omega);simp only [sigB,List.flatMap_nil,List.nil_append,List.flatMap_cons,e,List.cons_append] at h;exact absurd (List.cons.inj h).1.symm hd
 | x::l,[],r,r',h1,_,h=>by
  obtain⟨d,u,e,hd⟩:=ycj (u:=x.toNat) (by have:=h1 x (.head _);omega);simp only [sigB,List.flatMap_nil,List.nil_append,List.flatMap_cons,e,List.cons_append] at h;exact absurd (List.cons.inj h).1 hd
 | x::l,y::l',r,r',h1,h2,h=>by
  have hx:=h1 x (.head _);have hy:=h2 y (.head _);have e:∀(z:Int) (l:LI) (r:List UInt8),sigB (z::l)++r=dig2 z.toNat++32::(sigB l++r):=fun z l r=>by simp [sigB]
  rw [e,e] at h;obtain⟨e1,e2⟩:=yaM (yeb (by omega)) (yeb (by omega)) h;have e3:=ydh (u:=x.toNat) (v:=y.toNat) (by omega) (by omega) e1;obtain⟨e4,e5⟩:=ydi (fun z hz=>h1 z (.tail _ hz)) (fun z hz=>h2 z (.tail _ hz)) e2;exact⟨by rw [show x=y by omega,e4],e5⟩
theorem ydj :∀{s s':List LI},(∀l∈s,Hund l)→(∀l∈s',Hund l)→s.length=s'.length→s.flatMap sigB=s'.flatMap sigB→s=s'
 | [],[],_,_,_,_=>rfl
 | [],_::_,_,_,h,_=>by simp at h
 | _::_,[],_,_,h,_=>by simp at h
 | l::s,l'::s',h1,h2,hl,h=>by
  rw [List.flatMap_cons,List.flatMap_cons] at h;obtain⟨e1,e2⟩:=ydi (h1 l (.head _)) (h2 l' (.head _)) h;rw [e1,ydj (fun z hz=>h1 z (.tail _ hz)) (fun z hz=>h2 z (.tail _ hz)) (by simpa using hl) e2]
def keyS(c:Int)(s:List LI):List UInt8:=dig2 c.toNat++58::32::s.flatMap sigB
theorem ygD{c c':Int}{s s':List LI}(hc:0≤c∧c<100)(hc':0≤c'∧c'<100)(h1:∀l∈s,Hund l)(h2:∀l∈s',Hund l)(hl:s.length=s'.length)(h:keyS c s=keyS c' s'):c=c'∧s=s':=by
 obtain⟨e1,e2⟩:=yaM (yck (by omega)) (yck (by omega)) h;have e3:=ydh (u:=c.toNat) (v:=c'.toNat) (by omega) (by omega) e1;exact⟨by omega,ydj h1 h2 hl (List.cons.inj e2).2⟩
end
section
open Go.Proofs.Tryz Go Go.RowKit
noncomputable section
theorem bbeq(a b:ByteArray):(a==b)=decide (a=b):=by
 have:(a==b)=(a.data==b.data):=rfl;rw [this];cases a;cases b;simp [Bool.beq_eq_decide_eq]
instance :LawfulBEq ByteArray where
 eq_of_beq {a b} h:=by
  rw [bbeq] at h;exact of_decide_eq_true h
 rfl {a}:=by rw [bbeq];simp
section
variable{κ:Type}[BEq κ][LawfulBEq κ]
def numG :Nat→List κ→List (κ×Int)
 | _,[]=> []
 | k,p::l=>(p,(k:Int))::numG (k+1) l
omit [BEq κ] [LawfulBEq κ] in
theorem yaN :∀(k:Nat) (l:List κ),(numG k l).length=l.length
 | _,[]=>rfl
 | k,p::l=>by rw [numG,yLc,yaN,yLc]
omit [BEq κ] [LawfulBEq κ] in
theorem ydk :∀(k:Nat) (l:List κ),(numG k l).map (·.1)=l
 | _,[]=>rfl
 | k,p::l=>by rw [numG,List.map_cons,ydk]
theorem ydl :∀(k:Nat) (l:List κ) (p:κ),kget (numG k l) p=if p∈l then some (((k+l.idxOf p:Nat):Int)) else none
 | _,[],p=>by simp [numG,kget]
 | k,q::l,p=>by
  have ih:=ydl (k+1) l p;unfold kget at ih ⊢;rw [numG,List.find?_cons];by_cases h:p=q
  ·subst h;simp
  ·have h':(p==q)=false:=by simpa using h
   simp only [h'];rw [ih];have h2:¬q=p:=fun e=>h e.symm;by_cases hm:p∈l
   ·rw [iP hm,iP (by simp [hm]),List.idxOf_cons];have h3:(q==p)=false:=by simpa using h2
    rw [h3];simp;omega
   ·rw [iN hm,iN (by simp [hm,h])]
omit [BEq κ] [LawfulBEq κ] in
theorem ycl :∀(k:Nat) (l:List κ) (p:κ),numG k (l++[p])=numG k l++[(p,((k+l.length:Nat):Int))]
 | k,[],p=>by simp [numG]
 | k,q::l,p=>by
  rw [List.cons_append,numG,ycl (k+1) l p,numG,List.cons_append,yLc];congr 4;omega
theorem ygE{l:List κ}{p:κ}(h:p∉l):kput (numG 0 l) p (l.length:Int)=numG 0 (l++[p]):=by
 unfold kput;rw [iN (by rw [ydk,yaC h,yaN];omega),ycl];simp
end
theorem yag{keys:List ByteArray}(hl:keys.length≤1000000):y2k keys=some (numK keys):=by
 obtain⟨o,ho,he⟩:=yg (f:=y2D keys) (fun j st=>st=((j:Int),(numF (keys.take j)).2,numG 0 (numF (keys.take j)).1)) (fun o=>o=numK keys) keys.length 0 (by omega) (fun j st hj e1=>by
   subst e1;refine .inl ⟨_,?_,rfl⟩;have hI:=y8z (keys.take j);have h1:=hI.len;rw [yLt,Nat.min_eq_left (by omega)] at h1;rw [yTs hj,ycg];generalize numF (keys.take j)=S at h1 hI ⊢;unfold y2D numS;simp only [ct_lt hj,if_true,yd hj,yOb];rw [ydl];by_cases hm:keys[j]∈S.1
   ·rw [iP hm,iP hm];simp only [Option.isSome_some,Bool.not_true,Bool.false_eq_true,if_false,Option.getD_some];rw [y1t,yD (by simp;omega),yOb,nxt (by omega)];simp
   ·rw [iN hm,iN hm];simp only [Option.isSome_none,Bool.not_false,if_true];rw [y1t,yD (by simp;omega),yOb,nxt (by omega)];simp only [yaN];rw [ygE hm])
  (fun st e1=>by
   subst e1;refine⟨_,?_,rfl⟩;unfold y2D;simp only [ct_ge,List.take_length];rfl) (by omega) (0,[],[]) rfl
 rw [y2k,ho,he];rfl
def by8(l:List UInt8):ByteArray:=⟨l.toArray⟩
theorem yec(a b:List UInt8):by8 a++by8 b=by8 (a++b):=by
 unfold by8;apply ByteArray.ext;simp
theorem y7x(a:List UInt8):(by8 a).size=a.length:=by simp [by8,ByteArray.size]
theorem yed{a b:List UInt8}(h:by8 a=by8 b):a=b:=by
 have:=congrArg (fun x:ByteArray=>x.data.toList) h;simpa [by8] using this
theorem ydm{a b:List UInt8}(h:a.length+b.length≤1000000):yt (by8 a) (by8 b)=some (by8 (a++b)):=by
 rw [yt,iP (by rw [y7x,y7x];exact h),yec]
theorem saddS{a b:List UInt8}(h:a.length+b.length≤1000000):sadd (by8 a) (by8 b)=some (by8 (a++b)):=by
 rw [sadd,iP (by rw [y7x,y7x];exact h),yec]
theorem itoaS{x:Int}(h:0≤x∧x<100):y3G x=some (by8 (dig2 x.toNat)):=by
 rw [y3G,iP h];rfl
def clsS(c set:LI):LI:=dd (isL (set.map (cF c)))
theorem y5w{c set:LI}{x:Int}:x∈clsS c set↔ ∃s∈set,cF c s=x:=by
 unfold clsS;rw [y6u,yMp]
theorem y9e(c set:LI):(clsS c set).length≤set.length:=by
 unfold clsS;have:=y9E (isL (set.map (cF c)));rw [(y1G _).length_eq,yLm] at this;exact this
theorem idxF{c:LI}{s:Int}(h:0≤s∧s<(c.length:Int)):idx c s=some (cF c s):=by
 unfold idx;rw [iP h.1];have:=cF_at (c:=c) (i:=s.toNat) (by omega);rw [this,show((s.toNat:Nat):Int)=s by omega]
theorem ya1 :∀l:LI,(l.flatMap fun x=>dig2 x.toNat++[32]).length≤l.length*3
 | []=>by simp
 | x::l=>by
  have:=ya1 l;have:=y7f x.toNat;simp only [List.flatMap_cons,yLa,yLc,List.length_nil];omega
theorem ygF(l:LI):(sigB l).length≤l.length*3+2:=by
 have:=ya1 l;unfold sigB;rw [yLa];simp only [yLc,List.length_nil];omega
theorem ydn{b:List UInt8}{c set:LI}(hs:∀s∈set,0≤s∧s<(c.length:Int))(hc:Hund c)(hl:b.length+set.length*3+2≤1000000):y2Z (by8 b) c set=some (by8 (b++sigB (clsS c set))):=by
 have h1:iter (y2p c set) (0,([]:LI))=some ([]++set.map (cF c)):=y4o _ _ _ (by rw [List.length_nil];omega) (fun j hj o=>by
   unfold y2p;simp only [ct_lt hj,if_true,yd hj,yOb];rw [idxF (hs _ (yGm hj)),yOb]) (fun o=>by
   unfold y2p;simp)
 have hcl:=y9e c set;have hcm:∀x∈clsS c set,0≤x∧x<100:=fun x hx=>by
  obtain⟨s,h2,rfl⟩:=y5w.1 hx;have:=hs s h2;exact hc _ (y7w this.1 this.2)
 have h2:iter (yO (clsS c set)) (by8 b,0)=some (by8 (b++(clsS c set).flatMap fun x=>dig2 x.toNat++[32])):=by
  generalize clsS c set=l at hcl hcm ⊢;obtain⟨o,ho,he⟩:=yg (f:=yO l) (fun j st=>st=(by8 (b++(l.take j).flatMap fun x=>dig2 x.toNat++[32]),(j:Int))) (fun o=>o=by8 (b++l.flatMap fun x=>dig2 x.toNat++[32])) l.length 0 (by omega) (fun j st hj e1=>by
    subst e1;refine .inl ⟨_,?_,rfl⟩;have h3:=ya1 (l.take j);rw [yLt,Nat.min_eq_left (by omega)] at h3;have h4:=y7f l[j].toNat;unfold yO;simp only [ct_lt hj,if_true,yd hj,yOb];rw [itoaS (hcm _ (yGm hj)),yOb,show(⟨#[32]⟩:ByteArray)=by8 [32] from rfl,saddS (by simp;omega),yOb,ydm (by simp at h3 ⊢;omega),yOb,nxt (by omega),yTs hj,List.flatMap_append,yAa];simp)
   (fun st e1=>by
    subst e1;refine⟨_,?_,rfl⟩;rw [List.take_length];unfold yO;simp) (by omega) (by8 b,0) (by simp)
  rw [ho,he]
 have h3:=ya1 (clsS c set);rw [y2Z,h1,yOb,List.nil_append,y7t (by rw [yLm];omega),yOb,y8d (by rw [(y1G _).length_eq,yLm];omega),yOb];show(iter (yO (clsS c set)) (by8 b,0)).bind _=_;rw [h2,yOb,show(⟨#[59,32]⟩:ByteArray)=by8 [59,32] from rfl,ydm (by simp at h3 ⊢;omega),yOb,yAa];rfl
section
variable{α:Type}
def mixL(n:Nat)(F G:Nat→α)(i:Nat):List α:=(List.range n).map fun k=>if k<i then F k else G k
theorem y8B(n:Nat)(F G:Nat→α)(i:Nat):(mixL n F G i).length=n:=by simp [mixL]
theorem ybh{n:Nat}{F G:Nat→α}{i k:Nat}(h:k<n):(mixL n F G i)[k]? =some (if k<i then F k else G k):=by
 unfold mixL;rw [List.getElem?_map,List.getElem?_range h];rfl
theorem yee{n:Nat}{F G:Nat→α}{i:Nat}:(mixL n F G i).set i (F i)=mixL n F G (i+1):=by
 apply List.ext_getElem?;intro k;rw [List.getElem?_set,y8B];by_cases hk:k<n
 ·rw [ybh hk,ybh hk];by_cases e:i=k
  ·subst e;simp [hk]
  ·rw [iN e];by_cases h:k<i
   ·rw [iP h,iP (by omega)]
   ·rw [iN h,iN (by omega)]
 ·rw [yGn (by rw [y8B];omega),yGn (by rw [y8B];omega)];split
  ·rename_i e;subst e;simp [hk]
  ·rfl
theorem ydo(n:Nat)(F G:Nat→α):mixL n F G 0=(List.range n).map G:=by simp [mixL]
theorem yef(n:Nat)(F G:Nat→α):mixL n F G n=(List.range n).map F:=by
 unfold mixL;refine List.map_congr_left fun k hk=>?_;rw [iP (List.mem_range.1 hk)]
theorem idx_get?{xs:List α}{i:Nat}{x:α}(h:xs[i]? =some x):idx xs (i:Int)=some x:=by
 unfold idx;rw [iP (by omega),yTn,h]
theorem ybJ{xs:List α}{i:Nat}{v:α}(h:i<xs.length):upd xs (i:Int) v=some (xs.set i v):=by
 have:=y8y (xs:=xs) (s:=(i:Int)) (v:=v) (by omega);rwa [yTn] at this
theorem ygG{T:List α}{i:Nat}{x:α}(h:i<T.length):idx (T.set i x) (i:Int)=some x:=idx_get? (by rw [List.getElem?_set,iP rfl,iP h])
end
def rowA(a:NdT)(i:Nat):List LI:=((-1:Int)::a.1).map fun e=>wkL a e (i:Int)
def tru8(b:Bool):List UInt8:=if b then [116,114,117,101] else [102,97,108,115,101]
theorem fmtB(b:Bool):y4p b=some (by8 (tru8 b)):=by
 cases b <;> rfl
def mksB(a:NdT)(s:Int):Bool:=@decide ((ltsN a).mks s) (Classical.propDecidable _)
section
variable{a:NdT}(ha:NdOk a){n:Nat}(hn:a.2.1=(n:Int))(hal:a.1.length≤32)
include ha hn hal
theorem yfH{i:Nat}(hi:i<n)(s2:List ByteArray×List (List LI)){T:List (List LI)}(hT:T.length=n):iter (y1W a ((i:Int),s2)) (0,T.set i [wkL a (-1) i])=some (T.set i (rowA a i)):=by
 obtain⟨o,ho,he⟩:=yg (f:=y1W a ((i:Int),s2)) (fun j st=>st=((j:Int),T.set i (((-1:Int)::a.1.take j).map fun e=>wkL a e (i:Int)))) (fun o=>o=T.set i (rowA a i)) a.1.length 0 (by omega) (fun j st hj e1=>by
   subst e1;refine .inl ⟨_,?_,rfl⟩;unfold y1W;simp only [ct_lt hj,if_true,yd hj,yOb];rw [ygC ha (by omega) (yGm hj),yOb,ygG (by omega),yOb,yD (by simp;omega),yOb,yOb,ybJ (by rw [List.length_set];omega),yOb,nxt (by omega),List.set_set,yTs hj];rw [List.map_cons,List.map_cons,List.map_append];rfl)
  (fun st e1=>by
   subst e1;refine⟨_,?_,rfl⟩;rw [List.take_length];unfold y1W;simp;rfl) (by omega) (0,T.set i [wkL a (-1) i]) (by simp)
 rw [ho,he]
theorem yfI(h99:n≤99):iter (y1X a) (0,([]:List ByteArray),List.replicate n ([]:List LI))=some ((List.range n).map (fun i:Nat=>by8 (tru8 (mksB a (i:Int)))),(List.range n).map (rowA a)):=by
 have hlm:a.2.2.2.1.length≤1000000:=ha.lm;obtain⟨o,ho,he⟩:=yg (f:=y1X a) (fun j st=>st=((j:Int),(List.range j).map (fun i:Nat=>by8 (tru8 (mksB a (i:Int)))),mixL n (rowA a) (fun _=> []) j)) (fun o=>o=((List.range n).map (fun i:Nat=>by8 (tru8 (mksB a (i:Int)))),(List.range n).map (rowA a))) n 0 (by omega) (fun j st hj e1=>by
   subst e1;refine .inl ⟨_,?_,rfl⟩;have hml:=y8B n (rowA a) (fun _=> []) j;have hwl:=yaJ a.2.1.toNat fun t=>(ltsN a).wk (-1) (j:Int) t;have hwl:(wkL a (-1) (j:Int)).length≤n:=by unfold wkL;omega
   have hmg:=y6a (fun a b=>a&&b) (wkL a (-1) (j:Int)) a.2.2.2.1 (ydf _ _) ha.mks;have hmk:decide (((mg (fun a b=>a&&b) (wkL a (-1) (j:Int)) a.2.2.2.1).length:Int)>0)=mksB a (j:Int):=by
    rw [Bool.eq_iff_iff];unfold mksB;rw [@decide_eq_true_iff _ (Classical.propDecidable _),decide_eq_true_iff];constructor
    ·intro h;obtain⟨x,hx⟩:=List.exists_mem_of_length_pos (l:=mg (fun a b=>a&&b) (wkL a (-1) (j:Int)) a.2.2.2.1) (by omega);have hx:=(hmg.2 x).1 hx;rw [yAe,yo,yo] at hx;rcases(y5v.1 hx.2.1).2 with ⟨_,h⟩|⟨h,_⟩
     ·exact ⟨x,h,hx.2.2⟩
     ·exact absurd rfl h
    ·rintro ⟨m,h1,h2⟩;have h3:=ha.mkr m h2;have:m∈mg (fun a b=>a&&b) (wkL a (-1) (j:Int)) a.2.2.2.1:=(hmg.2 m).2 ⟨.inr h2,by
      rw [yAe,yo,yo];exact⟨y5v.2 ⟨⟨h3.1,by omega⟩,.inl ⟨rfl,h1⟩⟩,h2⟩⟩
     have:=List.length_pos_of_mem this;omega
   have hint:y3B (wkL a (-1) (j:Int)) a.2.2.2.1=some (mg (fun a b=>a&&b) (wkL a (-1) (j:Int)) a.2.2.2.1):=by
    rw [y3B,yd6 (kp:=fun a b=>a&&b) (f:=y3Z) (fun _ _=>rfl) (by omega) hlm];rfl
   unfold y1X;simp only [hn,ct_lt hj,if_true];rw [yaf ha (by omega),yOb,idx_get? (ybh hj),iN (Nat.lt_irrefl _),yOb,yD (by simp),yOb,yOb,ybJ (by omega),yOb,List.nil_append,yfH ha hn hal hj _ hml,yOb,hint,yOb,hmk,fmtB,yOb,yD (by simp;omega),yOb,nxt (by omega),yee,List.range_succ,List.map_append];rfl)
  (fun st e1=>by
   subst e1;refine⟨_,?_,rfl⟩;rw [yef];unfold y1X;simp [hn]) (by omega) (0,[],List.replicate n []) (by rw [ydo];simp [List.map_const'])
 rw [ho,he]
def keyA(a:NdT)(c:LI)(i:Nat):List UInt8:=keyS (cF c (i:Int)) ((rowA a i).map (clsS c))
omit ha hn hal in
theorem ygH{c:LI}(hc:Hund c){set:LI}(hs:∀s∈set,0≤s∧s<(c.length:Int)):Hund (clsS c set):=fun x hx=>by
 obtain⟨s,h2,rfl⟩:=y5w.1 hx;have:=hs s h2;exact hc _ (y7w this.1 this.2)
omit ha hal in
theorem yfJ{c:LI}(hcl:c.length=n){i:Nat}:∀set∈rowA a i,(∀s∈set,0≤s∧s<(c.length:Int))∧set.length≤n:=fun set hset=>by
 obtain⟨e,_,rfl⟩:=yMp.1 hset;refine⟨fun s hs=>?_,?_⟩
 ·have:=(y5v.1 hs).1;unfold Vn at this;omega
 ·have:=yaJ a.2.1.toNat fun t=>(ltsN a).wk e (i:Int) t;unfold wkL;omega
omit ha hn in
theorem yhx(i:Nat):(rowA a i).length≤33:=by
 unfold rowA;rw [yLm,yLc];omega
omit ha hn hal in
theorem ydp{k:Nat}:∀(l:List LI),(∀x∈l,x.length≤k)→(l.flatMap sigB).length≤l.length*(k*3+2)
 | [],_=>by simp
 | x::l,h=>by
  have h1:=ydp l fun y hy=>h y (.tail _ hy);have h2:=ygF x;have h3:=h x (.head _);rw [List.flatMap_cons,yLa,yLc,Nat.add_mul,Nat.one_mul];omega
omit ha in
theorem yfK(h99:n≤99){c:LI}(hc:Hund c)(hcl:c.length=n)(keys:List ByteArray){i:Nat}{b:List UInt8}(hb:b.length≤4):iter (y1U (c,keys) (rowA a i)) (0,by8 b)=some (by8 (b++((rowA a i).map (clsS c)).flatMap sigB)):=by
 have hr:=yfJ hn hcl (i:=i);have hl:=yhx hal i;generalize rowA a i=l at hr hl ⊢;obtain⟨o,ho,he⟩:=yg (f:=y1U (c,keys) l) (fun j st=>st=((j:Int),by8 (b++((l.take j).map (clsS c)).flatMap sigB))) (fun o=>o=by8 (b++(l.map (clsS c)).flatMap sigB)) l.length 0 (by omega) (fun j st hj e1=>by
   subst e1;refine .inl ⟨_,?_,rfl⟩;have hh:=hr _ (yGm hj);have h3:=ydp (k:=99) ((l.take j).map (clsS c)) fun x hx=>by
    obtain⟨s,hs,rfl⟩:=yMp.1 hx;have:=(hr s (List.mem_of_mem_take hs)).2;have:=y9e c s;omega
   rw [yLm,yLt,Nat.min_eq_left (by omega)] at h3;unfold y1U;simp only [ct_lt hj,if_true,yd hj,yOb];rw [ydn hh.1 hc (by rw [yLa];omega),yOb,nxt (by omega),yTs hj,List.map_append,List.flatMap_append,yAa];simp)
  (fun st e1=>by
   subst e1;refine⟨_,?_,rfl⟩;rw [List.take_length];unfold y1U;simp) (by omega) (0,by8 b) (by simp)
 rw [ho,he]
omit ha in
theorem yfL(h99:n≤99){c:LI}(hc:Hund c)(hcl:c.length=n)(k0:List ByteArray){keys:List ByteArray}(hk:keys.length=n):iter (y1V a (k0,(List.range n).map (rowA a)) (c,keys)) (0,keys)=some ((List.range n).map fun i=>by8 (keyA a c i)):=by
 have hG:keys=(List.range n).map fun i=>keys.getD i ⟨#[]⟩:=by
  apply List.ext_getElem?;intro k;by_cases h:k<n
  ·rw [List.getElem?_map,List.getElem?_range h,yGe (by omega)];simp [yGd,yGe (show k<keys.length by omega)]
  ·rw [yGn (by omega),yGn (by simp;omega)]
 obtain⟨o,ho,he⟩:=yg (f:=y1V a (k0,(List.range n).map (rowA a)) (c,keys)) (fun j st=>st=((j:Int),mixL n (fun i=>by8 (keyA a c i)) (fun i=>keys.getD i ⟨#[]⟩) j)) (fun o=>o=(List.range n).map fun i=>by8 (keyA a c i)) n 0 (by omega) (fun j st hj e1=>by
   subst e1;refine .inl ⟨_,?_,rfl⟩;have hx:=hc _ (y7w (c:=c) (s:=(j:Int)) (by omega) (by omega));have hd:=y7f (cF c (j:Int)).toNat;have hne:(by8 (keyA a c j)).size≠0:=by
    rw [y7x];unfold keyA keyS;rw [yLa,yLc,yLc];omega
   unfold y1V;simp only [hn,ct_lt hj,if_true];rw [idxF (by omega),yOb,itoaS hx,yOb,show(⟨#[58,32]⟩:ByteArray)=by8 [58,32] from rfl,saddS (by simp;omega),yOb,show(⟨#[]⟩:ByteArray)=by8 [] from rfl,ydm (by simp;omega),yOb,idx_get? (show ((List.range n).map (rowA a))[j]? =some (rowA a j) by rw [List.getElem?_map,List.getElem?_range hj];rfl),yOb,List.nil_append,yfK hn hal h99 hc hcl keys (by simp;omega),yOb];have e2:dig2 (cF c (j:Int)).toNat++[58,32]++((rowA a j).map (clsS c)).flatMap sigB=keyA a c j:=by
    unfold keyA keyS;rw [yAa];rfl
   rw [e2,y2K,iP hne,yOb,idx_get? (ybh hj),yOb,ybJ (by rw [y8B];exact hj),yOb,nxt (by omega),yee (F:=fun i=>by8 (keyA a c i))])
  (fun st e1=>by
   subst e1;refine⟨_,?_,rfl⟩;rw [yef];unfold y1V;simp [hn]) (by omega) (0,keys) (by rw [ydo,←hG];rfl)
 rw [ho,he]
def nextC(a:NdT)(n:Nat)(c:LI):LI:=numK ((List.range n).map fun i=>by8 (keyA a c i))
omit hal in
theorem ygI(h99:n≤99){c:LI}(hc:Hund c)(hcl:c.length=n):RfN (ltsN a) n c (nextC a n c) where
 len:=by unfold nextC;rw [yaI];simp
 fst:=ybg _
 eq:=by
  have hlen:(nextC a n c).length=n:=by unfold nextC;rw [yaI];simp
  have key:∀i j:Nat,i<n→j<n→(cF (nextC a n c) (i:Int)=cF (nextC a n c) (j:Int)↔refR (ltsN a) (cF c) (i:Int) (j:Int)):=fun i j hi hj=>by
   have h1:=cF_at (c:=nextC a n c) (i:=i) (by omega);have h2:=cF_at (c:=nextC a n c) (i:=j) (by omega);have hk:∀k:Nat,k<n→((List.range n).map fun i=>by8 (keyA a c i))[k]? =some (by8 (keyA a c k)):=fun k hk=>by rw [List.getElem?_map,List.getElem?_range hk];rfl
   have h3:=ye8 _ (hk i hi) (hk j hj);have e1:cF (nextC a n c) (i:Int)=cF (nextC a n c) (j:Int)↔by8 (keyA a c i)=by8 (keyA a c j):=by
    rw [←h3];unfold nextC at h1 h2 ⊢;rw [h1,h2];simp
   have hci:=hc _ (y7w (c:=c) (s:=(i:Int)) (by omega) (by omega));have hcj:=hc _ (y7w (c:=c) (s:=(j:Int)) (by omega) (by omega));have hin:=fun k=>yfJ hn hcl (i:=k);have hH:∀k,∀l∈(rowA a k).map (clsS c),Hund l:=fun k l hl=>by
    obtain⟨s,hs,rfl⟩:=yMp.1 hl;exact ygH hc (hin k s hs).1
   have e2:by8 (keyA a c i)=by8 (keyA a c j)↔cF c (i:Int)=cF c (j:Int)∧(rowA a i).map (clsS c)=(rowA a j).map (clsS c):=by
    constructor
    ·intro h;exact ygD hci hcj (hH i) (hH j) (by simp [rowA]) (yed h)
    ·rintro ⟨h1,h2⟩;unfold keyA;rw [h1,h2]
   rw [e1,e2];unfold refR;refine and_congr Iff.rfl ?_;have hV:∀k:Nat,k<n→Vn n (k:Int):=fun k hk=>⟨by omega,by omega⟩;have hVn:=ha.vn;rw [show a.2.1.toNat=n by omega] at hVn;have hm:∀(k:Nat),k<n→∀e x,x∈clsS c (wkL a e (k:Int))↔ ∃u,(ltsN a).wk e (k:Int) u∧cF c u=x:=fun k hk e x=>by
    rw [y5w];constructor
    ·rintro ⟨s,hs,h⟩;exact⟨s,(y5v.1 hs).2,h⟩
    ·rintro ⟨u,hu,h⟩;refine⟨u,y5v.2 ⟨?_,hu⟩,h⟩;rw [show a.2.1.toNat=n by omega];exact hVn.wk (hV k hk) hu
   unfold rowA;rw [List.map_map,List.map_map];constructor
   ·intro h e he x;have hmem:e∈(-1:Int)::a.1:=by
     rcases he with he|he
     ·rw [he];exact .head _
     ·exact .tail _ he
    have:=List.map_inj_left.1 h e hmem;simp only [Function.comp_apply] at this;rw [←hm i hi,←hm j hj,this]
   ·intro h;refine List.map_congr_left fun e he=>?_;simp only [Function.comp_apply];refine incE (y4X _) (y4X _) fun x=>?_;have hlab:(ltsN a).lab e:=by
     rcases yMo.1 he with he|he
     ·exact .inl he
     ·exact .inr he
    have:=h e hlab x;rw [←hm i hi,←hm j hj] at this;exact this
  intro s t hs ht;have:=key s.toNat t.toNat (by have:=hs.1;have:=hs.2;omega) (by have:=ht.1;have:=ht.2;omega);rwa [show ((s.toNat:Nat):Int)=s by have:=hs.1;omega,show((t.toNat:Nat):Int)=t by have:=ht.1;omega] at this
omit ha hn hal in
theorem ygJ :RfI (ltsN a) n (numK ((List.range n).map fun i:Nat=>by8 (tru8 (mksB a (i:Int))))):=by
 have hlen:(numK ((List.range n).map fun i:Nat=>by8 (tru8 (mksB a (i:Int))))).length=n:=by rw [yaI];simp
 have key:∀s t,Vn n s→Vn n t→(cF (numK ((List.range n).map fun i:Nat=>by8 (tru8 (mksB a (i:Int))))) s=cF (numK ((List.range n).map fun i:Nat=>by8 (tru8 (mksB a (i:Int))))) t↔((ltsN a).mks s↔(ltsN a).mks t)):=fun s t hs ht=>by
  obtain⟨i,rfl⟩:∃i:Nat,s=(i:Int):=⟨s.toNat,by have:=hs.1;omega⟩;obtain⟨j,rfl⟩:∃j:Nat,t=(j:Int):=⟨t.toNat,by have:=ht.1;omega⟩;have hi:i<n:=by have:=hs.2;omega
  have hj:j<n:=by have:=ht.2;omega
  have hk:∀k:Nat,k<n→((List.range n).map fun i:Nat=>by8 (tru8 (mksB a (i:Int))))[k]? =some (by8 (tru8 (mksB a (k:Int)))):=fun k hk=>by rw [List.getElem?_map,List.getElem?_range hk];rfl
  have h3:=ye8 _ (hk i hi) (hk j hj);rw [cF_at (by omega),cF_at (by omega)] at h3;have e1:by8 (tru8 (mksB a (i:Int)))=by8 (tru8 (mksB a (j:Int)))↔mksB a (i:Int)=mksB a (j:Int):=by
   constructor
   ·intro h;have:=yed h;revert this;cases mksB a (i:Int) <;> cases mksB a (j:Int) <;> simp [tru8]
   ·intro h;rw [h]
  rw [e1] at h3;have e2:∀s,mksB a s=true↔(ltsN a).mks s:=fun s=>by unfold mksB;rw [@decide_eq_true_iff _ (Classical.propDecidable _)]
  rw [←e2,←e2,←Bool.eq_iff_iff,←h3];simp
 exact⟨hlen,ybg _,fun s t hs ht e hm=>((key s t hs ht).1 e).1 hm,fun P hP s t hs ht h=>(key s t hs ht).2 ⟨hP.m s t hs ht h,hP.m t s ht hs (hP.sy s t hs ht h)⟩⟩
end
theorem yhX{xs ys:LI}(hx:xs.length≤4294967296):y1I xs ys=some (decide (xs=ys)):=by
 rw [y1I];by_cases hl:xs.length=ys.length
 ·rw [iN (by simp [hl])];obtain⟨o,ho,he⟩:=yg (f:=y3u xs ys) (fun j st=>st=(j:Int)∧xs.take j=ys.take j) (fun o=>(o= .inl ()∧xs=ys)∨(o= .inr ()∧xs≠ys)) xs.length 0 (by omega) (fun j st hj ⟨e1,e2⟩=>by
    subst e1;unfold y3u;rw [iP (ct_lt hj),yd hj,yOb,yd (show j<ys.length by omega),yOb];by_cases h:xs[j]=ys[j]
    ·left;refine⟨_,by rw [iN (by simp [h]),nxt (by omega)],rfl,?_⟩;rw [yTs hj,yTs (show j<ys.length by omega),e2,h]
    ·right;exact⟨_,by rw [iP (by simp [h])],.inr ⟨rfl,fun e=>h (by subst e;rfl)⟩⟩)
   (fun st ⟨e1,e2⟩=>by
    subst e1;refine⟨_,by unfold y3u;rw [iN ct_ge],.inl ⟨rfl,?_⟩⟩;rw [List.take_length,hl,List.take_length] at e2;exact e2) (by omega) 0 ⟨rfl,rfl⟩
  rw [ho,yOb];rcases he with ⟨rfl,e⟩|⟨rfl,e⟩
  ·simp [e]
  ·simp [e]
 ·rw [iP (by simp;omega)];have:xs≠ys:=fun e=>hl (by rw [e]);simp [this]
theorem yfM{a:NdT}(ha:NdOk a)(h99:a.2.1≤99)(hal:a.1.length≤32):∃c,y3C a=some c∧RfOk (ltsN a) a.2.1.toNat c:=by
 have h0:=ha.n0;obtain⟨n,hn⟩:∃n:Nat,a.2.1=(n:Int):=⟨a.2.1.toNat,by omega⟩;have hnn:a.2.1.toNat=n:=by omega
 rw [hnn];have hV:=ha.vn;rw [hnn] at hV;have hHund:∀{c:LI},RfI (ltsN a) n c→Hund c:=fun {c} h x hx=>by
  obtain⟨i,hi,e⟩:=List.mem_iff_getElem.1 hx;have:=h.fst.lt i x (by rw [yGe hi,e]);have:=h.len;omega
 have hm:mkL a.2.1 ([]:List LI)=some (List.replicate n []):=by unfold mkL;rw [hn,iP (by omega)];rfl
 have hf:=ygJ (a:=a) (n:=n);rw [y3C,hm,yOb,yfI ha hn hal (by omega),yOb];dsimp only;rw [yag (by simp;omega),yOb];obtain⟨o,ho,he⟩:=yg (f:=y3S a ((List.range n).map (fun i:Nat=>by8 (tru8 (mksB a (i:Int)))),(List.range n).map (rowA a))) (fun j st=>RfI (ltsN a) n st.1∧st.2.length=n∧j+eqs n st.1≤n*n) (fun o=>RfOk (ltsN a) n o) (n*n+1) 0 (by
   have:n*n≤99*99:=Nat.mul_le_mul (by omega) (by omega);omega) (fun j st hj ⟨g1,g2,g3⟩=>by
   obtain⟨c,keys⟩:=st;dsimp only at g1 g2 g3;have hcl:=g1.len;have hR:=ygI ha hn (by omega) (hHund g1) hcl;unfold y3S;dsimp only;rw [yfL hn hal (by omega) (hHund g1) hcl _ g2,yOb,yag (by simp;omega),yOb];show(∃s',(y1I (nextC a n c) c).bind _=_∧_)∨∃o,(y1I (nextC a n c) c).bind _=_∧_;rw [yhX (by have:=hR.len;omega),yOb];by_cases e:nextC a n c=c
   ·right;refine⟨c,by rw [decide_eq_true e];rfl,{ g1 with st:=g1.stb (by rw [e] at hR;exact hR) }⟩
   ·left;refine⟨(nextC a n c,(List.range n).map fun i=>by8 (keyA a c i)),by rw [decide_eq_false e];rfl,g1.next hR hV,by simp,?_⟩;have:=RfN.lt hcl g1.fst hR e;dsimp only;omega)
  (fun st ⟨_,_,g3⟩=>by omega) (by omega) (numK ((List.range n).map fun i:Nat=>by8 (tru8 (mksB a (i:Int)))),(List.range n).map fun i:Nat=>by8 (tru8 (mksB a (i:Int)))) ⟨hf,by simp,by have:=yhV n (numK ((List.range n).map fun i:Nat=>by8 (tru8 (mksB a (i:Int)))));dsimp only;omega⟩
 exact⟨o,by rw [ho];rfl,he⟩
theorem ydq{x y:E3}(h1:¬ltE3 x y)(h2:¬ltE3 y x):x=y:=by
 unfold ltE3 at *;exact Prod.ext (by omega) (Prod.ext (by omega) (by omega))
theorem ltfC{f:E3→E3→Option Int}(hf:∀x y,∃z,f x y=some z∧(z<0↔ltE3 x y)){x y:E3}:ltf f x y=true↔ltE3 x y:=by
 obtain⟨z,h1,h2⟩:=hf x y;unfold ltf;rw [h1];simpa using h2
theorem yfN{f:E3→E3→Option Int}(hf:∀x y,∃z,f x y=some z∧(z<0↔ltE3 x y))(xs:List E3):cmpB f xs=true:=ye1 ltE3 (fun x _ y _=>hf x y) (fun x _ y _ h=>by unfold ltE3 at *;omega) (fun x _ y _ h1 h2=>ydq h1 h2) (fun x _ y _ z _ h1 h2=>by unfold ltE3 at *;omega)
theorem yhy{f:E3→E3→Option Int}(hf:∀x y,∃z,f x y=some z∧(z<0↔ltE3 x y))(xs:List E3):(srtL (ltf f) xs).Pairwise fun a b=>¬ltE3 b a:=
 (y9R (yaw (yfN hf xs)) xs fun _ h=>h).imp fun h=>by rw [←ltfC hf];simp [h]
theorem ygK{f:E3→E3→Option Int}(hf:∀x y,∃z,f x y=some z∧(z<0↔ltE3 x y)){xs:List E3}(hl:xs.length≤4294967296):yy f xs=some (srtL (ltf f) xs):=by
 unfold yy srtF;rw [iP ⟨hl,yfN hf xs⟩]
theorem cmpN(x y:E3):∃z,yb x y=some z∧(z<0↔ltE3 x y):=by
 obtain⟨z,h1,h2,_⟩:=y9b x y;exact⟨z,h1,h2⟩
theorem y9M{α:Type}{lt:α→α→Prop}(ha:∀x y,lt x y→¬lt y x):∀{xs ys:List α},xs.Pairwise lt→ys.Pairwise lt→(∀x,x∈xs↔x∈ys)→xs=ys
 | [],[],_,_,_=>rfl
 | [],y::ys,_,_,h=>absurd ((h y).2 (.head _)) (by simp)
 | x::xs,[],_,_,h=>absurd ((h x).1 (.head _)) (by simp)
 | x::xs,y::ys,h1,h2,h=>by
  have hx:=yPc.1 h1;have hy:=yPc.1 h2;have hirr:∀z,¬lt z z:=fun z h=>ha z z h h;have e:x=y:=by
   rcases yMo.1 ((h x).1 (.head _)) with e|hxm
   ·exact e
   ·rcases yMo.1 ((h y).2 (.head _)) with e|hym
    ·exact e.symm
    ·exact absurd (hy.1 x hxm) (ha _ _ (hx.1 y hym))
  subst e;rw [y9M ha hx.2 hy.2 fun z=>?_];constructor
  ·intro hz;rcases yMo.1 ((h z).1 (.tail _ hz)) with e|g
   ·subst e;exact absurd (hx.1 _ hz) (hirr _)
   ·exact g
  ·intro hz;rcases yMo.1 ((h z).2 (.tail _ hz)) with e|g
   ·subst e;exact absurd (hy.1 _ hz) (hirr _)
   ·exact g
theorem of_l1{c set:LI}(hs:∀s∈set,0≤s∧s<(c.length:Int))(hl:set.length≤1000000):iter (y1b set c) (0,([]:LI))=some (set.map (cF c)):=by
 have:=y4o (xs:=set) (y1b set c) (cF c) [] (by rw [List.length_nil];omega) (fun j hj o=>by
  unfold y1b;simp only [ct_lt hj,if_true,yd hj,yOb];rw [idxF (hs _ (yGm hj)),yOb]) (fun o=>by
  unfold y1b;simp)
 rwa [List.nil_append] at this
theorem of_eq{c set:LI}(hs:∀s∈set,0≤s∧s<(c.length:Int))(hl:set.length≤1000000):yq c set=some (clsS c set):=by
 rw [yq,of_l1 hs hl,yOb,y7t (by rw [yLm];omega),yOb,y8d (by rw [(y1G _).length_eq,yLm];omega)];rfl
theorem yfO(c:LI)(x:Int):topL (c++[x])=max (topL c) (x+1):=by unfold topL;rw [List.foldl_append];rfl
def clsE(c:LI)(y:E3):E3:=(cF c y.1,y.2.1,cF c y.2.2)
def qualE(y:E3):Bool:=(y.2.1 != (-1))||(y.1 != y.2.2)
def oneS(out:List E3)(z:E3):List E3:=if qualE z=true∧z∉out then out++[z] else out
def oneF(l:List E3):List E3:=l.foldl oneS []
theorem ycm(l:List E3)(z:E3):oneF (l++[z])=oneS (oneF l) z:=by unfold oneF;rw [List.foldl_append];rfl
theorem y8C(l:List E3):(oneF l).Nodup∧(∀z,z∈oneF l↔z∈l∧qualE z=true)∧(oneF l).length≤l.length:=by
 have key:∀n,n≤l.length→(oneF (l.take n)).Nodup∧(∀z,z∈oneF (l.take n)↔z∈l.take n∧qualE z=true)∧(oneF (l.take n)).length≤n:=by
  intro n
  induction n with
  | zero=>intro _;exact⟨.nil,fun z=>by simp [oneF],yNr _⟩
  | succ n ih=>
   intro hn;obtain⟨h1,h2,h3⟩:=ih (by omega);rw [yTs (by omega),ycm];unfold oneS;split
   ·rename_i h;refine⟨?_,fun z=>?_,by simp;omega⟩
    ·unfold List.Nodup;rw [List.pairwise_append];exact⟨h1,List.pairwise_singleton _ _,fun x hx y hy e=>h.2 (by rw [←yMs.1 hy,←e];exact hx)⟩
    ·rw [yMa,yMa,h2,yMs];constructor
     ·rintro (⟨g1,g2⟩|rfl)
      ·exact ⟨.inl g1,g2⟩
      ·exact ⟨.inr rfl,h.1⟩
     ·rintro ⟨g1|g1,g2⟩
      ·exact .inl ⟨g1,g2⟩
      ·exact .inr g1
   ·rename_i h;refine⟨h1,fun z=>?_,by omega⟩;rw [yMa,h2,yMs];constructor
    ·rintro ⟨g1,g2⟩;exact⟨.inl g1,g2⟩
    ·rintro ⟨g1|rfl,g2⟩
     ·exact ⟨g1,g2⟩
     ·exact Classical.byContradiction fun hne=>h ⟨g2,fun hm=>hne ((h2 _).1 hm)⟩
 have:=key l.length (yNr _);rwa [List.take_length] at this
theorem ydr :∀(l:List E3) (z:E3),kget (l.map fun z=>(z,true)) z=if z∈l then some true else none
 | [],z=>by simp [kget]
 | x::l,z=>by
  have ih:=ydr l z;unfold kget at ih ⊢;rw [List.map_cons,List.find?_cons];by_cases h:z=x
  ·subst h;simp
  ·have h':(z==x)=false:=by simpa using h
   simp only [h'];rw [ih];simp [h]
theorem ygL{l:List E3}{z:E3}(h:z∉l):kput (l.map fun z=>(z,true)) z true=(l++[z]).map fun z=>(z,true):=by
 unfold kput;rw [iN (by rw [List.map_map,show((fun p:E3×Bool=>p.1)∘fun z=>(z,true))=id from rfl,List.map_id,yaC h,yLm];omega),List.map_append];rfl
section
variable{a:NdT}{n:Nat}{c:LI}(ha:NdOk a)(hn:a.2.1=(n:Int))(hcl:c.length=n)(hHu:Hund c)
include ha hn hcl
include hHu in
theorem yhY :iter (y1u (c,0)) (0,0)=some (topL c):=by
 have hn1:=ha.n1;obtain⟨o,ho,he⟩:=yg (f:=y1u (c,0)) (fun j st=>st=((j:Int),topL (c.take j))) (fun o=>o=topL c) c.length 0 (by omega) (fun j st hj e1=>by
   subst e1;refine .inl ⟨_,?_,rfl⟩;have hx:=hHu _ (yGm hj);unfold y1u;simp only [ct_lt hj,if_true,yd hj,yOb];rw [nxt (by omega),W_of (by omega) (by omega),yTs hj,yfO];congr 3;split <;> omega)
  (fun st e1=>by
   subst e1;refine⟨_,?_,rfl⟩;rw [List.take_length];unfold y1u;simp) (by omega) (0,0) rfl
 rw [ho,he]
theorem yhZ :iter (yS a (c,0)) (0,([]:List (E3×Bool)),([]:List E3))=some (oneF (a.2.2.2.2.map (clsE c))):=by
 have hle:=ha.le;obtain⟨o,ho,he⟩:=yg (f:=yS a (c,0)) (fun j st=>st=((j:Int),(oneF ((a.2.2.2.2.take j).map (clsE c))).map (fun z=>(z,true)),oneF ((a.2.2.2.2.take j).map (clsE c)))) (fun o=>o=oneF (a.2.2.2.2.map (clsE c))) a.2.2.2.2.length 0 (by omega) (fun j st hj e1=>by
   subst e1;refine .inl ⟨_,?_,rfl⟩;have hx:=ha.esr _ (yGm hj);have h3:=(y8C ((a.2.2.2.2.take j).map (clsE c))).2.2;rw [yLm,yLt,Nat.min_eq_left (by omega)] at h3;rw [yTs hj,List.map_append,List.map_singleton,ycm];generalize oneF ((a.2.2.2.2.take j).map (clsE c))=S at h3 ⊢;unfold yS;simp only [ct_lt hj,if_true,yd hj,yOb];rw [idxF (by omega),yOb,idxF (by omega),yOb];have hz:(cF c a.2.2.2.2[j].1,a.2.2.2.2[j].2.1,cF c a.2.2.2.2[j].2.2)=clsE c a.2.2.2.2[j]:=rfl;have hk:((a.2.2.2.2[j].2.1 != (-1))||(cF c a.2.2.2.2[j].1 != cF c a.2.2.2.2[j].2.2))=qualE (clsE c a.2.2.2.2[j]):=rfl;rw [hz,hk];generalize clsE c a.2.2.2.2[j]=z;rw [ydr];unfold oneS;by_cases hm:z∈S
   ·rw [iP hm,iN (by simp),iN (by simp [hm])];rw [yR];simp only [nxt (show j<4611686018427387904 by omega)]
   ·rw [iN hm];cases hb:qualE z with
    | false=>
     rw [iN (by simp),iN (by simp)];rw [yR];simp only [nxt (show j<4611686018427387904 by omega)]
    | true=>
     rw [iP (by simp),iP ⟨rfl,hm⟩,yD (by simp;omega),yOb,ygL hm];rw [yR];simp only [nxt (show j<4611686018427387904 by omega)])
  (fun st e1=>by
   subst e1;refine⟨_,?_,rfl⟩;rw [List.take_length];unfold yS;simp) (by omega) (0,[],[]) rfl
 rw [ho,he]
end
def absE(a:NdT)(c:LI):List E3:=srtL (ltf yb) (oneF (a.2.2.2.2.map (clsE c)))
theorem yds{a:NdT}{c:LI}{z:E3}:z∈absE a c↔ ∃y∈a.2.2.2.2,clsE c y=z∧qualE z=true:=by
 unfold absE;rw [(y3q _ _).mem_iff,(y8C _).2.1,yMp];constructor
 ·rintro ⟨⟨y,h1,h2⟩,h3⟩;exact⟨y,h1,h2,h3⟩
 ·rintro ⟨y,h1,h2,h3⟩;exact⟨⟨y,h1,h2⟩,h3⟩
theorem yhz(a:NdT)(c:LI):(absE a c).Pairwise ltE3:=by
 have h1:=yhy cmpN (oneF (a.2.2.2.2.map (clsE c)));have h2:(absE a c).Nodup:=(y3q _ _).nodup_iff.2 (y8C _).1;exact(h1.and h2).imp fun {x y} h=>Classical.byContradiction fun hn=>h.2 (ydq hn h.1)
def absN(a:NdT)(c:LI):NdT:=(a.1,topL c,clsS c a.2.2.1,clsS c a.2.2.2.1,absE a c)
theorem RfI.hund{L:Lts Int}{n:Nat}{c:LI}(h:RfI L n c)(h99:n≤99):Hund c:=fun x hx=>by
 obtain⟨i,hi,e⟩:=List.mem_iff_getElem.1 hx;have:=h.fst.lt i x (by rw [yGe hi,e]);have:=h.len;omega
theorem yhA{a:NdT}(ha:NdOk a)(h99:a.2.1≤99){c:LI}(hc:RfOk (ltsN a) a.2.1.toNat c):NdOk (absN a c)∧AbsOk a (absN a c) c:=by
 have h0:=ha.n0;have hcl:=hc.len;have hH:=hc.toRfI.hund (by omega);have ht:=hc.fst.top_le;have hin:∀s,0≤s∧s<a.2.1→0≤cF c s∧cF c s<topL c:=fun s hs=>by
  have hm:=y7w (c:=c) hs.1 (by omega);exact⟨(hH _ hm).1,ya0 hm⟩
 refine⟨⟨ha.al,ha.alr,ye9 c,by show topL c≤4096;omega,y4X _,fun x hx=>?_,y4X _,fun x hx=>?_,yhz a c,fun z hz=>?_,ha.la,Nat.le_trans (y9e _ _) ha.li,Nat.le_trans (y9e _ _) ha.lm,?_⟩,⟨hc,rfl,⟨fun x=>?_,fun x=>?_,fun e=>Iff.rfl,fun e x y=>?_⟩⟩⟩
 ·obtain ⟨s,hs,rfl⟩:=y5w.1 hx;exact hin s (ha.inr s hs)
 ·obtain ⟨s,hs,rfl⟩:=y5w.1 hx;exact hin s (ha.mkr s hs)
 ·obtain ⟨y,hy,rfl,hk⟩:=yds.1 hz;have:=ha.esr y hy;have g1:=hin y.1 (by omega);have g2:=hin y.2.2 (by omega);exact⟨g1.1,g1.2,g2.1,g2.2,this.2.2.2.2⟩
 ·show (absE a c).length≤65536;unfold absE;rw [(y3q _ _).length_eq];have:=(y8C (a.2.2.2.2.map (clsE c))).2.2;rw [yLm] at this;have:=ha.le;omega
 ·exact y5w
 ·exact y5w
 ·show (x,e,y)∈absE a c↔_;rw [yds];constructor
  ·rintro ⟨⟨s,e',t⟩,hy,h1,h2⟩;unfold clsE at h1;obtain⟨rfl,h3⟩:=Prod.mk.inj h1;obtain⟨rfl,rfl⟩:=Prod.mk.inj h3;refine⟨s,t,hy,rfl,rfl,?_⟩;simpa [qualE] using h2
  ·rintro ⟨s,t,hst,rfl,rfl,h⟩;exact⟨(s,e,t),hst,rfl,by simpa [qualE] using h⟩
theorem yah{a:NdT}(ha:NdOk a)(h99:a.2.1≤99)(hal:a.1.length≤32):∃c,y1C a=some (c,0)∧yQ a=some (absN a c,0)∧NdOk (absN a c)∧AbsOk a (absN a c) c:=by
 have h0:=ha.n0;obtain⟨c,h1,hc⟩:=yfM ha h99 hal;have hcl:=hc.len;have hH:=hc.toRfI.hund (by omega);obtain⟨h2,h3⟩:=yhA ha h99 hc;have hk:y1C a=some (c,0):=by rw [y1C,y5R ha,yOb,iN (by simp),h1,yOb]
 have hla:=ha.la;have hn:a.2.1=(a.2.1.toNat:Int):=by omega
 refine⟨c,hk,?_,h2,h3⟩;have hle:=ha.le;have hol:=(y8C (a.2.2.2.2.map (clsE c))).2.2;rw [yLm] at hol;rw [yQ,hk,yOb,iN (by simp),yaA (by omega),yOb];dsimp only;rw [of_eq (fun s hs=>by have:=ha.inr s hs;omega) ha.li,yOb,of_eq (fun s hs=>by have:=ha.mkr s hs;omega) ha.lm,yOb,yhY ha hn hcl hH,yOb];show(iter (yS a (c,0)) (0,([]:List (E3×Bool)),([]:List E3))).bind _=_;rw [yhZ ha hn hcl,yOb,absC,ygK cmpN (by omega),yOb];rfl
theorem y9f{a:NdT}{S:LI}{t:Int}:Rc3 a.2.2.2.2 S t↔ ∃s∈S,Star (ltsN a).nxt1 s t:=by
 constructor
 ·intro h
  induction h with
  | ini h=>exact⟨_,h,.refl _⟩
  | edge hx _ ih=>
   obtain⟨s,hs,h⟩:=ih;exact⟨s,hs,h.tail ⟨_,hx⟩⟩
 ·rintro ⟨s,hs,h⟩
  induction h with
  | refl=>exact .ini hs
  | tail _ g ih=>
   obtain⟨e,g⟩:=g;exact .edge (x:=(_,e,_)) g ih
theorem ycn{a:NdT}{s:Int}:goodB a s=true↔ ∃t,Star (ltsN a).nxt1 s t∧(ltsN a).fin t:=by
 unfold goodB;rw [@decide_eq_true_iff _ (Classical.propDecidable _)];constructor
 ·rintro ⟨t,h1,h2⟩;obtain⟨u,hu,h3⟩:=y9f.1 h2;rw [yMs.1 hu] at h3;exact⟨t,h3,h1⟩
 ·rintro ⟨t,h1,h2⟩;exact⟨t,h2,y9f.2 ⟨s,yMs.2 rfl,h1⟩⟩
theorem yi0{a:NdT}(ha:NdOk a){q:Nat→Bool}(hq:∀i:Nat,i<a.2.1.toNat→(q i=true↔Rc3 a.2.2.2.2 a.2.2.1 (i:Int))):((staL a.2.1.toNat q).filter fun s=>!goodB a s)= []↔(ltsN a).NB:=by
 rw [List.filter_eq_nil_iff];have hin:∀s,(ltsN a).rch s→0≤s∧s<a.2.1:=fun s ⟨i,hi,hp⟩=>by
  induction hp with
  | refl=>exact ha.inn.i i hi
  | tail _ g _=>obtain⟨e,g⟩:=g;exact(ha.inn.s _ _ _ g).2
 constructor
 ·intro h s hs;obtain⟨h0,h1⟩:=hin s hs;have hm:s∈staL a.2.1.toNat q:=y6b.2 ⟨s.toNat,by omega,by omega,(hq _ (by omega)).2 (by
   rw [show ((s.toNat:Nat):Int)=s by omega];obtain⟨i,hi,hp⟩:=hs;exact y9f.2 ⟨i,hi,hp⟩)⟩
  have:=h s hm;simp only [Bool.not_eq_true',Bool.not_eq_false] at this;exact ycn.1 (by simpa using this)
 ·intro h s hs;obtain⟨i,rfl,hi,hqi⟩:=y6b.1 hs;obtain⟨u,hu,hp⟩:=y9f.1 ((hq i hi).1 hqi);have:=ycn.2 (h (i:Int) ⟨u,hu,hp⟩);simp [this]
theorem yai{c:NdT}(hc:NdOk c):∃l:LI,y2m c=some (l,0)∧y1E c=some l∧y4m c=some l∧l.length≤4294967296∧(l= []↔(ltsN c).NB):=by
 obtain⟨q,h1,h2⟩:=ygy hc;have h3:=yeD hc h1;have:=hc.n1;refine⟨_,?_,h3,h2,?_,yi0 hc h1⟩
 ·rw [y2m,y5R hc,yOb,iN (by simp),h3,yOb]
 ·exact Nat.le_trans (List.length_filter_le _ _) (Nat.le_trans (y5u _ _) (by omega))
theorem ybi{a b:NdT}(ha:NdOk a)(hb:NdOk b){N u:Nat}(h1:a.2.1.toNat*b.2.1.toNat≤N)(h2:∀c:NdT,c.1=dd (isL (a.1++b.1))→c.1.length≤u)(h3:N≤4096)(h4:a.1.length+b.1.length≤64)(h5:N*((u+1)*N)≤65536):
  ∃(c:NdT) (ps:List (Int×Int)),y3d a b=some (c,ps)∧yK a b=some (c,ps,0)∧CmpOk a b c ps∧NdOk c:=by
 obtain⟨c,ps,k1,k2,k3,k4,k5⟩:=yeB ha hb (by omega) h4;have:=h2 c k3.al;exact⟨c,ps,k1,k2,k3,k4 (Nat.le_trans k5 (Nat.le_trans (Nat.mul_le_mul h1 (Nat.mul_le_mul (by omega) h1)) h5))⟩
theorem yco{a b c:NdT}(h:c.1=dd (isL (a.1++b.1))):c.1.length≤a.1.length+b.1.length:=by
 have:=y9E (isL (a.1++b.1));rw [(y1G _).length_eq,yLa] at this;rw [h];omega
theorem ycs{d o:Int×Int×Int×Int×List E3}(hd:DrOk d)(ho:DrOk o):y1P d o=some true:=by
 obtain⟨a,ma,ha,na,la⟩:=ye6 hd;obtain⟨b,mb,hb,nb,lb⟩:=ye6 ho;obtain⟨c,_,h2,hx,hA⟩:=yah ha (by omega) (by omega);have hle:=hA.le ha;generalize absN a c=x at h2 hx hA hle;have hxl:x.1.length≤32:=by
  have h:=y9M (lt:=fun a b:Int=>a<b) (fun _ _ h=>by omega) hx.al ha.al fun e=>hA.ab.ev e;rw [h];omega
 have hxl4:x.1.length≤4:=by
  have h:=y9M (lt:=fun a b:Int=>a<b) (fun _ _ h=>by omega) hx.al ha.al fun e=>hA.ab.ev e;rw [h];omega
 obtain⟨c2,_,h3,hy,hB⟩:=yah hx (by omega) hxl;have hcount:=hA.same_count ha hB;generalize absN x c2=y at h3 hy hB hcount;have hN:∀z:NdT,z.2.1≤5→z.2.1.toNat*b.2.1.toNat≤25:=fun z hz=>by
  have:z.2.1.toNat*b.2.1.toNat≤5*5:=Nat.mul_le_mul (by omega) (by omega);omega
 obtain⟨p,ps,_,k2,k3,k4⟩:=ybi ha hb (u:=8) (hN a (by omega)) (fun c h=>by have:=yco h;omega) (by omega) (by omega) (by decide);obtain⟨q,qs,_,j2,j3,j4⟩:=ybi hx hb (u:=8) (hN x (by omega)) (fun c h=>by have:=yco h;omega) (by omega) (by omega) (by decide);obtain⟨s,e1,_,_,_,e2⟩:=yai k4;obtain⟨t,e3,_,_,_,e4⟩:=yai j4;have hnb:=yhW hA ha hb hx k3 j3;rw [y1P,yhp,yOb,iN (by simp),ma,yOb,mb,yOb,h2,yOb,h3,yOb,iN (by simp [hcount];omega),k2,yOb,j2,yOb,iN (by simp),e1,yOb,e3,yOb];have hst:s= []↔t= []:=e2.trans (hnb.trans e4.symm);have hz:∀l:LI,((l.length:Int)==0)=decide (l= []):=fun l=>by
  cases l with
  | nil=>rfl
  | cons x l=>
   have:((x::l).length:Int)≠0:=by rw [yLc];omega
   rw [beq_eq_false_iff_ne.2 this,decide_eq_false (by simp)]
 dsimp only;rw [hz,hz];by_cases ht:t= []
 ·simp [ht,hst.2 ht]
 ·have hs:s≠ []:=fun h=>ht (hst.1 h);simp [ht,hs]
end
end
section
open Go.Proofs.Tryz Go Go.RowKit Go.ChangeShapes Go.WideShapes Go.Deep
def Op(P:Program){α:Type}(r:Rep α)(Q:α→Prop)(t:TypeId):Prop:=
 ∀(H:Type) (enc:TypeId×Value→H) (w:World) (fuel:Nat) (cs:List Value) (x:DataW H×List MemPlace),DataW.trod enc P w 0 (fun _=>true) true fuel t cs=some x→∃y:α,r.rd ⟨w,fun _=>0⟩ cs y∧Q y
section
variable{P:Program}{α β:Type}{r:Rep α}{q:Rep β}{Q:α→Prop}{R:β→Prop}{t e:TypeId}
theorem Op.int{k:IntKind}(ht:P.underlying t=some (.int k)):Op P (rK k) (fun n=>k.min≤n∧n≤k.max) t:=by
 intro H enc w fuel cs x h;obtain⟨n,h1,h2,h3⟩:=DataW.trod_int ht h;refine⟨n,h1,?_⟩;simpa [Lit.wf] using h3
theorem ygM{H:Type}{enc:TypeId×Value→H}{w:World}{base fuel:Nat}{v:Value}{x:DataW H×List MemPlace}(ht:P.underlying t=some (.slice e))(hc:P.cellsOf e=r.sz)(ho:Op P r Q e)(hok:Cell.okWide P w .any base t v)
  (h:DataW.trod enc P w 0 (fun _=>true) true fuel t [v]=some x):∃(a:Option Addr) (c:Nat) (xs:List α),v= .slice a xs.length c∧RdL r ⟨w,fun _=>0⟩ a c xs∧∀y∈xs,Q y:=by
 rcases open_slice ht h with ⟨h1,-⟩|⟨a,len,cap,m,n,D,Pl,h1,-,h3,h4,h5,-,h7⟩
 ·rw [List.cons.injEq] at h1;refine⟨none,0,[],h1.1,⟨[],⟨by simp,by simp,by simp,fun _=>rfl,fun ad e=>(by cases e),fun ad e=>(by cases e)⟩,fun ad e=>(by cases e),rfl⟩,fun y hy=>(by cases hy)⟩
 ·rw [List.cons.injEq] at h1;have hv:=h1.1;subst hv;rw [iP rfl] at h5;subst h5;have hsp:a.spot=none:=by
   simp only [Cell.okWide,ht,Cell.ok] at hok;exact hok.2.2.2.1
  have hadd:∀k,a.add k=⟨a.block,a.off+k,none⟩:=fun k=>by
   obtain⟨b,o,sp⟩:=a;dsimp only at hsp;subst hsp;unfold Addr.add;split
   ·rename_i hk;subst hk;rfl
   ·rfl
  have key:∀k,k≤len→∃(xs:List α) (cs:List Value),xs.length=k∧Cells r ⟨w,fun _=>0⟩ cs xs∧(∀y∈xs,Q y)∧∀j (hj:j<cs.length),w.cell? ⟨a.block,a.off+j,none⟩=some cs[j]:=by
   intro k
   induction k with
   | zero=>intro _;exact⟨[],[],rfl,rfl,fun y hy=>(by cases hy),fun j hj=>absurd hj (Nat.not_lt_zero _)⟩
   | succ k ih=>
    intro hk;obtain⟨xs,cs,g1,g2,g3,g4⟩:=ih (by omega);obtain⟨cs',k1,k2⟩:=h7 k (by omega);obtain⟨y,k3,k4⟩:=ho H enc w n cs' _ k2;obtain⟨-,k5,k6⟩:=World.cells?_some k1;have hl:=g2.len;rw [g1] at hl;rw [hc] at k5 k6;refine⟨xs++[y],cs++cs',by simp [g1],g2.append ⟨cs',[],by simp,k3,rfl⟩,fun z hz=>?_,fun j hj=>?_⟩
    ·rcases yMa.1 hz with hz|hz
     ·exact g3 z hz
     ·rw [yMs.1 hz];exact k4
    ·by_cases hlt:j<cs.length
     ·rw [List.getElem_append_left hlt];exact g4 j hlt
     ·have hj2:j-cs.length<cs'.length:=by rw [yLa] at hj;omega
      rw [List.getElem_append_right (by omega)];have:=k6 (j-cs.length) (by omega);rw [add_add,hadd,yGe hj2] at this;rw [←this];congr 2;omega
  obtain⟨xs,cs,g1,g2,g3,g4⟩:=key len (yNr _);subst g1;refine⟨some a,m,xs,rfl,⟨cs,⟨g2.len,h3,h4,fun e=>(by cases e),fun ad e=>(by cases e;exact hsp),fun ad e j hj=>(by cases e;exact g4 j hj)⟩,fun _ _ _=>rfl,g2⟩,g3⟩
theorem yi1{w:World}{base:Nat}{v:Value}{fs:Array Field}{ts:List TypeId}(ht:P.underlying t=some (.struct fs))(hts:P.cellTypes P.depth t=some ts)(hsz:P.cellsOf t=ts.length)(hok:Value.okWide P w .any base t v):
  ∃cs,v= .agg cs∧cs.size=ts.length∧∀(i:Nat) (u:TypeId),ts[i]? =some u→∃c:Value,cs[i]? =some c∧Cell.okWide P w .any base u c:=by
 simp only [Value.okWide,ht] at hok;obtain⟨cs,rfl,h1,ts',h2,h3,h4⟩:=hok;rw [hts] at h2;cases h2;refine⟨cs,rfl,by omega,fun i u hu=>?_⟩;have hlt:i<ts.length:=(yGs.1 hu).1;obtain⟨u',g1,g2⟩:=h4 i cs[i] (Array.getElem?_eq_getElem (by omega));rw [Nat.mod_eq_of_lt hlt,hu] at g1;cases g1;exact⟨_,Array.getElem?_eq_getElem (by omega),g2⟩
theorem ygN{H:Type}{enc:TypeId×Value→H}{w:World}{fuel:Nat}{cs:List Value}{x:DataW H×List MemPlace}{fs:Array Field}(ht:P.underlying t=some (.struct fs))(h:DataW.trod enc P w 0 (fun _=>true) true fuel t cs=some x){i:Nat}{f:Field}(hf:fs[i]? =some f):
  ∃n y,DataW.trod enc P w 0 (fun _=>true) true n f.type ((cs.drop f.offset).take (P.cellsOf f.type))=some y:=by
 obtain⟨xs,n,_,_,_,h5,h6⟩:=DataW.trod_struct ht h;have hlt:=(yAs.1 hf).1;exact⟨n,xs[i]'(by omega),by rw [h6 i f hf,yGe (by omega)]⟩
theorem yfP{H:Type}{enc:TypeId×Value→H}{w:World}{fuel:Nat}{cs:List Value}{x:DataW H×List MemPlace}{fs:Array Field}(ht:P.underlying t=some (.struct fs))(h:DataW.trod enc P w 0 (fun _=>true) true fuel t cs=some x)(i:Nat)(u:TypeId){f:Field}{o:Nat}{c:Value}(hf:fs[i]? =some f)(hu:f.type=u)(ho:f.offset=o)(hc:P.cellsOf u=1)(hat:cs[o]? =some c):
  ∃n y,DataW.trod enc P w 0 (fun _=>true) true n u [c]=some y:=by
 obtain⟨n,y,g⟩:=ygN ht h hf;subst hu;subst ho;rw [hc] at g;obtain⟨hlt,he⟩:=yGs.1 hat;rw [yDc hlt,he,List.take_succ_cons,List.take_zero] at g;exact⟨n,y,g⟩
end
end
section
open Go.Proofs.Tryz Go Go.ChangeShapes Go.WideShapes Go.ChangeAt Go.RowKit Go.Deep
theorem Fw.law{P:Program}{f:FuncId}{ts:List TV}(h:Fw P f ⟨0,[]⟩ ts [] (.b true) []){w:World}{vs:List Value}(ha:All3 (fun _=> .bool false) ⟨w,fun _=>0⟩ ts vs):Calls P f vs.toArray w fun e w'=>e= .returned (.bool true)∧Below w.heap.size w w':=
 Calls.mono (h.is [] (fun _=> .bool false) ⟨w,fun _=>0⟩ vs rfl (yNr _) List.nodup_nil (fun t ht=>by cases ht) ha (fun i o h=>by simp at h)) fun e W' ⟨v,s',hw,he,hm,β',_,hv,_⟩=>by
  obtain⟨hv,_⟩:=hv;subst hw;subst hv;exact⟨he,(hm.weak (S':=No) fun t ⟨i,hi,_⟩=>by cases hi).below⟩
theorem All3.c{β:Nat→Value}{s:Sig}{x:TV}{xs:List TV}{v:Value}{us:List Value}(h:x.p β s v)(h2:All3 β s xs us):All3 β s (x::xs) (v::us):=⟨v,us,h,h2,rfl⟩
theorem op_u8 :Op prog (rK .u8) (fun n=>0≤n∧n<256) 5:=by
 intro H enc w fuel cs x h;obtain⟨y,h1,h2⟩:=(Op.int (P:=prog) (k:= .u8) underlying5) H enc w fuel cs x h;refine⟨y,h1,?_⟩;simp [IntKind.min,IntKind.max,IntKind.signed,IntKind.bits] at h2;omega
theorem Op.arr3{α:Type}{r:Rep α}{Q:α→Prop}{P:Program}{t e:TypeId}(ht:P.underlying t=some (.array 3 e))(ho:Op P r Q e)(c1:P.cellsOf e=r.sz)(ct:P.cellsOf t=r.sz+r.sz+r.sz):Op P (rP r (rP r r)) (fun y=>Q y.1∧Q y.2.1∧Q y.2.2) t:=by
 intro H enc w fuel cs x h;obtain⟨xs,m,_,_,h3,h4,h5⟩:=DataW.trod_array ht h;rw [c1] at h5;have g:∀i,i<3→∃y:α,r.rd ⟨w,fun _=>0⟩ ((cs.drop (i*r.sz)).take r.sz) y∧Q y:=fun i hi=>by
  obtain⟨x,hx⟩:∃x,xs[i]? =some x:=⟨xs[i]'(by omega),yGe (by omega)⟩;exact ho H enc w m _ x (by rw [h5 i hi,hx])
 obtain⟨y0,a0,b0⟩:=g 0 (by omega);obtain⟨y1,a1,b1⟩:=g 1 (by omega);obtain⟨y2,a2,b2⟩:=g 2 (by omega);rw [Nat.zero_mul,List.drop_zero] at a0;rw [Nat.one_mul] at a1;refine⟨(y0,y1,y2),⟨_,_,?_,a0,_,_,rfl,a1,a2⟩,b0,b1,b2⟩;have e2:((cs.drop (2*r.sz)).take r.sz)=cs.drop (2*r.sz):=List.take_of_length_le (by rw [List.length_drop];omega);rw [e2,show 2*r.sz=r.sz+r.sz by omega,←List.drop_drop,List.take_append_drop,List.take_append_drop]
theorem ygO :prog.cellTypes prog.depth 24=some [5,5,5,5,22]:=by kernel_rfl
theorem ygP :prog.cellsOf 24= [5,5,5,5,22].length:=by kernel_rfl
theorem arr5{cs:Array Value}(h:cs.size=5):∃a b c d e,cs= #[a,b,c,d,e]:=by
 obtain⟨l⟩:=cs
 match l,h with
 | [a,b,c,d,e],_=>exact⟨a,b,c,d,e,rfl⟩
theorem tc_u8 :prog.cellsOf 5=1:=by kernel_rfl
theorem tc_a3 :prog.cellsOf 118=3:=by kernel_rfl
theorem tc_l3 :prog.cellsOf 22=1:=by kernel_rfl
theorem y8D{w:World}{r:Reach}{base:Nat}{v:Value}(h:Cell.okWide prog w r base 5 v):∃n:Int,v= .int .u8 n∧0≤n∧n<256:=by
 simp only [Cell.okWide,underlying5] at h;cases v <;> simp_all [Cell.ok];rename_i k n;obtain⟨rfl,h2⟩:=h;simp [IntKind.has,IntKind.min,IntKind.max,IntKind.signed,IntKind.bits] at h2;omega
section
variable{H:Type}{enc:TypeId×Value→H}{w:World}{base:Nat}{v:Value}{d:DataW H}{ps:List MemPlace}
/-- A draft. -/
theorem yfQ(hok:Value.okWide prog w .any base 24 v)(h:DataW.Trod enc prog w 0 (fun _=>true) true 24 v d ps):∃x:Int×Int×Int×Int×List (Int×Int×Int),((0≤x.1∧x.1<256)∧(0≤x.2.1∧x.2.1<256)∧(0≤x.2.2.1∧x.2.2.1<256)∧(0≤x.2.2.2.1∧x.2.2.2.1<256)∧∀y∈x.2.2.2.2,(0≤y.1∧y.1<256)∧(0≤y.2.1∧y.2.1<256)∧0≤y.2.2∧y.2.2<256)∧∀β,(TV.a (lx24 x)).p β ⟨w,fun _=>0⟩ v:=by
 obtain⟨cs,rfl,h1,h2⟩:=yi1 underlying24 ygO ygP hok;obtain⟨v0,v1,v2,v3,v4,rfl⟩:=arr5 h1;obtain⟨fuel,hf⟩:=h;obtain⟨c0,e0,o0⟩:=h2 0 5 rfl;obtain⟨c1,e1,o1⟩:=h2 1 5 rfl;obtain⟨c2,e2,o2⟩:=h2 2 5 rfl;obtain⟨c3,e3,o3⟩:=h2 3 5 rfl;obtain⟨c4,e4,o4⟩:=h2 4 22 rfl;cases e0;cases e1;cases e2;cases e3;cases e4;obtain⟨n0,rfl,k0⟩:=y8D o0;obtain⟨n1,rfl,k1⟩:=y8D o1;obtain⟨n2,rfl,k2⟩:=y8D o2;obtain⟨n3,rfl,k3⟩:=y8D o3;obtain⟨m4,x4,g4⟩:=yfP underlying24 hf 4 22 rfl rfl rfl tc_l3 rfl;obtain⟨a,c,xs,rfl,r4,q4⟩:=ygM underlying22 tc_a3 (Op.arr3 underlying118 op_u8 tc_u8 tc_a3) o4 g4;refine⟨(n0,n1,n2,n3,xs),⟨k0,k1,k2,k3,fun x hx=>q4 x hx⟩,fun β=>⟨[_,_,_,_,_],⟨_,_,⟨rfl,rfl⟩,⟨_,_,⟨rfl,rfl⟩,⟨_,_,⟨rfl,rfl⟩,⟨_,_,⟨rfl,rfl⟩,⟨_,_,⟨_,_,rfl,r4⟩,rfl,rfl⟩,rfl⟩,rfl⟩,rfl⟩,rfl⟩,rfl⟩⟩
end
theorem yOwn :ownKnob prog.godebug=none:=by kernel_rfl
theorem yLaid :laidOutB prog=true:=by kernel_rfl
section
variable{H:Type}{enc:TypeId×Value→H}
def ydt(P:Program)(ts:List TypeId):Bool:=ts.all fun t=>P.readableRec t&&decide (t<P.types.size)
theorem y9k{P:Program}(hl:laidOutB P=true){W W':World}(hb:Below W.heap.size W W'){sp:Nat→Bool}:∀{ts:List TypeId} {vs:List Value} {ds:List (DataW H)} {ps:List MemPlace},ydt P ts=true→
  DataW.TrodAll enc P W 0 (fun _=>true) true ts vs ds ps→(∀x∈ps,x.block<W.heap.size)→(∀x∈ps,sp x.block=true)→DataW.TrodAll enc P W' 0 sp true ts vs ds ps
 | [],[],[],_,_,h,_,_=>h
 | [],_::_,_,_,_,h,_,_=>h.elim
 | [],[],_::_,_,_,h,_,_=>h.elim
 | t::ts,[],_,_,_,h,_,_=>h.elim
 | t::ts,_::_,[],_,_,h,_,_=>h.elim
 | t::ts,v::vs,d::ds,ps,hc,⟨p,q,h1,h2,e⟩,hlt,hsp=>by
  subst e;unfold ydt at hc;rw [List.all_cons,yAe,yAe] at hc;exact⟨p,q,WideElems.Trod_stays hl hc.1.1 (of_decide_eq_true hc.1.2) h1 (fun x hx=>hb.same (hlt x (yMl _ hx))) (fun x hx=>hsp x (yMl _ hx)),
   y9k hl hb hc.2 h2 (fun x hx=>hlt x (yMr _ hx)) (fun x hx=>hsp x (yMr _ hx)),rfl⟩
theorem ygQ{P:Program}(hl:laidOutB P=true){f:Func}{s:ChangeSpec}{apart fresh handsOn again:Bool}{W W':World}{args:Array Value}{ds:List (DataW H)}{before:List MemPlace}{tb:TypeId}{b:Bool}
  (hW:DataW.Whole enc P f.params.toList s.vars apart W args.toList ds [] before) (hv:s.vars= []) (hc:ydt P f.params.toList=true) (hrt:f.resultTypes= #[tb]) (ht:P.underlying tb=some .bool)
  (hr:(s.fn H (ds++[])).results= [.lit (.bool b)]) (ha:(s.fn H (ds++[])).args=ds) (hvn:(s.fn H (ds++[])).vars= []) (hb:Below W.heap.size W W'):
  s.post enc P f apart fresh handsOn again W args (.bool b) W':=by
 have hlt:∀p∈before,p.block<W.heap.size:=fun p hp=>hW.lt p hp;have hWc:=hW;obtain⟨p,q,hA,hV,rfl,hz,hn⟩:=hWc;rw [hv] at hV;obtain⟨-,rfl⟩:=trodVars_none hV;rw [List.append_nil] at hlt hz hn;have hargs:∀sp:Nat→Bool,(∀x∈p,sp x.block=true)→DataW.TrodAll enc P W' 0 sp true f.params.toList args.toList (s.fn H (ds++[])).args p:=fun sp hsp=>by
  rw [ha];exact y9k hl hb hc hA hlt hsp
 have hres:∀(b0:Nat) (sp:Nat→Bool) (hd:Bool),DataW.TrodAll enc P W' b0 sp hd f.resultTypes.toList ((Value.bool b).resultList f.resultTypes.size) (s.fn H (ds++[])).results []:=fun _ _ _=>by
  rw [hr,hrt];exact trodAll_mk1 (shut_bool ht b)
 have hvars:∀sp:Nat→Bool,DataW.TrodVars enc P W' sp s.vars (s.fn H (ds++[])).vars []:=fun sp=>by rw [hv,hvn];rfl
 have hold:∀x∈p,(fun b=>decide (b<W.heap.size)) x.block=true:=fun x hx=>by simpa using hlt x hx
 refine⟨ds,[],p++[],[],p,[],hW,hres _ _ _,hargs _ hold,hvars _,World.keptBut_mono (fun x hx=>?_) (hb.frame (· ∈p)),fun _=>?_⟩
 ·exact ⟨by rwa [List.append_nil],Or.inr (.inl hx)⟩
 ·have hok:=ok_one (f:=f) (W':=W') (by rw [hrt]) rfl (okWide_bool_mk (W':=W') ht b);refine⟨hok,_,_,([]++p)++[],⟨[]++p,[],trodAll_append (hargs _ (fun _ _=>rfl)) (hres _ _ _),hvars _,rfl,?_,?_⟩,?_⟩
  ·intro b0 off hp;have hin:MemPlace.cell b0 off∈p:=by simpa using hp
   rw [hb.frozen (hlt _ hin)];exact hz b0 off hin
  ·intro hap;simpa using hn hap
  ·intro x hx _;simpa using hx
end
def lay24 : List (String × DataW Unit) := [("math/bits.deBruijn32tab", Rows.laid_math_bits_deBruijn32tab), ("math/bits.deBruijn64tab", Rows.laid_math_bits_deBruijn64tab), ("internal/strconv.uint64pow10", Rows.laid_internal_strconv_uint64pow10)]
theorem yfR(os:Os)(args:Array Value):laidMetH prog lay24 ((World.laidAll prog os lay24).forCall (fun _ _=>0) ⟨#[],args,[]⟩).memory:=
 laidMetH_of_parts3 (fuel:=8) (laidMet_laidAll args (by kernel_rfl) (by kernel_rfl)) (by kernel_rfl) (by kernel_rfl)
theorem y6x(os:Os)(started:os.Started)(H:Type)(enc:TypeId×Value→H):
  ReturnsInHanded {} Tryz.checked os 3 .any (fun w args=>(Rows.nonconflictPreservesSpec.pre enc prog Tryz.f3 [] false w args∧laidMetH prog lay24 w)∧sizedMet enc prog Tryz.f3 (OpenSpec.ofChange Rows.nonconflictPreservesSpec) false w args) (Rows.nonconflictPreservesSpec.post enc prog Tryz.f3 false true false false):=by
 refine returnsInHanded_of_change_and (C:=Tryz.checked) (X:=fun w _=>laidMetH prog lay24 w) (fun _ _ _ hh h=>h.of_heap hh) yOwn started (by kernel_rfl) func3
  (ChangeSpec.witness_shaped (enc:=enc) (C:=Tryz.checked) (os:=os) (X:=fun w _=>laidMetH prog lay24 w) false (World.laidAll prog os lay24) #[.agg #[.int .u8 0,.int .u8 0,.int .u8 0,.int .u8 0,.slice none 0 0],.agg #[.int .u8 0,.int .u8 0,.int .u8 0,.int .u8 0,.slice none 0 0]] 8 (World.laidAll_os _ _ _) (World.shaped_of_ZipB (by kernel_rfl) (by kernel_rfl)) (by kernel_rfl) (by kernel_rfl) (by kernel_rfl) (yfR os _)) ?_
 intro W base args ds gs before hval0 hW _ _ _ _;have hval:∀(j:Nat) t v,Tryz.f3.params[j]? =some t→args[j]? =some v→Value.okWide prog W .any base t v:=hval0;have hW':=hW;obtain⟨p,q,hA0,hV,rfl,hfz,hnd⟩:=hW;have hA:DataW.TrodAll enc prog W 0 (fun _=>true) true Tryz.f3.params.toList args.toList ds p:=hA0;rw [Tryz.params3] at hA hval;obtain⟨v0,v1,d0,d1,p0,p1,rfl,rfl,rfl,h0,h1⟩:=trodAll_two hA;obtain⟨x,g0,r0⟩:=yfQ (hval 0 24 v0 rfl rfl) h0;obtain⟨y,g1,r1⟩:=yfQ (hval 1 24 v1 rfl rfl) h1;obtain⟨rfl,rfl⟩:=trodVars_none hV;clear hA0 hval0;refine Calls.mono ((y4z (ycs (d:=x) (o:=y) ⟨g0.1,g0.2.1,g0.2.2.1,g0.2.2.2.1,g0.2.2.2.2⟩ ⟨g1.1,g1.2.1,g1.2.2.1,g1.2.2.2.1,g1.2.2.2.2⟩)).law (All3.c (r0 _) (All3.c (r1 _) rfl))) fun e W' ⟨he,hbl⟩=>?_;subst he;exact⟨_,rfl,ygQ yLaid hW' rfl (by kernel_rfl) (by kernel_rfl) underlying4 rfl rfl rfl hbl⟩
end
section
open Go.Proofs.Tryz Go Go.RowKit
set_option maxRecDepth 100000
theorem yhB :prog.stopsHeard=true:=by kernel_rfl
theorem yhC :prog.mayEnter=true:=by kernel_rfl
theorem yhD :(laidOutB prog&&mapsRowed prog)=true:=by kernel_rfl
theorem yhE :(prog.stops==[])=true:=by kernel_rfl
theorem ygR :(prog.stopKnobs==[])=true:=by kernel_rfl
theorem ygS :false=prog.looks []:=by kernel_rfl
end
section
open Go.Proofs.Tryz Go Go.ChangeShapes Go.WideShapes Go.ChangeAt Go.RowKit Go.Deep
theorem y7E :(Rows.nonconflictPreservesRow.inPlace==prog.inPlace 3)=true:=by kernel_rfl
theorem y7F :(Rows.nonconflictPreservesRow.unfollowed==prog.unfollowed 3)=true:=by kernel_rfl
theorem y7G :(Rows.nonconflictPreservesRow.recurses==prog.recurses 3)=true:=by kernel_rfl
theorem y7H :(Rows.nonconflictPreservesRow.named==prog.varsNamed 3)=true:=by kernel_rfl
theorem y7I :(Rows.nonconflictPreservesRow.lifted==prog.liftsFinal)=true:=by kernel_rfl
theorem y6y :joinedFacts prog 3 Tryz.f3 Rows.nonconflictPreservesSpec Rows.nonconflictPreservesRow=true:=by
 have h8:=yhD;rw [yAe] at h8;unfold joinedFacts;rw [h8.1,h8.2,y7E,y7F,y7G,y7H,y7I,yhB,yhC,yhE,ygR];change (_:Bool)=true;kernel_rfl
theorem y6E :Rows.NonconflictPreservesSaid:=
 OpenClaim.holds_of_wide 3 Tryz.f3 rfl rfl rfl rfl rfl rfl rfl ⟨rfl,rfl,rfl,rfl,rfl⟩ rfl rfl rfl rfl rfl (by kernel_rfl) func3 y6y
  (of_decide_eq_true (by kernel_rfl)) (by unfold Func.isWrapper;first | (rw [iP (by decide +kernel)];kernel_rfl)|(rw [iN (by decide +kernel)];exact⟨rfl,rfl⟩))
  (fun os started H enc _=>y6x os started H enc)
theorem nonconflictPreserves_k12 :false=Rows.nonconflictPreservesRow.goesBy prog:=by kernel_rfl
theorem nonconflictPreserves_k13 : prog.funcNamed "overseer/overseerlaw33.NonconflictPreserves" = some 3 := by kernel_rfl
theorem nonconflictPreserves_k14 :(Tryz.f3.params.toList.all fun u=>!(prog.wantsStandIn u))=true:=by kernel_rfl
theorem nonconflictPreserves_k15 :Rows.nonconflictPreservesRow.wfByText (OpenSpec.ofChange Rows.nonconflictPreservesSpec)=true:=by kernel_rfl
theorem nonconflictPreserves_card_holds :Rows.NonconflictPreservesCardSaid:=
 Claim7.holds_tied_plain_at .later [] [.data,.data,.data] true _ false
  y6E (fun _ h=>by cases h) nonconflictPreserves_k15 (fun _ h=>by cases h) nonconflictPreserves_row_tie rfl ⟨rfl,rfl⟩ (by kernel_rfl) rfl
  (fun f fn hf hfn=>by
   obtain rfl:f=3:=ySi (nonconflictPreserves_k13.symm.trans hf) |>.symm;obtain rfl:fn=Tryz.f3:=(ySi (func3.symm.trans hfn)).symm;exact⟨ygS,fun j t ht=>by
    have hm:t∈Tryz.f3.params:=Array.mem_of_getElem? ht;exact(show prog.wantsStandIn t=false by simpa using yAt.1 nonconflictPreserves_k14 t (Array.mem_toList_iff.2 hm))⟩)
  nonconflictPreserves_k12
end
end Go.Proofs.YtfdeiphkmjdifaaGreatDoor
