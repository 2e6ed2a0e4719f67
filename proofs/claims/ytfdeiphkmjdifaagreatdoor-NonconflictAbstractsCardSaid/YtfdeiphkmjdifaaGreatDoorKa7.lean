/- NonconflictAbstracts returns true for all arguments, and leaves its arguments as they were. The condition: three tables of Go's library (math/bits, internal/strconv) hold what their source text lays, and the card ties this to the text. -/
import Derived.Deep.Slices
import Derived.ChangeSame
import Derived.ProofKit
import Derived.OpenShut
import Derived.Test.YtfdeiphkmjdifaaGreatDoorRows
import Derived.Test.YtfdeiphkmjdifaaGreatDoorTie
import Derived.Test.YtfdeiphkmjdifaaGreatDoorCards
import Derived.Test.YtfdeiphkmjdifaaGreatDoorProg
import Derived.Lay
import Derived.LaidMore
import Derived.LaidHandle
import Derived.SevenTiedAt
import Derived.Stop.Joined
import Derived.Test.YtfdeiphkmjdifaaGreatDoorKa6
set_option maxRecDepth 100000
namespace Go.Proofs.YtfdeiphkmjdifaaGreatDoor
section
open Go.Proofs.Tryz Go Go.RowKit
theorem ye5{a:NdT}{S:LI}{t:Int}:Rc3 (selE [-1] a.2.2.2.2) S t↔ ∃s∈S,(ltsN a).tau s t:=by
 have hm:∀x:E3,x∈selE [-1] a.2.2.2.2↔x∈a.2.2.2.2∧x.2.1= -1:=fun x=>by
  unfold selE;rw [List.mem_filter];simp [hasB]
 constructor
 ·intro h
  induction h with
  | ini h=>exact⟨_,h,.refl _⟩
  | edge hx _ ih=>
   obtain⟨s,hs,g⟩:=ih;obtain⟨h1,h2⟩:=(hm _).1 hx;refine⟨s,hs,g.tail ?_⟩;show(_,-1,_)∈a.2.2.2.2;rw [←h2];exact h1
 ·rintro ⟨s,hs,h⟩
  induction h with
  | refl=>exact .ini hs
  | tail _ g ih=>exact .edge (x:=(_,-1,_)) ((hm _).2 ⟨g,rfl⟩) ih
theorem yb1{a:NdT}(ha:NdOk a){S:LI}(hS:∀s∈S,0≤s∧s<a.2.1)(hl:S.length≤4294967296):yL a S [-1]=some (setL a.2.1.toNat fun t=>∃s∈S,(ltsN a).tau s t):=by
 obtain⟨q,h1,h2⟩:=yeX ha (ev:=[-1]) (by simp) hS hl;rw [h1,yau (p:=fun t=>∃s∈S,(ltsN a).tau s t) fun i hi=>(h2 i hi).trans ye5]
theorem y9h{a:NdT}(ha:NdOk a){s e:Int}(hs:0≤s∧s<a.2.1)(he:e= -1∨e∈a.1):y1R a s e=some (wkL a e s):=by
 have hle:=ha.le;have h0:=ha.n0;have h1:=ha.n1;have hc:=yb1 ha (S:=[s]) (fun x hx=>by rw [yMs.1 hx];exact hs) (by simp);have hc2:yL a [s] [-1]=some (wkL a (-1) s):=by
  rw [hc];congr 1;refine y7u fun t _=>?_;unfold Lts.wk;simp
 rw [y1R,hc2,yOb];rcases he with rfl|he
 ·rw [iP (by simp)]
 ·have hr:=ha.alr e he;rw [iN (by simp;omega)];have hwl:=y5j a.2.1.toNat fun t=>(ltsN a).wk (-1) s t;have hwl:(wkL a (-1) s).length≤a.2.1.toNat:=hwl;have hfs:=ycL (es:=a.2.2.2.2) (e:=e) (l:=wkL a (-1) s) (yat _ _);have hloop:iter (y2D a e (wkL a (-1) s)) (0,([]:LI))=some ([]++(wkL a (-1) s).flatMap fun s=>tgtL a.2.2.2.2 s e):=
   y9I _ _ _ (by omega) (by rw [show ([]:LI).length=0 from rfl];omega) (fun j hj o ho=>by
    unfold y2D;simp only [ct_lt hj,if_true,yj hj,yOb];rw [yeR ha,iN (by rw [show hasB a.1 e=true from yK.2 he];simp),yOb,y2G (by omega),yOb,nxt (by omega)]) (fun o=>by
    unfold y2D;simp)
  rw [hloop,yOb,List.nil_append,ybQ (by rw [show ([]:LI).length=0 from rfl];omega),yOb,List.append_nil];have hd:(dd (isL ((wkL a (-1) s).flatMap fun s=>tgtL a.2.2.2.2 s e))).length≤65536:=by
   have:=ycE (isL ((wkL a (-1) s).flatMap fun s=>tgtL a.2.2.2.2 s e));rw [(y4j _).length_eq] at this;omega
  rw [yb1 ha (fun x hx=>by
   obtain⟨u,_,h⟩:=List.mem_flatMap.1 (y7P.1 hx);have:=ha.esr _ (y4o.1 h);dsimp only at this;omega) (by omega),yOb]
  congr 1;refine y7u fun t _=>?_;constructor
  ·rintro ⟨u,hu,hp⟩;obtain⟨v,hv,hm⟩:=List.mem_flatMap.1 (y7P.1 hu);rcases(y1E.1 hv).2 with ⟨_,hq⟩|⟨h,_⟩
   ·exact .inr ⟨by omega,v,u,hq,y4o.1 hm,hp⟩
   ·exact absurd rfl h
  ·rintro (⟨h,_⟩|⟨_,v,u,hq,hm,hp⟩)
   ·omega
   ·have hv:=ha.esr _ hm;dsimp only at hv;exact⟨u,y7P.2 (List.mem_flatMap.2 ⟨v,y1E.2 ⟨⟨hv.1,by omega⟩,.inl ⟨rfl,hq⟩⟩,y4o.2 hm⟩),hp⟩
theorem ydN{a:NdT}(ha:NdOk a){s:Int}(hs:0≤s∧s<a.2.1):yb a s=some (mksB a s):=by
 have hlm:=ha.lm;have h1:=ha.n1;have hwl:=y5j a.2.1.toNat fun t=>(ltsN a).wk (-1) s t;have hwl:(wkL a (-1) s).length≤a.2.1.toNat:=hwl;rw [yb,y9h ha hs (.inl rfl),yOb,ybt (g:=hasB a.2.2.2.1) (by omega) (fun x _=>by rw [y2j,y5V (by omega)];rfl),yOb];congr 1;rw [Bool.eq_iff_iff,List.any_eq_true];unfold mksB;rw [@decide_eq_true_iff _ (Classical.propDecidable _)];constructor
 ·rintro ⟨t,ht,hm⟩;rcases(y1E.1 ht).2 with ⟨_,h⟩|⟨h,_⟩
  ·exact ⟨t,h,yK.1 hm⟩
  ·exact absurd rfl h
 ·rintro ⟨t,h,hm⟩;have:=ha.mkr t hm;exact⟨t,y1E.2 ⟨⟨this.1,by omega⟩,.inl ⟨rfl,h⟩⟩,yK.2 hm⟩
/-! The matrix. -/
def apA(B:List Bool)(x y:Nat):Bool:=B.getD (0+x*8+y*1) false
theorem ycX{B:List Bool}(hB:B.length=64){x y:Nat}(hx:x<8)(hy:y<8):B[0+x*8+y*1]? =some (apA B x y):=by
 unfold apA;rw [yGd,yGe (by omega)];rfl
theorem ycY{B:List Bool}(hB:B.length=64){x y x' y':Nat}(hx:x<8)(hy:y<8)(hx':x'<8)(hy':y'<8)(v:Bool):apA (B.set (0+x*8+y*1) v) x' y'=if x'=x∧y'=y then v else apA B x' y':=by
 unfold apA;rw [yGd,yGd,List.getElem?_set];by_cases e:x'=x∧y'=y
 ·obtain ⟨rfl,rfl⟩:=e;rw [iP rfl,iP (by omega),iP ⟨rfl,rfl⟩];rfl
 ·rw [iN (by omega),iN e]
theorem ybu{B:List Bool}(hB:B.length=64){x y:Nat}(hx:x<8)(hy:y<8)(v:Bool):updN B (0+x*8+y*1) v=some (B.set (0+x*8+y*1) v):=by
 unfold updN;rw [iP (by omega)]
theorem rng8{x:Nat}(h:x<8):rng (x:Int) 8=some ():=yaT h
structure ApI (a:NdT) (n:Nat) (B:List Bool):Prop where
 len:B.length=64
 sym:∀x y,x<n→y<n→apA B x y=apA B y x
 no:∀x y,x<n→y<n→apA B x y=true→¬ObsE (ltsN a) n (x:Int) (y:Int)
 mk':∀x y,x<n→y<n→apA B x y=false→(mksB a (x:Int)=mksB a (y:Int))
def apS(a:NdT)(B:List Bool)(x y:Nat):Prop:=∀e∈(-1:Int)::a.1,∀s∈wkL a e (x:Int),∃t∈wkL a e (y:Int),apA B s.toNat t.toNat=false
section
variable{a:NdT}{n:Nat}(ha:NdOk a)(hn:a.2.1=(n:Int))(h8:n≤8)
include ha hn h8
omit ha in
theorem ycZ{B:List Bool}(hB:B.length=64){e s:Int}{y:Nat}(hs:0≤s∧s<(n:Int)):y2w (wkL a e (y:Int)) B s=some (!((wkL a e (y:Int)).any fun t=>!apA B s.toNat t.toNat)):=by
 have hwl:=y5j a.2.1.toNat fun t=>(ltsN a).wk e (y:Int) t;have hwl:(wkL a e (y:Int)).length≤a.2.1.toNat:=hwl;rw [y2w,ybt (g:=fun t=>!apA B s.toNat t.toNat) (by omega) (fun t ht=>by
  have:=(y1E.1 ht).1;unfold Vn at this;rw [y3d,show s=((s.toNat:Nat):Int) by omega,show t=((t.toNat:Nat):Int) by omega,rng8 (by omega),yOb,rng8 (by omega),yOb];rw [yTn,yTn,ycX hB (by omega) (by omega)];rfl),yOb]
theorem ygX(hal:a.1.length≤1000000){x y:Nat}(hx:x<n)(hy:y<n){g:Bool}{B:List Bool}(hI:ApI a n B)(s1:Bool×List Bool)(hf:apA B x y=false):
  ∃o,iter (y1o a ((-1)::a.1) ((x:Int),s1) ((y:Int),g,B)) 0=some o∧((o=(g,B)∧apS a B x y)∨(∃B',o=(true,B')∧ApI a n B'∧B.count true<B'.count true)):=by
 have hV:=ha.vn;rw [show a.2.1.toNat=n by omega] at hV;refine yf (f:=y1o a ((-1)::a.1) ((x:Int),s1) ((y:Int),g,B)) (fun j st=>st=(j:Int)∧∀e∈((-1:Int)::a.1).take j,∀s∈wkL a e (x:Int),∃t∈wkL a e (y:Int),apA B s.toNat t.toNat=false) _ ((-1:Int)::a.1).length 0 (by rw [yLc];omega) (fun j st hj ⟨e1,e2⟩=>by
   subst e1;have he:((-1:Int)::a.1)[j]= -1∨((-1:Int)::a.1)[j]∈a.1:=yMo.1 (yGm hj);have hnat:((-1:Int)::a.1).length≤1000001:=by rw [yLc];omega
   rw [yTs hj];generalize hee:((-1:Int)::a.1)[j]=e at he;have hwl:=y5j a.2.1.toNat fun t=>(ltsN a).wk e (x:Int) t;have hwl:(wkL a e (x:Int)).length≤a.2.1.toNat:=hwl;unfold y1o;rw [iP (ct_lt hj),yj hj,hee,yOb];dsimp only;rw [y9h ha (by omega) he,yOb,y9h ha (by omega) he,yOb,ybt (g:=fun s=>!((wkL a e (y:Int)).any fun t=>!apA B s.toNat t.toNat)) (by omega) (fun s hs=>by
    have:=(y1E.1 hs).1;unfold Vn at this;exact ycZ hn h8 hI.len (by omega)),yOb]
   cases hb:(wkL a e (x:Int)).any fun s=>!((wkL a e (y:Int)).any fun t=>!apA B s.toNat t.toNat) with
   | false=>
    left;refine⟨_,by rw [iN (by simp),nxt (by omega)],rfl,fun e' he'=>?_⟩;rcases yMa.1 he' with he'|he'
    ·exact e2 e' he'
    ·rw [yMs.1 he'];intro s hs;have:=List.any_eq_false.1 hb s hs;simp only [Bool.not_eq_true',Bool.not_eq_false,Bool.not_not,List.any_eq_true] at this;obtain⟨t,ht,h⟩:=this;exact⟨t,ht,by simpa using h⟩
   | true=>
    right;obtain⟨s,hs,h⟩:=List.any_eq_true.1 hb;have hno:∀t∈wkL a e (y:Int),apA B s.toNat t.toNat=true:=fun t ht=>by
     simp only [Bool.not_eq_true'] at h;have:=List.any_eq_false.1 h t ht;simpa using this
    have hsv:=(y1E.1 hs).1;unfold Vn at hsv;have hlab:(ltsN a).lab e:=he;have hnot:¬ObsE (ltsN a) n (x:Int) (y:Int):=fun⟨P,hP,hxy⟩=>by
     obtain⟨t,ht,hst⟩:=hP.w _ _ ⟨by omega,by omega⟩ ⟨by omega,by omega⟩ hxy e hlab s (y1E.1 hs).2;have htv:=hV.wk (s:=(y:Int)) ⟨by omega,by omega⟩ ht;have h1:=hno t (y1E.2 ⟨by rw [show a.2.1.toNat=n by omega];exact htv,ht⟩);have htv':=htv;unfold Vn at htv';refine hI.no s.toNat t.toNat (by omega) (by omega) h1 ⟨P,hP,?_⟩;rwa [show ((s.toNat:Nat):Int)=s by omega,show((t.toNat:Nat):Int)=t by omega]
    have hB1:(B.set (0+x*8+y*1) true).length=64:=by rw [List.length_set];exact hI.len
    have hat:∀x' y',x'<n→y'<n→apA ((B.set (0+x*8+y*1) true).set (0+y*8+x*1) true) x' y'=if(x'=y∧y'=x)∨(x'=x∧y'=y) then true else apA B x' y':=fun x' y' hx' hy'=>by
     rw [ycY hB1 (by omega) (by omega) (by omega) (by omega),ycY hI.len (by omega) (by omega) (by omega) (by omega)];by_cases h1:x'=y∧y'=x <;> by_cases h2:x'=x∧y'=y <;> simp [h1,h2]
    refine⟨(true,(B.set (0+x*8+y*1) true).set (0+y*8+x*1) true),?_,.inr ⟨_,rfl,⟨by rw [List.length_set];exact hB1,fun x' y' hx' hy'=>?_,fun x' y' hx' hy' h=>?_,fun x' y' hx' hy' h=>?_⟩,?_⟩⟩
    ·rw [iP rfl,rng8 (by omega),yOb,rng8 (by omega),yOb,yTn,yTn,ybu hI.len (by omega) (by omega),yOb,yOb,yOb,ybu hB1 (by omega) (by omega),yOb]
    ·rw [hat _ _ hx' hy',hat _ _ hy' hx',hI.sym x' y' hx' hy'];by_cases h1:x'=y∧y'=x <;> by_cases h2:x'=x∧y'=y <;> by_cases h3:y'=y∧x'=x <;> by_cases h4:y'=x∧x'=y <;> simp [h1,h2,h3,h4] <;> omega
    ·rw [hat _ _ hx' hy'] at h;split at h
     ·rename_i h5;rcases h5 with ⟨rfl,rfl⟩|⟨rfl,rfl⟩
      ·exact fun g=>hnot (y5S ⟨by omega,by omega⟩ ⟨by omega,by omega⟩ g)
      ·exact hnot
     ·exact hI.no x' y' hx' hy' h
    ·rw [hat _ _ hx' hy'] at h;split at h
     ·cases h
     ·exact hI.mk' x' y' hx' hy' h
    ·have hc:=yaV (B:=B) (B':=(B.set (0+x*8+y*1) true).set (0+y*8+x*1) true) (by simp) (fun i hi=>by
      rw [List.getElem?_set,List.getElem?_set];have:=(yGs.1 hi).1;split
      ·rw [List.length_set,iP (by omega)]
      ·split
       ·rw [iP (by omega)]
       ·exact hi)
     have hne:B≠(B.set (0+x*8+y*1) true).set (0+y*8+x*1) true:=fun e=>by
      have:=hat x y hx hy;rw [←e,hf] at this;simp at this
     rcases Nat.lt_or_ge (B.count true) (((B.set (0+x*8+y*1) true).set (0+y*8+x*1) true).count true) with h|h
     ·exact h
     ·exact absurd (hc.2 (by have:=hc.1;omega)) hne)
  (fun st ⟨e1,e2⟩=>by
   subst e1;rw [List.take_length] at e2;refine⟨(g,B),?_,.inl ⟨rfl,e2⟩⟩;unfold y1o;rw [iN ct_ge]) (yZl _) 0 ⟨rfl,fun e he=>by simp at he⟩
end
structure PsI (a:NdT) (n:Nat) (B0:List Bool) (g:Bool) (B:List Bool) (vis:Nat→Nat→Prop):Prop where
 ok:ApI a n B
 up:g=true→B0.count true<B.count true
 st:g=false→B=B0∧∀x y,x<n→y<n→vis x y→apA B x y=false→apS a B x y
section
variable{a:NdT}{n:Nat}(ha:NdOk a)(hn:a.2.1=(n:Int))(h8:n≤8)(hal:a.1.length≤1000000)
include ha hn h8
include hal in
theorem ygY{B0:List Bool}{x:Nat}(hx:x<n){g:Bool}{B:List Bool}{vis:Nat→Nat→Prop}(hI:PsI a n B0 g B vis)(s1:Bool×List Bool):
  ∃o,iter (y1p a ((-1)::a.1) ((x:Int),s1)) (0,g,B)=some o∧PsI a n B0 o.1 o.2 fun x' y'=>vis x' y'∨x'=x:=by
 obtain⟨o,ho,he⟩:=yf (f:=y1p a ((-1)::a.1) ((x:Int),s1)) (fun j st=>st.1=(j:Int)∧PsI a n B0 st.2.1 st.2.2 fun x' y'=>vis x' y'∨(x'=x∧y'<j)) (fun o=>PsI a n B0 o.1 o.2 fun x' y'=>vis x' y'∨x'=x) n 0 (by omega) (fun j st hj ⟨e1,hP⟩=>by
   obtain⟨k,g,B⟩:=st;dsimp only at e1 hP;subst e1;left;have hlen:=hP.ok.len;unfold y1p;dsimp only;rw [hn,iP (ct_lt hj),rng8 (by omega),yOb,rng8 (by omega),yOb,yTn,yTn,ycX hlen (by omega) (by omega),yOb];cases hf:apA B x j with
   | true=>
    refine⟨(((j+1:Nat):Int),g,B),?_,rfl,hP.ok,hP.up,fun hg=>⟨(hP.st hg).1,fun x' y' hx' hy' hv h=>?_⟩⟩
    ·rw [iP rfl,y1n,nxt (by omega)]
    ·by_cases e:x'=x∧y'=j
     ·rw [e.1,e.2,hf] at h;cases h
     ·refine (hP.st hg).2 x' y' hx' hy' ?_ h;rcases hv with hv|⟨hv,hlt⟩
      ·exact .inl hv
      ·exact .inr ⟨hv,by omega⟩
   | false=>
    obtain⟨o,h1,h2⟩:=ygX ha hn h8 hal hx hj (g:=g) hP.ok s1 hf;refine⟨(((j+1:Nat):Int),o),?_,rfl,?_⟩
    ·rw [iN (by simp),h1,yOb,y1n,nxt (by omega)]
    ·rcases h2 with ⟨rfl,hS⟩|⟨B',rfl,h3,h4⟩
     ·refine ⟨hP.ok,hP.up,fun hg=>⟨(hP.st hg).1,fun x' y' hx' hy' hv h=>?_⟩⟩;by_cases e:x'=x∧y'=j
      ·rw [e.1,e.2];exact hS
      ·refine (hP.st hg).2 x' y' hx' hy' ?_ h;rcases hv with hv|⟨hv,hlt⟩
       ·exact .inl hv
       ·exact .inr ⟨hv,by omega⟩
     ·refine ⟨h3,fun _=>?_,fun h=>by cases h⟩;dsimp only;cases g with
      | true=>have:=hP.up rfl;omega
      | false=>rw [←(hP.st rfl).1];exact h4)
  (fun st ⟨e1,hP⟩=>by
   obtain⟨k,g,B⟩:=st;dsimp only at e1 hP;subst e1;refine⟨(g,B),?_,hP.ok,hP.up,fun hg=>⟨(hP.st hg).1,fun x' y' hx' hy' hv h=>(hP.st hg).2 x' y' hx' hy' (hv.imp id fun e=>⟨e,hy'⟩) h⟩⟩;unfold y1p;dsimp only;rw [hn,iN ct_ge]) (yZl _) (0,g,B) ⟨rfl,hI.ok,hI.up,fun hg=>⟨(hI.st hg).1,fun x' y' hx' hy' hv h=>(hI.st hg).2 x' y' hx' hy' (hv.resolve_right fun e=>absurd e.2 (Nat.not_lt_zero _)) h⟩⟩
 exact⟨o,ho,he⟩
include hal in
theorem ygZ{B0:List Bool}(hI:ApI a n B0):∃o,iter (y1q a ((-1)::a.1)) (0,false,B0)=some o∧PsI a n B0 o.1 o.2 fun _ _=>True:=by
 obtain⟨o,ho,he⟩:=yf (f:=y1q a ((-1)::a.1)) (fun j st=>st.1=(j:Int)∧PsI a n B0 st.2.1 st.2.2 fun x' _=>x'<j) (fun o=>PsI a n B0 o.1 o.2 fun _ _=>True) n 0 (by omega) (fun j st hj ⟨e1,hP⟩=>by
   obtain⟨k,g,B⟩:=st;dsimp only at e1 hP;subst e1;left;obtain⟨o,h1,h2⟩:=ygY ha hn h8 hal hj hP (g,B);refine⟨(((j+1:Nat):Int),o),?_,rfl,h2.ok,h2.up,fun hg=>⟨(h2.st hg).1,fun x' y' hx' hy' hv h=>(h2.st hg).2 x' y' hx' hy' (by
    rcases Nat.lt_or_ge x' j with h|h
    ·exact .inl h
    ·exact .inr (by omega)) h⟩⟩
   unfold y1q;dsimp only;rw [hn,iP (ct_lt hj),h1,yOb,nxt (by omega)])
  (fun st ⟨e1,hP⟩=>by
   obtain⟨k,g,B⟩:=st;dsimp only at e1 hP;subst e1;refine⟨(g,B),?_,hP.ok,hP.up,fun hg=>⟨(hP.st hg).1,fun x' y' hx' hy' _ h=>(hP.st hg).2 x' y' hx' hy' hx' h⟩⟩;unfold y1q;dsimp only;rw [hn,iN ct_ge]) (yZl _) (0,false,B0) ⟨rfl,hI,(fun h=>by cases h),fun _=>⟨rfl,fun x' y' _ _ hv=>absurd hv (Nat.not_lt_zero _)⟩⟩
 exact⟨o,ho,he⟩
include hal in
theorem yh0{B0:List Bool}(hI:ApI a n B0):∃B,iter (y1r a ((-1)::a.1)) (true,B0)=some B∧ApI a n B∧∀x y,x<n→y<n→apA B x y=false→apS a B x y:=by
 obtain⟨o,ho,he⟩:=yf (f:=y1r a ((-1)::a.1)) (fun j st=>ApI a n st.2∧((st.1=true∧j≤st.2.count true)∨(st.1=false∧j≤st.2.count true+1∧∀x y,x<n→y<n→apA st.2 x y=false→apS a st.2 x y))) (fun B=>ApI a n B∧∀x y,x<n→y<n→apA B x y=false→apS a B x y) 66 0 (by omega) (fun j st hj ⟨h1,h2⟩=>by
   obtain⟨g,B⟩:=st;dsimp only at h1 h2;unfold y1r;dsimp only;rcases h2 with ⟨rfl,h2⟩|⟨rfl,h2,h3⟩
   ·left;obtain⟨o,k1,k2⟩:=ygZ ha hn h8 hal h1;obtain⟨g,B'⟩:=o;dsimp only at k2;refine⟨(g,B'),by rw [iP rfl,k1,yOb],k2.ok,?_⟩;cases g with
    | true=>have:=k2.up rfl;exact .inl ⟨rfl,by dsimp only;omega⟩
    | false=>
     obtain⟨e,k3⟩:=k2.st rfl;exact .inr ⟨rfl,by dsimp only;rw [e];omega,fun x y hx hy=>k3 x y hx hy trivial⟩
   ·exact .inr ⟨B,by rw [iN (by simp)],h1,h3⟩)
  (fun st ⟨h1,h2⟩=>by
   have:st.2.count true≤st.2.length:=List.count_le_length;have:=h1.len;omega) (by omega) (true,B0) ⟨hI,.inl ⟨rfl,yZl _⟩⟩
 exact⟨o,ho,he⟩
theorem yh1{B:List Bool}(hI:ApI a n B)(hS:∀x y,x<n→y<n→apA B x y=false→apS a B x y){x y:Nat}(hx:x<n)(hy:y<n):apA B x y=false↔ObsE (ltsN a) n (x:Int) (y:Int):=by
 have hV:=ha.vn;have hnn:a.2.1.toNat=n:=by omega
 rw [hnn] at hV;constructor
 ·intro h;have hmk:∀s,mksB a s=true↔(ltsN a).mks s:=fun s=>by unfold mksB;rw [@decide_eq_true_iff _ (Classical.propDecidable _)]
  refine⟨fun s t=>apA B s.toNat t.toNat=false,⟨fun s t hs ht g=>?_,fun s t hs ht g hm=>?_,fun s t hs ht g e he s' hw=>?_⟩,h⟩
  ·unfold Vn at hs ht;rw [hI.sym _ _ (by omega) (by omega)];exact g
  ·unfold Vn at hs ht;have:=hI.mk' s.toNat t.toNat (by omega) (by omega) g;rw [show ((s.toNat:Nat):Int)=s by omega,show((t.toNat:Nat):Int)=t by omega] at this;exact(hmk t).1 (by rw [←this];exact(hmk s).2 hm)
  ·have hs':=hV.wk hs hw;unfold Vn at hs ht;have hmem:e∈(-1:Int)::a.1:=yMo.2 he;obtain⟨t',h1,h2⟩:=hS s.toNat t.toNat (by omega) (by omega) g e hmem s' (by
    rw [show ((s.toNat:Nat):Int)=s by omega];exact y1E.2 ⟨by rw [hnn];exact hs',hw⟩)
   rw [show ((t.toNat:Nat):Int)=t by omega] at h1;exact⟨t',(y1E.1 h1).2,h2⟩
 ·intro h;cases hb:apA B x y with
  | false=>rfl
  | true=>exact absurd h (hI.no x y hx hy hb)
theorem yh2{x:Nat}(hx:x<n){B:List Bool}(hB:B.length=64)(s1:List Bool):∃B',iter (y1s a ((x:Int),s1)) (0,B)=some B'∧B'.length=64∧∀x' y',x'<n→y'<n→apA B' x' y'=if x'=x then(mksB a (x:Int) != mksB a (y':Int)) else apA B x' y':=by
 obtain⟨o,ho,h1,h2⟩:=yf (f:=y1s a ((x:Int),s1)) (fun j st=>st.1=(j:Int)∧st.2.length=64∧∀x' y',x'<n→y'<n→apA st.2 x' y'=if x'=x∧y'<j then(mksB a (x:Int) != mksB a (y':Int)) else apA B x' y') (fun o=>o.length=64∧∀x' y',x'<n→y'<n→apA o x' y'=if x'=x then(mksB a (x:Int) != mksB a (y':Int)) else apA B x' y') n 0 (by omega) (fun j st hj ⟨e1,e2,e3⟩=>by
   obtain⟨k,C⟩:=st;dsimp only at e1 e2 e3;subst e1;left;refine⟨(((j+1:Nat):Int),C.set (0+x*8+j*1) (mksB a (x:Int) != mksB a (j:Int))),?_,rfl,by dsimp only;rw [List.length_set];exact e2,fun x' y' hx' hy'=>?_⟩
   ·unfold y1s;dsimp only;rw [hn,iP (ct_lt hj),ydN ha (by omega),yOb,ydN ha (by omega),yOb,rng8 (by omega),yOb,rng8 (by omega),yOb,yTn,yTn,ybu e2 (by omega) (by omega),yOb,nxt (by omega)]
   ·dsimp only;rw [ycY e2 (by omega) (by omega) (by omega) (by omega),e3 x' y' hx' hy'];by_cases h1:x'=x
    ·by_cases h2:y'=j
     ·simp [h1,h2]
     ·by_cases h3:y'<j
      ·simp [h1,h2,h3,show y'<j+1 by omega]
      ·simp [h1,h2,h3,show ¬y'<j+1 by omega]
    ·simp [h1])
  (fun st ⟨e1,e2,e3⟩=>by
   obtain⟨k,C⟩:=st;dsimp only at e1 e2 e3;subst e1;refine⟨C,?_,e2,fun x' y' hx' hy'=>?_⟩
   ·unfold y1s;dsimp only;rw [hn,iN ct_ge]
   ·rw [e3 x' y' hx' hy'];simp [hy']) (yZl _) (0,B) ⟨rfl,hB,fun x' y' _ _=>by simp⟩
 exact⟨o,ho,h1,h2⟩
theorem yh3 :∃B,iter (y1t a) (0,List.replicate 64 false)=some B∧ApI a n B:=by
 obtain⟨o,ho,h1,h2⟩:=yf (f:=y1t a) (fun j st=>st.1=(j:Int)∧st.2.length=64∧∀x' y',x'<j→x'<n→y'<n→apA st.2 x' y'=(mksB a (x':Int) != mksB a (y':Int))) (fun o=>o.length=64∧∀x' y',x'<n→y'<n→apA o x' y'=(mksB a (x':Int) != mksB a (y':Int))) n 0 (by omega) (fun j st hj ⟨e1,e2,e3⟩=>by
   obtain⟨k,C⟩:=st;dsimp only at e1 e2 e3;subst e1;left;obtain⟨B',k1,k2,k3⟩:=yh2 ha hn h8 hj e2 C;refine⟨(((j+1:Nat):Int),B'),?_,rfl,k2,fun x' y' h hx' hy'=>?_⟩
   ·unfold y1t;dsimp only;rw [hn,iP (ct_lt hj),k1,yOb,nxt (by omega)]
   ·dsimp only;rw [k3 x' y' hx' hy'];split
    ·rename_i e;rw [e]
    ·exact e3 x' y' (by omega) hx' hy')
  (fun st ⟨e1,e2,e3⟩=>by
   obtain⟨k,C⟩:=st;dsimp only at e1 e2 e3;subst e1;refine⟨C,?_,e2,fun x' y' hx' hy'=>e3 x' y' hx' hx' hy'⟩;unfold y1t;dsimp only;rw [hn,iN ct_ge]) (yZl _) (0,List.replicate 64 false) ⟨rfl,List.length_replicate ..,fun x' y' h=>absurd h (Nat.not_lt_zero _)⟩
 have hmk:∀s,mksB a s=true↔(ltsN a).mks s:=fun s=>by unfold mksB;rw [@decide_eq_true_iff _ (Classical.propDecidable _)]
 refine⟨o,ho,h1,fun x y hx hy=>?_,fun x y hx hy h g=>?_,fun x y hx hy h=>?_⟩
 ·rw [h2 x y hx hy,h2 y x hy hx];cases mksB a (x:Int) <;> cases mksB a (y:Int) <;> rfl
 ·rw [h2 x y hx hy] at h;have hE:=y9U (ltsN a) n;have hxv:Vn n (x:Int):=⟨by omega,by omega⟩;have hyv:Vn n (y:Int):=⟨by omega,by omega⟩;have h3:mksB a (x:Int)=mksB a (y:Int):=by
   rw [Bool.eq_iff_iff,hmk,hmk];exact⟨hE.m _ _ hxv hyv g,hE.m _ _ hyv hxv (hE.sy _ _ hxv hyv g)⟩
  rw [h3] at h;simp at h
 ·rw [h2 x y hx hy] at h;simpa using h
end
theorem ydO{α:Type}{o r:List α}{u v:α}:(o++u::r).set o.length v=o++v::r:=by
 rw [List.set_append_right _ _ (yNr _),Nat.sub_self];rfl
section
variable{a:NdT}{n:Nat}(ha:NdOk a)(hn:a.2.1=(n:Int))(h8:n≤8){B:List Bool}(hB:B.length=64)
include h8 hB
theorem yh4{x:Nat}(hx:x<n){k:Int}{o:LI}(ho:o.length=x)(s1:LI)(r:LI):
  ∃v,iter (y1l B ((x:Int),k,s1) (o++k::r)) 0=some (o++v::r)∧((v=k∧∀y,y<x→apA B x y=true)∨∃y,y<x∧apA B x y=false∧o[y]? =some v):=by
 obtain⟨z,hz,v,rfl,hv⟩:=yf (f:=y1l B ((x:Int),k,s1) (o++k::r)) (fun j st=>st=(j:Int)∧∀y,y<j→apA B x y=true) (fun z=>∃v,z=o++v::r∧((v=k∧∀y,y<x→apA B x y=true)∨∃y,y<x∧apA B x y=false∧o[y]? =some v)) x 0 (by omega) (fun j st hj ⟨e1,e2⟩=>by
   subst e1;unfold y1l;dsimp only;rw [iP (by simp;omega),rng8 (by omega),yOb,rng8 (by omega),yOb,yTn,yTn,ycX hB (by omega) (by omega),yOb];cases hf:apA B x j with
   | true=>
    left;refine⟨_,by rw [iN (by simp),nxt (by omega)],rfl,fun y hy=>?_⟩;by_cases e:y=j
    ·rw [e];exact hf
    ·exact e2 y (by omega)
   | false=>
    right;have hjo:j<o.length:=by omega
    have hg:(o++k::r)[j]? =some o[j]:=by rw [yAl hjo,yGe hjo]
    have hg2:(o++k::r)[x]? =some k:=by rw [yAr (by omega),ho,Nat.sub_self];rfl
    refine⟨o++o[j]::r,?_,_,rfl,.inr ⟨j,hj,hf,yGe hjo⟩⟩;rw [iP (by simp),idx_get? hg,yOb,idx_get? hg2,yOb,y8C (by rw [yLa,yLc];omega),yOb];have:=ydO (o:=o) (r:=r) (u:=k) (v:=o[j]);rw [ho] at this;rw [this])
  (fun st ⟨e1,e2⟩=>by
   subst e1;refine⟨o++k::r,?_,k,rfl,.inl ⟨rfl,e2⟩⟩;unfold y1l;dsimp only;rw [iN (by simp)]) (yZl _) 0 ⟨rfl,fun y hy=>absurd hy (Nat.not_lt_zero _)⟩
 exact⟨v,hz,hv⟩
include ha hn
theorem yh5(hE:∀x y:Nat,x<n→y<n→(apA B x y=false↔ObsE (ltsN a) n (x:Int) (y:Int))):∃c k,iter (y1m a B) (0,0,List.replicate n (0:Int))=some c∧LcI (ltsN a) n n c k:=by
 have hV:=ha.vn;rw [show a.2.1.toNat=n by omega] at hV;obtain⟨c,hc,k,hk⟩:=yf (f:=y1m a B) (fun j st=>st.1=(j:Int)∧∃o,st.2.2=o++List.replicate (n-j) (0:Int)∧LcI (ltsN a) n j o st.2.1) (fun c=>∃k,LcI (ltsN a) n n c k) n 0 (by omega) (fun j st hj ⟨e1,o,e2,hL⟩=>by
   obtain⟨i,k,out⟩:=st;dsimp only at e1 e2 hL;subst e1;have hol:=hL.len;have hkn:=hL.kn;have hrep:List.replicate (n-j) (0:Int)=0::List.replicate (n-(j+1)) 0:=by
    rw [show n-j=(n-(j+1))+1 by omega,List.replicate_succ]
   rw [hrep] at e2;have hset:=ydO (o:=o) (r:=List.replicate (n-(j+1)) (0:Int)) (u:=0) (v:=k);rw [hol,←e2] at hset;have hg:out[j]? =some 0:=by rw [e2,yAr (by omega),hol,Nat.sub_self];rfl
   have hll:out.length=n:=by rw [e2,yLa,yLc,List.length_replicate];omega
   obtain⟨v,h1,h2⟩:=yh4 h8 hB hj (k:=k) hol out (List.replicate (n-(j+1)) 0);have hgv:(o++v::List.replicate (n-(j+1)) (0:Int))[j]? =some v:=by rw [yAr (by omega),hol,Nat.sub_self];rfl
   have hcons:o++v::List.replicate (n-(j+1)) (0:Int)=(o++[v])++List.replicate (n-(j+1)) 0:=by rw [yAa];rfl
   left;unfold y1m;dsimp only;rw [hn,iP (ct_lt hj),idx_get? hg,yOb,y8C (by omega),yOb,hset,h1,yOb,idx_get? hgv,yOb];rcases h2 with ⟨rfl,h2⟩|⟨y,hy,hf,hyv⟩
   ·have hkle:v≤(n:Int):=by
     rcases Int.lt_or_le (n:Int) v with h|h
     ·obtain ⟨i,g⟩:=hL.all (n:Int) (by omega) h;have:=hL.fst.lt i _ g;have:=(yGs.1 g).1;omega
     ·exact h
    refine⟨(((j+1:Nat):Int),v+1,o++v::List.replicate (n-(j+1)) 0),?_,rfl,o++[v],hcons,hL.new hj fun i hi g=>?_⟩
    ·rw [iP (by simp),y1k,nxt (by omega),W_of (by omega) (by omega)]
    ·have h3:=h2 i hi;have hij:=y5S (n:=n) (s:=(i:Int)) (t:=(j:Int)) ⟨by omega,by omega⟩ ⟨by omega,by omega⟩ g;rw [(hE j i hj (by omega)).2 hij] at h3;cases h3
   ·have hr:=hL.rng y v hyv;refine⟨(((j+1:Nat):Int),k,o++v::List.replicate (n-(j+1)) 0),?_,rfl,o++[v],hcons,hL.old hV hj hyv (y5S ⟨by omega,by omega⟩ ⟨by omega,by omega⟩ ((hE j y hj (by omega)).1 hf))⟩;rw [iN (by simp;omega),y1k,nxt (by omega)])
  (fun st ⟨e1,o,e2,hL⟩=>by
   obtain⟨i,k,out⟩:=st;dsimp only at e1 e2 hL;subst e1;rw [Nat.sub_self,List.replicate_zero,List.append_nil] at e2;subst e2;refine⟨out,?_,k,hL⟩;unfold y1m;dsimp only;rw [hn,iN ct_ge]) (yZl _) (0,0,List.replicate n 0) ⟨rfl,[],by simp,rfl,fun i x h=>by simp at h,fun i x h=>by simp at h,fun y h0 h1=>by dsimp only at h1;omega,fun i i' x x' h=>by simp at h,Int.le_refl _⟩
 exact⟨c,k,hc,hk⟩
end
theorem ye6{a:NdT}(ha:NdOk a)(h8:a.2.1≤8):∃c,y1f a=some c∧RfOk (ltsN a) a.2.1.toNat c:=by
 have h0:=ha.n0;obtain⟨n,hn⟩:∃n:Nat,a.2.1=(n:Int):=⟨a.2.1.toNat,by omega⟩;have hnn:a.2.1.toNat=n:=by omega
 have hV:=ha.vn;rw [hnn] at hV ⊢;have hla:=ha.la;obtain⟨B0,h1,hI⟩:=yh3 ha hn (by omega);obtain⟨B,h2,hI2,hS⟩:=yh0 ha hn (by omega) hla hI;obtain⟨c,k,h3,hL⟩:=yh5 ha hn (by omega) hI2.len fun x y hx hy=>yh1 ha hn (by omega) hI2 hS hx hy;refine⟨c,?_,hL.ok hV⟩;have hm:mkL a.2.1 (0:Int)=some (List.replicate n 0):=by unfold mkL;rw [hn,iP (by omega)];rfl
 rw [y1f,y2G (by simp;omega),yOb,h1,yOb];show(iter (y1r a ((-1)::a.1)) (true,B0)).bind _=_;rw [h2,yOb,hm,yOb,h3,yOb]
theorem beqE(x y:E3):(x.1==y.1&&(x.2.1==y.2.1&&(x.2.2==y.2.2&&true)))=decide (x=y):=by
 rw [Bool.eq_iff_iff];simp only [yAe,beq_iff_eq,and_true,decide_eq_true_iff];constructor
 ·rintro ⟨h1,h2,h3⟩;exact Prod.ext h1 (Prod.ext h2 h3)
 ·rintro rfl;exact⟨rfl,rfl,rfl⟩
theorem yda{xs:List E3}(hl:xs.length≤4294967296):y2s xs=some (dd xs):=by
 rw [←cp_eq ((0:Int),(0:Int),(0:Int)) hl];have h2:∀k,y3E k=cpL2 k:=fun k=>funext fun st=>by
  unfold y3E cpL2 y2C;simp only [beqE,Bool.not_eq_true',decide_eq_false_iff_not,ne_eq]
 have h1:y3F xs=cpL1 ((0:Int),(0:Int),(0:Int)) xs:=funext fun st=>by
  unfold y3F cpL1;simp only [h2,beqE,decide_eq_true_iff]
 unfold y2s cpL;rw [h1];split
 ·rfl
 ·congr 1;funext o;cases o <;> rfl
theorem cmpL3(x y:E3):∃z,y1u x y=some z∧(z<0↔ltE3 x y):=by
 refine⟨cmpG [x.1,x.2.1,x.2.2] [y.1,y.2.1,y.2.2],by rw [y1u,ygl (by simp) (by simp)];rfl,?_⟩;unfold ltE3;simp only [cmpG];by_cases h1:x.1<y.1 <;> by_cases h2:x.1>y.1 <;> by_cases h3:x.2.1<y.2.1 <;> by_cases h4:x.2.1>y.2.1 <;> by_cases h5:x.2.2<y.2.2 <;> by_cases h6:x.2.2>y.2.2 <;> simp [h1,h2,h3,h4,h5,h6] <;> omega
theorem yf7{c set:LI}(hs:∀s∈set,0≤s∧s<(c.length:Int))(hl:set.length≤1000000):yl c set=some (clsS c set):=by
 have h:=y9H (xs:=set) (y1S set c) (cF c) [] (by rw [List.length_nil];omega) (fun j hj o=>by
  unfold y1S;simp only [ct_lt hj,if_true,yj hj,yOb];rw [idxF (hs _ (yGm hj)),yOb]) (fun o=>by
  unfold y1S;simp)
 rw [List.nil_append] at h;rw [yl,h,yOb,ybQ (by rw [yLm];simp;omega),yOb,List.append_nil];rfl
section
variable{a:NdT}{n:Nat}{c:LI}(ha:NdOk a)(hn:a.2.1=(n:Int))(hcl:c.length=n)(hHu:Hund c)
include ha hn hcl
include hHu in
theorem ygw :iter (y1e c) (0,0)=some (topL c):=by
 have hn1:=ha.n1;obtain⟨o,ho,he⟩:=yf (f:=y1e c) (fun j st=>st=((j:Int),topL (c.take j))) (fun o=>o=topL c) c.length 0 (by omega) (fun j st hj e1=>by
   subst e1;refine .inl ⟨_,?_,rfl⟩;have hx:=hHu _ (yGm hj);unfold y1e;simp only [ct_lt hj,if_true,yj hj,yOb];rw [nxt (by omega),W_of (by omega) (by omega),yTs hj,yc3];congr 3;split <;> omega)
  (fun st e1=>by
   subst e1;refine⟨_,?_,rfl⟩;rw [List.take_length];unfold y1e;simp) (by omega) (0,0) rfl
 rw [ho,he]
theorem ygx :iter (y1d a c) (0,([]:List E3))=some ((a.2.2.2.2.map (clsE c)).filter qualE):=by
 have hle:=ha.le;obtain⟨o,ho,he⟩:=yf (f:=y1d a c) (fun j st=>st=((j:Int),((a.2.2.2.2.take j).map (clsE c)).filter qualE)) (fun o=>o=(a.2.2.2.2.map (clsE c)).filter qualE) a.2.2.2.2.length 0 (by omega) (fun j st hj e1=>by
   subst e1;refine .inl ⟨_,?_,rfl⟩;have hx:=ha.esr _ (yGm hj);have h3:=List.length_filter_le qualE ((a.2.2.2.2.take j).map (clsE c));rw [yLm,yLt,Nat.min_eq_left (by omega)] at h3;rw [yTs hj,List.map_append,List.map_singleton,List.filter_append,List.filter_cons,List.filter_nil];generalize ((a.2.2.2.2.take j).map (clsE c)).filter qualE=S at h3 ⊢;unfold y1d;simp only [ct_lt hj,if_true,yj hj,yOb];rw [idxF (by omega),yOb,idxF (by omega),yOb];have hz:(cF c a.2.2.2.2[j].1,a.2.2.2.2[j].2.1,cF c a.2.2.2.2[j].2.2)=clsE c a.2.2.2.2[j]:=rfl;have hk:((a.2.2.2.2[j].2.1 != (-1))||(cF c a.2.2.2.2[j].1 != cF c a.2.2.2.2[j].2.2))=qualE (clsE c a.2.2.2.2[j]):=rfl;rw [hz,hk];cases hb:qualE (clsE c a.2.2.2.2[j]) with
   | false=>
    rw [iN (by simp),iN (by simp),y1c,List.append_nil];simp only [nxt (show j<4611686018427387904 by omega)]
   | true=>
    rw [iP rfl,iP rfl,y2G (by simp;omega),yOb,y1c];simp only [nxt (show j<4611686018427387904 by omega)])
  (fun st e1=>by
   subst e1;refine⟨_,?_,rfl⟩;rw [List.take_length];unfold y1d;simp) (by omega) (0,[]) rfl
 rw [ho,he]
end
theorem ygy{a:NdT}(ha:NdOk a)(h8:a.2.1≤8){c:LI}(h1:y1f a=some c)(hc:RfOk (ltsN a) a.2.1.toNat c):y2E a=some (absN a c):=by
 have h0:=ha.n0;have hcl:=hc.len;have hH:=hc.toRfI.hund (by omega);have hn:a.2.1=(a.2.1.toNat:Int):=by omega
 have hle:=ha.le;have hol:=List.length_filter_le qualE (a.2.2.2.2.map (clsE c));rw [yLm] at hol;have hsl:=(y3q (ltf y1u) ((a.2.2.2.2.map (clsE c)).filter qualE)).length_eq;rw [y2E,h1,yOb,yf7 (fun s hs=>by have:=ha.inr s hs;omega) ha.li,yOb,yf7 (fun s hs=>by have:=ha.mkr s hs;omega) ha.lm,yOb,ygw ha hn hcl hH,yOb,ygx ha hn hcl,yOb,ycV cmpL3 (by omega),yOb,yda (by omega),yOb];unfold absN;congr 5;refine yc2 (lt:=ltE3) (fun x y h=>by unfold ltE3 at *;omega) (y9J (fun _ _=>yay) (ydL cmpL3 _)) (ydM a c) fun z=>?_;rw [yaQ,(y3q _ _).mem_iff,yaz,List.mem_filter,yMp];constructor
 ·rintro ⟨⟨y,h1,h2⟩,h3⟩;exact⟨y,h1,h2,h3⟩
 ·rintro ⟨y,h1,h2,h3⟩;exact⟨⟨y,h1,h2⟩,h3⟩
theorem yc8{d:Int×Int×Int×Int×List E3}(hd:DrOk d):y1T d=some true:=by
 obtain⟨a,ma,ha,na,la⟩:=ygo hd;obtain⟨c,h1,h2,hx,hA⟩:=yd9 ha (by omega) (by omega);obtain⟨c',h3,hc'⟩:=ye6 ha (by omega);have e:c'=c:=hc'.unique hA.cl;subst e;have hl:=hc'.len;have h0:=ha.n0;have hl2:c'.length≤4294967296:=by omega
 rw [y1T,ygp,yOb,iN (by simp),ma,yOb,h1,yOb,h2,yOb,iP (by simp),iP (by simp),h3,yOb,y9d hl2,yOb,iP rfl,ygy ha (by omega) h3 hc',yOb,yeS hx,yOb];rfl
end
section
open Go.Proofs.Tryz Go Go.RowKit Go.ChangeShapes Go.WideShapes Go.Deep
def Op(P:Program){α:Type}(r:Rep α)(Q:α→Prop)(t:TypeId):Prop:=
 ∀(H:Type) (enc:TypeId×Value→H) (w:World) (fuel:Nat) (cs:List Value) (x:DataW H×List MemPlace),DataW.trod enc P w 0 (fun _=>true) true fuel t cs=some x→∃y:α,r.rd ⟨w,fun _=>0⟩ cs y∧Q y
section
variable{P:Program}{α β:Type}{r:Rep α}{q:Rep β}{Q:α→Prop}{R:β→Prop}{t e:TypeId}
theorem Op.int{k:IntKind}(ht:P.underlying t=some (.int k)):Op P (rK k) (fun n=>k.min≤n∧n≤k.max) t:=by
 intro H enc w fuel cs x h;obtain⟨n,h1,h2,h3⟩:=DataW.trod_int ht h;refine⟨n,h1,?_⟩;simpa [Lit.wf] using h3
theorem yfT{H:Type}{enc:TypeId×Value→H}{w:World}{base fuel:Nat}{v:Value}{x:DataW H×List MemPlace}(ht:P.underlying t=some (.slice e))(hc:P.cellsOf e=r.sz)(ho:Op P r Q e)(hok:Cell.okWide P w .any base t v)
  (h:DataW.trod enc P w 0 (fun _=>true) true fuel t [v]=some x):∃(a:Option Addr) (c:Nat) (xs:List α),v= .slice a xs.length c∧RdL r ⟨w,fun _=>0⟩ a c xs∧∀y∈xs,Q y:=by
 rcases open_slice ht h with ⟨h1,-⟩|⟨a,len,cap,m,n,D,Pl,h1,-,h3,h4,h5,-,h7⟩
 ·rw [List.cons.injEq] at h1;refine⟨none,0,[],h1.1,⟨[],⟨by simp,by simp,by simp,fun _=>rfl,fun ad e=>(by cases e),fun ad e=>(by cases e)⟩,fun ad e=>(by cases e),rfl⟩,fun y hy=>(by cases hy)⟩
 ·rw [List.cons.injEq] at h1;have hv:=h1.1;subst hv;rw [iP rfl] at h5;subst h5;have hsp:a.spot=none:=by
   simp only [Cell.okWide,ht,Cell.ok] at hok;exact hok.2.2.2.1
  have hadd:∀k,a.add k=⟨a.block,a.off+k,none⟩:=fun k=>by
   obtain⟨b,o,sp⟩:=a;dsimp only at hsp;subst hsp;unfold Addr.add;split
   ·rename_i hk;subst hk;rfl
   ·rfl
  have key:∀k,k≤len→∃(xs:List α) (cs:List Value),xs.length=k∧Cells r ⟨w,fun _=>0⟩ cs xs∧(∀y∈xs,Q y)∧∀j (hj:j<cs.length),w.cell? ⟨a.block,a.off+j,none⟩=some cs[j]:=by
   intro k
   induction k with
   | zero=>intro _;exact⟨[],[],rfl,rfl,fun y hy=>(by cases hy),fun j hj=>absurd hj (Nat.not_lt_zero _)⟩
   | succ k ih=>
    intro hk;obtain⟨xs,cs,g1,g2,g3,g4⟩:=ih (by omega);obtain⟨cs',k1,k2⟩:=h7 k (by omega);obtain⟨y,k3,k4⟩:=ho H enc w n cs' _ k2;obtain⟨-,k5,k6⟩:=World.cells?_some k1;have hl:=g2.len;rw [g1] at hl;rw [hc] at k5 k6;refine⟨xs++[y],cs++cs',by simp [g1],g2.append ⟨cs',[],by simp,k3,rfl⟩,fun z hz=>?_,fun j hj=>?_⟩
    ·rcases yMa.1 hz with hz|hz
     ·exact g3 z hz
     ·rw [yMs.1 hz];exact k4
    ·by_cases hlt:j<cs.length
     ·rw [List.getElem_append_left hlt];exact g4 j hlt
     ·have hj2:j-cs.length<cs'.length:=by rw [yLa] at hj;omega
      rw [List.getElem_append_right (by omega)];have:=k6 (j-cs.length) (by omega);rw [add_add,hadd,yGe hj2] at this;rw [←this];congr 2;omega
  obtain⟨xs,cs,g1,g2,g3,g4⟩:=key len (yNr _);subst g1;refine⟨some a,m,xs,rfl,⟨cs,⟨g2.len,h3,h4,fun e=>(by cases e),fun ad e=>(by cases e;exact hsp),fun ad e j hj=>(by cases e;exact g4 j hj)⟩,fun _ _ _=>rfl,g2⟩,g3⟩
theorem yh6{w:World}{base:Nat}{v:Value}{fs:Array Field}{ts:List TypeId}(ht:P.underlying t=some (.struct fs))(hts:P.cellTypes P.depth t=some ts)(hsz:P.cellsOf t=ts.length)(hok:Value.okWide P w .any base t v):
  ∃cs,v= .agg cs∧cs.size=ts.length∧∀(i:Nat) (u:TypeId),ts[i]? =some u→∃c:Value,cs[i]? =some c∧Cell.okWide P w .any base u c:=by
 simp only [Value.okWide,ht] at hok;obtain⟨cs,rfl,h1,ts',h2,h3,h4⟩:=hok;rw [hts] at h2;cases h2;refine⟨cs,rfl,by omega,fun i u hu=>?_⟩;have hlt:i<ts.length:=(yGs.1 hu).1;obtain⟨u',g1,g2⟩:=h4 i cs[i] (Array.getElem?_eq_getElem (by omega));rw [Nat.mod_eq_of_lt hlt,hu] at g1;cases g1;exact⟨_,Array.getElem?_eq_getElem (by omega),g2⟩
theorem yfU{H:Type}{enc:TypeId×Value→H}{w:World}{fuel:Nat}{cs:List Value}{x:DataW H×List MemPlace}{fs:Array Field}(ht:P.underlying t=some (.struct fs))(h:DataW.trod enc P w 0 (fun _=>true) true fuel t cs=some x){i:Nat}{f:Field}(hf:fs[i]? =some f):
  ∃n y,DataW.trod enc P w 0 (fun _=>true) true n f.type ((cs.drop f.offset).take (P.cellsOf f.type))=some y:=by
 obtain⟨xs,n,_,_,_,h5,h6⟩:=DataW.trod_struct ht h;have hlt:=(yAs.1 hf).1;exact⟨n,xs[i]'(by omega),by rw [h6 i f hf,yGe (by omega)]⟩
theorem yf8{H:Type}{enc:TypeId×Value→H}{w:World}{fuel:Nat}{cs:List Value}{x:DataW H×List MemPlace}{fs:Array Field}(ht:P.underlying t=some (.struct fs))(h:DataW.trod enc P w 0 (fun _=>true) true fuel t cs=some x)(i:Nat)(u:TypeId){f:Field}{o:Nat}{c:Value}(hf:fs[i]? =some f)(hu:f.type=u)(ho:f.offset=o)(hc:P.cellsOf u=1)(hat:cs[o]? =some c):
  ∃n y,DataW.trod enc P w 0 (fun _=>true) true n u [c]=some y:=by
 obtain⟨n,y,g⟩:=yfU ht h hf;subst hu;subst ho;rw [hc] at g;obtain⟨hlt,he⟩:=yGs.1 hat;rw [yDc hlt,he,List.take_succ_cons,List.take_zero] at g;exact⟨n,y,g⟩
end
end
section
open Go.Proofs.Tryz Go Go.ChangeShapes Go.WideShapes Go.ChangeAt Go.RowKit Go.Deep
theorem Fw.law{P:Program}{f:FuncId}{ts:List TV}(h:Fw P f ⟨0,[]⟩ ts [] (.b true) []){w:World}{vs:List Value}(ha:All3 (fun _=> .bool false) ⟨w,fun _=>0⟩ ts vs):Calls P f vs.toArray w fun e w'=>e= .returned (.bool true)∧Below w.heap.size w w':=
 Calls.mono (h.is [] (fun _=> .bool false) ⟨w,fun _=>0⟩ vs rfl (yNr _) List.nodup_nil (fun t ht=>by cases ht) ha (fun i o h=>by simp at h)) fun e W' ⟨v,s',hw,he,hm,β',_,hv,_⟩=>by
  obtain⟨hv,_⟩:=hv;subst hw;subst hv;exact⟨he,(hm.weak (S':=No) fun t ⟨i,hi,_⟩=>by cases hi).below⟩
theorem All3.c{β:Nat→Value}{s:Sig}{x:TV}{xs:List TV}{v:Value}{us:List Value}(h:x.p β s v)(h2:All3 β s xs us):All3 β s (x::xs) (v::us):=⟨v,us,h,h2,rfl⟩
theorem op_u8 :Op prog (rK .u8) (fun n=>0≤n∧n<256) 5:=by
 intro H enc w fuel cs x h;obtain⟨y,h1,h2⟩:=(Op.int (P:=prog) (k:= .u8) underlying5) H enc w fuel cs x h;refine⟨y,h1,?_⟩;simp [IntKind.min,IntKind.max,IntKind.signed,IntKind.bits] at h2;omega
theorem Op.arr3{α:Type}{r:Rep α}{Q:α→Prop}{P:Program}{t e:TypeId}(ht:P.underlying t=some (.array 3 e))(ho:Op P r Q e)(c1:P.cellsOf e=r.sz)(ct:P.cellsOf t=r.sz+r.sz+r.sz):Op P (rP r (rP r r)) (fun y=>Q y.1∧Q y.2.1∧Q y.2.2) t:=by
 intro H enc w fuel cs x h;obtain⟨xs,m,_,_,h3,h4,h5⟩:=DataW.trod_array ht h;rw [c1] at h5;have g:∀i,i<3→∃y:α,r.rd ⟨w,fun _=>0⟩ ((cs.drop (i*r.sz)).take r.sz) y∧Q y:=fun i hi=>by
  obtain⟨x,hx⟩:∃x,xs[i]? =some x:=⟨xs[i]'(by omega),yGe (by omega)⟩;exact ho H enc w m _ x (by rw [h5 i hi,hx])
 obtain⟨y0,a0,b0⟩:=g 0 (by omega);obtain⟨y1,a1,b1⟩:=g 1 (by omega);obtain⟨y2,a2,b2⟩:=g 2 (by omega);rw [Nat.zero_mul,List.drop_zero] at a0;rw [Nat.one_mul] at a1;refine⟨(y0,y1,y2),⟨_,_,?_,a0,_,_,rfl,a1,a2⟩,b0,b1,b2⟩;have e2:((cs.drop (2*r.sz)).take r.sz)=cs.drop (2*r.sz):=List.take_of_length_le (by rw [List.length_drop];omega);rw [e2,show 2*r.sz=r.sz+r.sz by omega,←List.drop_drop,List.take_append_drop,List.take_append_drop]
theorem yfV :prog.cellTypes prog.depth 24=some [5,5,5,5,22]:=by kernel_rfl
theorem yfW :prog.cellsOf 24= [5,5,5,5,22].length:=by kernel_rfl
theorem arr5{cs:Array Value}(h:cs.size=5):∃a b c d e,cs= #[a,b,c,d,e]:=by
 obtain⟨l⟩:=cs
 match l,h with
 | [a,b,c,d,e],_=>exact⟨a,b,c,d,e,rfl⟩
theorem tc_u8 :prog.cellsOf 5=1:=by kernel_rfl
theorem tc_a3 :prog.cellsOf 118=3:=by kernel_rfl
theorem tc_l3 :prog.cellsOf 22=1:=by kernel_rfl
theorem y8E{w:World}{r:Reach}{base:Nat}{v:Value}(h:Cell.okWide prog w r base 5 v):∃n:Int,v= .int .u8 n∧0≤n∧n<256:=by
 simp only [Cell.okWide,underlying5] at h;cases v <;> simp_all [Cell.ok];rename_i k n;obtain⟨rfl,h2⟩:=h;simp [IntKind.has,IntKind.min,IntKind.max,IntKind.signed,IntKind.bits] at h2;omega
section
variable{H:Type}{enc:TypeId×Value→H}{w:World}{base:Nat}{v:Value}{d:DataW H}{ps:List MemPlace}
/-- A draft. -/
theorem yh7(hok:Value.okWide prog w .any base 24 v)(h:DataW.Trod enc prog w 0 (fun _=>true) true 24 v d ps):∃x:Int×Int×Int×Int×List (Int×Int×Int),((0≤x.1∧x.1<256)∧(0≤x.2.1∧x.2.1<256)∧(0≤x.2.2.1∧x.2.2.1<256)∧(0≤x.2.2.2.1∧x.2.2.2.1<256)∧∀y∈x.2.2.2.2,(0≤y.1∧y.1<256)∧(0≤y.2.1∧y.2.1<256)∧0≤y.2.2∧y.2.2<256)∧∀β,(TV.a (lx24 x)).p β ⟨w,fun _=>0⟩ v:=by
 obtain⟨cs,rfl,h1,h2⟩:=yh6 underlying24 yfV yfW hok;obtain⟨v0,v1,v2,v3,v4,rfl⟩:=arr5 h1;obtain⟨fuel,hf⟩:=h;obtain⟨c0,e0,o0⟩:=h2 0 5 rfl;obtain⟨c1,e1,o1⟩:=h2 1 5 rfl;obtain⟨c2,e2,o2⟩:=h2 2 5 rfl;obtain⟨c3,e3,o3⟩:=h2 3 5 rfl;obtain⟨c4,e4,o4⟩:=h2 4 22 rfl;cases e0;cases e1;cases e2;cases e3;cases e4;obtain⟨n0,rfl,k0⟩:=y8E o0;obtain⟨n1,rfl,k1⟩:=y8E o1;obtain⟨n2,rfl,k2⟩:=y8E o2;obtain⟨n3,rfl,k3⟩:=y8E o3;obtain⟨m4,x4,g4⟩:=yf8 underlying24 hf 4 22 rfl rfl rfl tc_l3 rfl;obtain⟨a,c,xs,rfl,r4,q4⟩:=yfT underlying22 tc_a3 (Op.arr3 underlying118 op_u8 tc_u8 tc_a3) o4 g4;refine⟨(n0,n1,n2,n3,xs),⟨k0,k1,k2,k3,fun x hx=>q4 x hx⟩,fun β=>⟨[_,_,_,_,_],⟨_,_,⟨rfl,rfl⟩,⟨_,_,⟨rfl,rfl⟩,⟨_,_,⟨rfl,rfl⟩,⟨_,_,⟨rfl,rfl⟩,⟨_,_,⟨_,_,rfl,r4⟩,rfl,rfl⟩,rfl⟩,rfl⟩,rfl⟩,rfl⟩,rfl⟩⟩
end
theorem yOwn :ownKnob prog.godebug=none:=by kernel_rfl
theorem yLaid :laidOutB prog=true:=by kernel_rfl
section
variable{H:Type}{enc:TypeId×Value→H}
def yd0(P:Program)(ts:List TypeId):Bool:=ts.all fun t=>P.readableRec t&&decide (t<P.types.size)
theorem y9l{P:Program}(hl:laidOutB P=true){W W':World}(hb:Below W.heap.size W W'){sp:Nat→Bool}:∀{ts:List TypeId} {vs:List Value} {ds:List (DataW H)} {ps:List MemPlace},yd0 P ts=true→
  DataW.TrodAll enc P W 0 (fun _=>true) true ts vs ds ps→(∀x∈ps,x.block<W.heap.size)→(∀x∈ps,sp x.block=true)→DataW.TrodAll enc P W' 0 sp true ts vs ds ps
 | [],[],[],_,_,h,_,_=>h
 | [],_::_,_,_,_,h,_,_=>h.elim
 | [],[],_::_,_,_,h,_,_=>h.elim
 | t::ts,[],_,_,_,h,_,_=>h.elim
 | t::ts,_::_,[],_,_,h,_,_=>h.elim
 | t::ts,v::vs,d::ds,ps,hc,⟨p,q,h1,h2,e⟩,hlt,hsp=>by
  subst e;unfold yd0 at hc;rw [List.all_cons,yAe,yAe] at hc;exact⟨p,q,WideElems.Trod_stays hl hc.1.1 (of_decide_eq_true hc.1.2) h1 (fun x hx=>hb.same (hlt x (yMl _ hx))) (fun x hx=>hsp x (yMl _ hx)),
   y9l hl hb hc.2 h2 (fun x hx=>hlt x (yMr _ hx)) (fun x hx=>hsp x (yMr _ hx)),rfl⟩
theorem yfX{P:Program}(hl:laidOutB P=true){f:Func}{s:ChangeSpec}{apart fresh handsOn again:Bool}{W W':World}{args:Array Value}{ds:List (DataW H)}{before:List MemPlace}{tb:TypeId}{b:Bool}
  (hW:DataW.Whole enc P f.params.toList s.vars apart W args.toList ds [] before) (hv:s.vars= []) (hc:yd0 P f.params.toList=true) (hrt:f.resultTypes= #[tb]) (ht:P.underlying tb=some .bool)
  (hr:(s.fn H (ds++[])).results= [.lit (.bool b)]) (ha:(s.fn H (ds++[])).args=ds) (hvn:(s.fn H (ds++[])).vars= []) (hb:Below W.heap.size W W'):
  s.post enc P f apart fresh handsOn again W args (.bool b) W':=by
 have hlt:∀p∈before,p.block<W.heap.size:=fun p hp=>hW.lt p hp;have hWc:=hW;obtain⟨p,q,hA,hV,rfl,hz,hn⟩:=hWc;rw [hv] at hV;obtain⟨-,rfl⟩:=trodVars_none hV;rw [List.append_nil] at hlt hz hn;have hargs:∀sp:Nat→Bool,(∀x∈p,sp x.block=true)→DataW.TrodAll enc P W' 0 sp true f.params.toList args.toList (s.fn H (ds++[])).args p:=fun sp hsp=>by
  rw [ha];exact y9l hl hb hc hA hlt hsp
 have hres:∀(b0:Nat) (sp:Nat→Bool) (hd:Bool),DataW.TrodAll enc P W' b0 sp hd f.resultTypes.toList ((Value.bool b).resultList f.resultTypes.size) (s.fn H (ds++[])).results []:=fun _ _ _=>by
  rw [hr,hrt];exact trodAll_mk1 (shut_bool ht b)
 have hvars:∀sp:Nat→Bool,DataW.TrodVars enc P W' sp s.vars (s.fn H (ds++[])).vars []:=fun sp=>by rw [hv,hvn];rfl
 have hold:∀x∈p,(fun b=>decide (b<W.heap.size)) x.block=true:=fun x hx=>by simpa using hlt x hx
 refine⟨ds,[],p++[],[],p,[],hW,hres _ _ _,hargs _ hold,hvars _,World.keptBut_mono (fun x hx=>?_) (hb.frame (· ∈p)),fun _=>?_⟩
 ·exact ⟨by rwa [List.append_nil],Or.inr (.inl hx)⟩
 ·have hok:=ok_one (f:=f) (W':=W') (by rw [hrt]) rfl (okWide_bool_mk (W':=W') ht b);refine⟨hok,_,_,([]++p)++[],⟨[]++p,[],trodAll_append (hargs _ (fun _ _=>rfl)) (hres _ _ _),hvars _,rfl,?_,?_⟩,?_⟩
  ·intro b0 off hp;have hin:MemPlace.cell b0 off∈p:=by simpa using hp
   rw [hb.frozen (hlt _ hin)];exact hz b0 off hin
  ·intro hap;simpa using hn hap
  ·intro x hx _;simpa using hx
end
def lay24 : List (String × DataW Unit) := [("math/bits.deBruijn32tab", Rows.laid_math_bits_deBruijn32tab), ("math/bits.deBruijn64tab", Rows.laid_math_bits_deBruijn64tab), ("internal/strconv.uint64pow10", Rows.laid_internal_strconv_uint64pow10)]
theorem yf9(os:Os)(args:Array Value):laidMetH prog lay24 ((World.laidAll prog os lay24).forCall (fun _ _=>0) ⟨#[],args,[]⟩).memory:=
 laidMetH_of_parts3 (fuel:=8) (laidMet_laidAll args (by kernel_rfl) (by kernel_rfl)) (by kernel_rfl) (by kernel_rfl)
theorem y6o(os:Os)(started:os.Started)(H:Type)(enc:TypeId×Value→H):
  ReturnsInHanded {} Tryz.checked os 5 .any (fun w args=>(Rows.nonconflictAbstractsSpec.pre enc prog Tryz.f5 [] false w args∧laidMetH prog lay24 w)∧sizedMet enc prog Tryz.f5 (OpenSpec.ofChange Rows.nonconflictAbstractsSpec) false w args) (Rows.nonconflictAbstractsSpec.post enc prog Tryz.f5 false true false false):=by
 refine returnsInHanded_of_change_and (C:=Tryz.checked) (X:=fun w _=>laidMetH prog lay24 w) (fun _ _ _ hh h=>h.of_heap hh) yOwn started (by kernel_rfl) func5
  (ChangeSpec.witness_shaped (enc:=enc) (C:=Tryz.checked) (os:=os) (X:=fun w _=>laidMetH prog lay24 w) false (World.laidAll prog os lay24) #[.agg #[.int .u8 0,.int .u8 0,.int .u8 0,.int .u8 0,.slice none 0 0]] 8 (World.laidAll_os _ _ _) (World.shaped_of_ZipB (by kernel_rfl) (by kernel_rfl)) (by kernel_rfl) (by kernel_rfl) (by kernel_rfl) (yf9 os _)) ?_
 intro W base args ds gs before hval0 hW _ _ _ _;have hval:∀(j:Nat) t v,Tryz.f5.params[j]? =some t→args[j]? =some v→Value.okWide prog W .any base t v:=hval0;have hW':=hW;obtain⟨p,q,hA0,hV,rfl,hfz,hnd⟩:=hW;have hA:DataW.TrodAll enc prog W 0 (fun _=>true) true Tryz.f5.params.toList args.toList ds p:=hA0;rw [Tryz.params5] at hA hval;obtain⟨v0,d0,rfl,rfl,h0⟩:=trodAll_one hA;obtain⟨x,g0,r0⟩:=yh7 (hval 0 24 v0 rfl rfl) h0;obtain⟨rfl,rfl⟩:=trodVars_none hV;clear hA0 hval0;refine Calls.mono ((y4u (yc8 (d:=x) ⟨g0.1,g0.2.1,g0.2.2.1,g0.2.2.2.1,g0.2.2.2.2⟩)).law (All3.c (r0 _) rfl)) fun e W' ⟨he,hbl⟩=>?_;subst he;exact⟨_,rfl,yfX yLaid hW' rfl (by kernel_rfl) (by kernel_rfl) underlying4 rfl rfl rfl hbl⟩
end
section
open Go.Proofs.Tryz Go Go.RowKit
set_option maxRecDepth 100000
theorem ygz :prog.stopsHeard=true:=by kernel_rfl
theorem ygA :prog.mayEnter=true:=by kernel_rfl
theorem ygB :(laidOutB prog&&mapsRowed prog)=true:=by kernel_rfl
theorem ygC :(prog.stops==[])=true:=by kernel_rfl
theorem yfY :(prog.stopKnobs==[])=true:=by kernel_rfl
theorem yfZ :false=prog.looks []:=by kernel_rfl
end
section
open Go.Proofs.Tryz Go Go.ChangeShapes Go.WideShapes Go.ChangeAt Go.RowKit Go.Deep
theorem y7E :(Rows.nonconflictAbstractsRow.inPlace==prog.inPlace 5)=true:=by kernel_rfl
theorem y7F :(Rows.nonconflictAbstractsRow.unfollowed==prog.unfollowed 5)=true:=by kernel_rfl
theorem y7G :(Rows.nonconflictAbstractsRow.recurses==prog.recurses 5)=true:=by kernel_rfl
theorem y7H :(Rows.nonconflictAbstractsRow.named==prog.varsNamed 5)=true:=by kernel_rfl
theorem y7I :(Rows.nonconflictAbstractsRow.lifted==prog.liftsFinal)=true:=by kernel_rfl
theorem y6p :joinedFacts prog 5 Tryz.f5 Rows.nonconflictAbstractsSpec Rows.nonconflictAbstractsRow=true:=by
 have h8:=ygB;rw [yAe] at h8;unfold joinedFacts;rw [h8.1,h8.2,y7E,y7F,y7G,y7H,y7I,ygz,ygA,ygC,yfY];change (_:Bool)=true;kernel_rfl
theorem y6x :Rows.NonconflictAbstractsSaid:=
 OpenClaim.holds_of_wide 5 Tryz.f5 rfl rfl rfl rfl rfl rfl rfl ⟨rfl,rfl,rfl,rfl,rfl⟩ rfl rfl rfl rfl rfl (by kernel_rfl) func5 y6p
  (of_decide_eq_true (by kernel_rfl)) (by unfold Func.isWrapper;first | (rw [iP (by decide +kernel)];kernel_rfl)|(rw [iN (by decide +kernel)];exact⟨rfl,rfl⟩))
  (fun os started H enc _=>y6o os started H enc)
theorem nonconflictAbstracts_k12 :false=Rows.nonconflictAbstractsRow.goesBy prog:=by kernel_rfl
theorem nonconflictAbstracts_k13 : prog.funcNamed "overseer/overseerlaw33.NonconflictAbstracts" = some 5 := by kernel_rfl
theorem nonconflictAbstracts_k14 :(Tryz.f5.params.toList.all fun u=>!(prog.wantsStandIn u))=true:=by kernel_rfl
theorem nonconflictAbstracts_k15 :Rows.nonconflictAbstractsRow.wfByText (OpenSpec.ofChange Rows.nonconflictAbstractsSpec)=true:=by kernel_rfl
theorem nonconflictAbstracts_card_holds :Rows.NonconflictAbstractsCardSaid:=
 Claim7.holds_tied_plain_at .later [] [.data,.data,.data] true _ false
  y6x (fun _ h=>by cases h) nonconflictAbstracts_k15 (fun _ h=>by cases h) nonconflictAbstracts_row_tie rfl ⟨rfl,rfl⟩ (by kernel_rfl) rfl
  (fun f fn hf hfn=>by
   obtain rfl:f=5:=ySi (nonconflictAbstracts_k13.symm.trans hf) |>.symm;obtain rfl:fn=Tryz.f5:=(ySi (func5.symm.trans hfn)).symm;exact⟨yfZ,fun j t ht=>by
    have hm:t∈Tryz.f5.params:=Array.mem_of_getElem? ht;exact(show prog.wantsStandIn t=false by simpa using yAt.1 nonconflictAbstracts_k14 t (Array.mem_toList_iff.2 hm))⟩)
  nonconflictAbstracts_k12
end
end Go.Proofs.YtfdeiphkmjdifaaGreatDoor
