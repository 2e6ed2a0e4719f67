/- ScanSingle returns true for all arguments, and leaves its arguments as they were. The condition: three tables of Go's library (math/bits, internal/strconv) hold what their source text lays, and the card ties this to the text. -/
import Derived.Deep.Slices
import Derived.ChangeSame
import Derived.ProofKit
import Derived.Test.YtecmobjeeonmaaaGreatDoorRows
import Derived.Test.YtecmobjeeonmaaaGreatDoorTie
import Derived.Test.YtecmobjeeonmaaaGreatDoorCards
import Derived.Test.YtecmobjeeonmaaaGreatDoorProg
import Derived.Lay
import Derived.LaidMore
import Derived.LaidHandle
import Derived.SevenTiedAt
import Derived.Stop.Joined
import Derived.Test.YtecmobjeeonmaaaGreatDoorQs5
set_option maxRecDepth 100000
namespace Go.Proofs.YtecmobjeeonmaaaGreatDoor
open Go Go.RowKit
def stK (a:AutT) (g:List Bool) (s e:Int):Option Int:=(st1 a s e).filter fun t=>g.getD t.toNat false
theorem y5S {a:AutT} {n:Nat} (hr:Right a n) {g:List Bool} {s e t:Int}:stK a g s e=some t↔(s,e,t)∈a.2.2.2∧g.getD t.toNat false=true:=by
 unfold stK
 rw [Option.filter_eq_some_iff,y2D hr]
theorem ybV {a:AutT} {n:Nat} (hr:Right a n) (hE32:a.1.length≤32) {g:List Bool} {i s:Nat} {X:List Int} {kn:List (Int×Int)} {E:List (Int×Int×Int)} (hS:SR (stK a g) a.1 n i 0 X kn E) (hi:X[i]? =some (s:Int)) (M:List Int) {os:List (Int×Int×Int)} (hos:os=a.2.2.2.filter fun x=>x.1 == (s:Int) && g.getD x.2.2.toNat false):
  ∃kn' X' E',iter (yy ((i:Int),X,kn,M,E) os) (0,X,kn,E)=some (X',kn',E')∧SR (stK a g) a.1 n (i + 1) 0 X' kn' E'∧∃U,X'=X ++ U:=by
 have hnl:=hr.nl
 have hl3:=hr.l3
 have hil:i < X.length:=(List.getElem?_eq_some_iff.1 hi).1
 have hmem:∀x∈os,x∈a.2.2.2∧x.1=(s:Int)∧g.getD x.2.2.toNat false=true:=fun x hx=>by
  rw [hos] at hx
  have:=List.mem_filter.1 hx
  rw [Bool.and_eq_true] at this
  exact⟨this.1,by simpa using this.2.1,this.2.2⟩
 have hso:os.Pairwise fun x y=>x.2.1 < y.2.1:=by
  have h:=hr.so.filter (fun x=>x.1 == (s:Int) && g.getD x.2.2.toNat false)
  rw [←hos] at h
  refine h.imp_of_mem fun {x y} hx hy hxy=>?_
  have:=(hmem x hx).2.1
  have:=(hmem y hy).2.1
  omega
 have hol:os.length≤1000000:=by rw [hos];exact Nat.le_trans (List.length_filter_le _ _) hl3
 have hin:∀{e t:Int},stK a g (s:Int) e=some t→((s:Int),e,t)∈os:=fun {e t} h=>by
  rw [hos]
  have:=(y5S hr).1 h
  exact List.mem_filter.2 ⟨this.1,by simp only [beq_self_eq_true,Bool.true_and];exact this.2⟩
 obtain⟨o,h1,j,hS',hU,hj,hlast⟩:=ye (f:=yy ((i:Int),X,kn,M,E) os)
  (fun k s'=>s'.1=(k:Int)∧k≤os.length∧∃j,SR (stK a g) a.1 n i j s'.2.1 s'.2.2.1 s'.2.2.2∧(∃U,s'.2.1=X ++ U)∧j≤a.1.length∧
   (∀c (hc:c < a.1.length),c < j→∀k' (hk:k' < os.length),k≤k'→os[k'].2.1≠a.1[c])∧∀k' (hk:k' < os.length),k' < k→∀c (hc:c < a.1.length),j≤c→os[k'].2.1≠a.1[c])
  (fun o=>∃j,SR (stK a g) a.1 n i j o.1 o.2.1 o.2.2∧(∃U,o.1=X ++ U)∧j≤a.1.length∧∀k' (hk:k' < os.length),∀c (hc:c < a.1.length),j≤c→os[k'].2.1≠a.1[c])
  os.length 0 (by omega) (fun k s' hk ⟨e1,_,j,hS',⟨U,hU⟩,hj,hlo,hhi⟩=>by
   obtain⟨c',X1,kn',E1⟩:=s'
   dsimp only at e1 hS' hU
   subst e1
   have hx:=hmem _ (List.getElem_mem hk)
   have hxe:=hr.es _ hx.1
   obtain⟨t,ht⟩:∃t:Nat,os[k].2.2=(t:Int):=⟨os[k].2.2.toNat,by omega⟩
   have htn:t < n:=by omega
   obtain⟨b,hb,hbe⟩:=List.getElem_of_mem hxe.2.2.2.2
   have hjb:j≤b:=Nat.le_of_not_lt fun hlt=>hlo b hb hlt k hk (Nat.le_refl _) hbe.symm
   have hiX:X1[i]? =some (s:Int):=by rw [hU,List.getElem?_append_left hil];exact hi
   have hstx:stK a g (s:Int) a.1[b]=some (t:Int):=by
    rw [y5S hr,hbe,←ht]
    refine⟨?_,hx.2.2⟩
    rw [←hx.2.1]
    exact hx.1
   have hSb:=hS'.skips hiX b hjb (by omega) fun c hc h1 h2=>by
    cases hst:stK a g (s:Int) a.1[c] with
    | none=>rfl
    | some v=>
     exfalso
     obtain⟨k',hk',e'⟩:=List.getElem_of_mem (hin hst)
     have ev:os[k'].2.1=a.1[c]:=by rw [e']
     have hcb:a.1[c] < a.1[b]:=List.pairwise_iff_getElem.1 hr.ali c b hc hb h2
     by_cases h3:k' < k
     ·exact hhi k' hk' h3 c hc h1 ev
     ·by_cases h4:k'=k
      ·subst h4;omega
      ·have:=List.pairwise_iff_getElem.1 hso k k' hk hk' (by omega)
       omega
   have hpos:∀(X2:List Int) (E2:List (Int×Int×Int)) (kn2:List (Int×Int)),SR (stK a g) a.1 n i (b + 1) X2 kn2 E2→(∃U,X2=X ++ U)→
     (∃j,SR (stK a g) a.1 n i j X2 kn2 E2∧(∃U,X2=X ++ U)∧j≤a.1.length∧
   (∀c (hc:c < a.1.length),c < j→∀k' (hk:k' < os.length),k + 1≤k'→os[k'].2.1≠a.1[c])∧∀k' (hk:k' < os.length),k' < k + 1→∀c (hc:c < a.1.length),j≤c→os[k'].2.1≠a.1[c]):=fun X2 E2 kn2 g1 g3=>by
    refine⟨b + 1,g1,g3,hb,fun c hc h1 k' hk' h2 e=>?_,fun k' hk' h2 c hc h1 e=>?_⟩
    ·have h5:=List.pairwise_iff_getElem.1 hso k k' hk hk' (by omega)
     by_cases h6:c=b
     ·subst h6;omega
     ·have:=List.pairwise_iff_getElem.1 hr.ali c b hc hb (by omega)
      omega
    ·have h5:=List.pairwise_iff_getElem.1 hr.ali b c hb hc (by omega)
     by_cases h6:k'=k
     ·subst h6;omega
     ·have:=List.pairwise_iff_getElem.1 hso k' k hk' hk (by omega)
      omega
   have hXl:=hSb.len
   have hEl:=hSb.el
   have hil2:i < n:=by have:=(List.getElem?_eq_some_iff.1 hiX).1;omega
   have hj2:∀(X2:List Int) (v:Int) (kn2:List (Int×Int)),yx ((i:Int),X,kn,M,E) os[k] ((k:Int),X1,kn',E1) X2 v kn2=some (.inl (((k + 1:Nat):Int),X2,kn2,E1 ++ [((i:Int),os[k].2.1,v)])):=fun X2 v kn2=>by
    rw [yx]
    dsimp only
    rw [yL (by simp;omega),yOb,nxt (by omega)]
   left
   rw [yy]
   dsimp only
   rw [if_pos (ct_lt hk),ya hk,yOb,ht]
   cases hkg:kget kn' (t:Int) with
   | none=>
    rw [if_pos (by simp),yL (by simp;omega),yOb,hj2]
    refine⟨_,rfl,rfl,hk,?_⟩
    dsimp only
    rw [←hbe]
    exact hpos _ _ _ (hSb.new hr.ali hb hiX hstx hkg (by omega) (by omega)) ⟨U ++ [(t:Int)],by rw [hU,List.append_assoc]⟩
   | some v=>
    obtain⟨q,hv,hq⟩:=hSb.k1 _ _ hkg
    subst hv
    rw [if_neg (by simp),hj2]
    refine⟨_,rfl,rfl,hk,?_⟩
    dsimp only
    rw [←hbe,Option.getD_some]
    exact hpos _ _ _ (hSb.edge hr.ali hb hiX hstx hq) ⟨U,hU⟩) (fun s' ⟨e1,_,j,hS',hU,hj,hlo,hhi⟩=>by
   obtain⟨c',X1,kn',E1⟩:=s'
   dsimp only at e1 hS' hU
   subst e1
   refine⟨(X1,kn',E1),?_,j,hS',hU,hj,fun k' hk' c hc hjc=>hhi k' hk' hk' c hc hjc⟩
   rw [yy]
   dsimp only
   rw [if_neg ct_ge]) (Nat.zero_le _) (0,X,kn,E) ⟨rfl,Nat.zero_le _,0,hS,⟨[],(List.append_nil _).symm⟩,Nat.zero_le _,fun c hc h=>absurd h (Nat.not_lt_zero _),fun k' hk' h=>absurd h (Nat.not_lt_zero _)⟩
 obtain⟨X',kn',E'⟩:=o
 obtain⟨U,hU⟩:=hU
 dsimp only at hS' hU
 have hiX:X'[i]? =some (s:Int):=by rw [hU,List.getElem?_append_left hil];exact hi
 have hSe:=hS'.skips hiX a.1.length hj (Nat.le_refl _) fun c hc h1 _=>by
  cases hst:stK a g (s:Int) a.1[c] with
  | none=>rfl
  | some v=>
   exfalso
   obtain⟨k',hk',e'⟩:=List.getElem_of_mem (hin hst)
   exact hlast k' hk' c hc h1 (by rw [e'])
 exact⟨kn',X',E',h1,hSe.next (Nat.le_refl _) hE32,U,hU⟩
theorem yaG {a:AutT} {n:Nat} (hr:Right a n) {g:List Bool} (hg:g.length=n) (p:AutT×List Int×List (Int×List Int)×List Bool) (hp1:p.1=a) (hp2:p.2.2.2=g):
  ∃R:List EdgL,iter (yB p) (0,List.replicate n [])=some R∧R.length=n∧∀s:Nat,s < n→R[s]? =some (a.2.2.2.filter fun x=>x.1 == (s:Int) && g.getD x.2.2.toNat false):=by
 subst hp1 hp2
 have hl3:=hr.l3
 have hnl:=hr.nl
 obtain⟨R,h1,h2,h3⟩:=ye (f:=yB p) (fun i s=>s.1=(i:Int)∧i≤p.1.2.2.2.length∧s.2.length=n∧∀t:Nat,t < n→s.2[t]? =some ((p.1.2.2.2.take i).filter fun x=>x.1 == (t:Int) && p.2.2.2.getD x.2.2.toNat false))
  (fun R=>R.length=n∧∀t:Nat,t < n→R[t]? =some (p.1.2.2.2.filter fun x=>x.1 == (t:Int) && p.2.2.2.getD x.2.2.toNat false)) p.1.2.2.2.length 0 (by omega) (fun i s hi ⟨e1,_,hl,hR⟩=>by
   obtain⟨c,R⟩:=s
   dsimp only at e1 hl hR
   subst e1
   have hx:=hr.es _ (List.getElem_mem hi)
   obtain⟨q,hq⟩:∃q:Nat,(p.1.2.2.2[i]).1=(q:Int):=⟨(p.1.2.2.2[i]).1.toNat,by omega⟩
   obtain⟨t,ht⟩:∃t:Nat,(p.1.2.2.2[i]).2.2=(t:Int):=⟨(p.1.2.2.2[i]).2.2.toNat,by omega⟩
   have hqn:q < n:=by omega
   have htn:t < p.2.2.2.length:=by omega
   have hql:q < R.length:=by omega
   have hRq:R[q]=(p.1.2.2.2.take i).filter fun x=>x.1 == (q:Int) && p.2.2.2.getD x.2.2.toNat false:=by
    have:=hR q hqn
    rw [yGe hql] at this
    exact Option.some.inj this
   have hgt:p.2.2.2.getD (p.1.2.2.2[i]).2.2.toNat false=p.2.2.2[t]:=by
    rw [ht,Int.toNat_natCast,List.getD_eq_getElem?_getD,yGe htn,Option.getD_some]
   have htake:p.1.2.2.2.take (i + 1)=p.1.2.2.2.take i ++ [p.1.2.2.2[i]]:=by rw [List.take_add_one,yGe hi];rfl
   left
   rw [yB]
   dsimp only
   rw [if_pos (ct_lt hi),ya hi,yOb,ht,ya htn,yOb]
   cases hgb:p.2.2.2[t] with
   | true=>
    have hlen:R[q].length≤1000000:=by rw [hRq];exact Nat.le_trans (List.length_filter_le _ _) (Nat.le_trans (List.length_take_le _ _) (by omega))
    rw [if_pos rfl,hq,ya hql,yOb,yL (by simp;omega),yOb,yOb,y4G hql,yOb,yA]
    dsimp only
    rw [nxt (by omega)]
    refine⟨_,rfl,rfl,hi,by dsimp only;rw [List.length_set];exact hl,fun s' hs'=>?_⟩
    dsimp only
    rw [List.getElem?_set,htake,List.filter_append]
    by_cases e:q=s'
    ·subst e
     rw [if_pos rfl,if_pos hql,hRq,List.filter_cons_of_pos (by rw [hq,hgt,hgb];simp)]
     rfl
    ·rw [if_neg e,List.filter_cons_of_neg (by rw [hq];simp;omega),List.filter_nil,List.append_nil]
     exact hR s' hs'
   | false=>
    rw [if_neg (by simp),yA]
    dsimp only
    rw [nxt (by omega)]
    refine⟨_,rfl,rfl,hi,hl,fun s' hs'=>?_⟩
    dsimp only
    rw [htake,List.filter_append,List.filter_cons_of_neg (by rw [hgt,hgb];simp),List.filter_nil,List.append_nil]
    exact hR s' hs') (fun s ⟨e1,_,hl,hR⟩=>by
   obtain⟨c,R⟩:=s
   dsimp only at e1 hl hR
   subst e1
   refine⟨R,?_,hl,fun t ht=>by have:=hR t ht;rwa [List.take_length] at this⟩
   rw [yB]
   dsimp only
   rw [if_neg ct_ge]) (Nat.zero_le _) (0,List.replicate n []) ⟨rfl,Nat.zero_le _,by simp,fun t ht=>by simp [List.getElem?_replicate,ht]⟩
 exact⟨R,h1,h2,h3⟩
theorem ybW {a:AutT} {n:Nat} (hr:Right a n) {g:List Bool} (hg:g.length=n) (p:AutT×List Int×List (Int×List Int)×List Bool) (hp1:p.1=a) (hp2:p.2.2.2=g):
  ∃r X,y1g p=some (r,X)∧CanOf (stK a g) a.1 a.2.2.1 r X∧X.length≤n∧∀s∈X,0≤s∧s < (n:Int)∧g.getD s.toNat false=true:=by
 subst hp1 hp2
 have hnn:=hr.nn
 have hnl:=hr.nl
 have hl1:=hr.l1
 have hal:p.1.1.length≤32:=Alp.len ⟨hr.ali,hr.alr⟩
 have hcl:y1e p.1.1=some p.1.1:=y6P (by omega)
 have hemp:∃r X,some ((p.1.1,(0:Int),([]:List Int),([]:List (Int×Int×Int))),([]:List Int))=some (r,X)∧CanOf (stK p.1 p.2.2.2) p.1.1 p.1.2.2.1 r X∧X.length≤n∧∀s∈X,0≤s∧s < (n:Int)∧p.2.2.2.getD s.toNat false=true:=
  ⟨_,[],rfl,⟨⟨rfl,by simp,hr.ali,hr.alr,List.Pairwise.nil,fun x hx=>(by cases hx),fun x hx=>(by cases hx),List.Pairwise.nil,hl1,by simp,by simp⟩,rfl,fun h=>absurd h (by simp),(Fnd.start (by simp)).disc List.nodup_nil List.Pairwise.nil (fun x hx=>(by cases hx)) hr.alr,fun i s hi=>by simp at hi⟩,by simp,fun s hs=>by cases hs⟩
 rw [y1g,hcl,yOb,hnn]
 by_cases h0:n=0
 ·subst h0
  rw [if_pos (by simp),yOb,if_pos rfl]
  exact hemp
 have hg0:0 < p.2.2.2.length:=by omega
 rw [if_neg (by simp;omega),show idx p.2.2.2 0=some p.2.2.2[0] from ya hg0,yOb,yOb]
 cases hb:p.2.2.2[0] with
 | false=>
  rw [if_pos (show (!false)=true from rfl)]
  exact hemp
 | true=>
 obtain⟨R,f1,f2,f3⟩:=yaG hr hg p rfl rfl
 have hS0:SR (stK p.1 p.2.2.2) p.1.1 n 0 0 [0] (kput [] 0 0) []:=by
  refine⟨Fnd.start (by simp),fun s v hv=>?_,fun s hs=>?_,by simp,fun s hs=>?_,List.Pairwise.nil,fun x hx=>(by cases hx),fun x hx=>(by cases hx),by simp⟩
  ·rw [y2L] at hv
   split at hv
   ·rename_i e
    subst e
    cases hv
    exact⟨0,rfl,rfl⟩
   ·cases hv
  ·rw [List.mem_singleton.1 hs,y2L,if_pos rfl]
   rfl
  ·rw [List.mem_singleton.1 hs]
   omega
 obtain⟨o,g1,kn,g2,g3,g4,g5,g6⟩:=ye (f:=yz p R) (fun i s=>s.1=(i:Int)∧i≤s.2.1.length∧SR (stK p.1 p.2.2.2) p.1.1 n i 0 s.2.1 s.2.2.1 s.2.2.2.2∧Inc s.2.2.2.1∧(∀x∈s.2.2.2.1,0≤x∧x < (i:Int))∧s.2.1[0]? =some 0∧∀(c:Nat) (x:Int),c < i→s.2.1[c]? =some x→((c:Int)∈s.2.2.2.1↔x∈p.1.2.2.1))
  (fun o=>∃kn,SR (stK p.1 p.2.2.2) p.1.1 n o.1.length 0 o.1 kn o.2.2∧Inc o.2.1∧(∀x∈o.2.1,0≤x∧x < (o.1.length:Int))∧o.1[0]? =some 0∧∀(c:Nat) (x:Int),o.1[c]? =some x→((c:Int)∈o.2.1↔x∈p.1.2.2.1)) n 0 (by omega) (fun i s hi ⟨e1,hle,hS,m1,m2,x0,mk⟩=>by
   obtain⟨k,X,kn,M,E⟩:=s
   dsimp only at e1 hle hS m1 m2 x0 mk
   subst e1
   have hXl:=hS.len
   have hMl:=y2W (n:=i) (lo:=0) m1 m2 (Int.le_refl _)
   by_cases hiq:i < X.length
   ·left
    have hq:=hS.tr _ (List.getElem_mem hiq)
    obtain⟨s,hs⟩:∃s:Nat,X[i]=(s:Int):=⟨X[i].toNat,by omega⟩
    have hsn:s < n:=by omega
    have hsR:s < R.length:=by omega
    have hRs:R[s]=p.1.2.2.2.filter fun x=>x.1 == (s:Int) && p.2.2.2.getD x.2.2.toNat false:=by
     have:=f3 s hsn
     rw [yGe hsR] at this
     exact Option.some.inj this
    obtain⟨kn',X',E',w1,w2,U,hU⟩:=ybV hr hal hS (by rw [yGe hiq,hs]) M hRs
    have hpre:∀c,c < X.length→X'[c]? =X[c]? :=fun c hc=>by rw [hU,List.getElem?_append_left hc]
    have hXX:X.length≤X'.length:=by rw [hU];simp
    have hiX':i < X'.length:=by omega
    have hXi:X'[i]=(s:Int):=by
     have:=hpre i hiq
     rw [yGe hiq,yGe hiX',hs] at this
     exact Option.some.inj this
    have hml:p.1.2.2.1.length < 4611686018427387904:=by have:=hr.l2;omega
    have hj1:∀M':List Int,Inc M'→(∀x∈M',0≤x∧x < ((i + 1:Nat):Int))→(∀x:Int,x≠(i:Int)→(x∈M'↔x∈M))→((i:Int)∈M'↔(s:Int)∈p.1.2.2.1)→
      ∃s',yw ((i:Int),X,kn,M,E) X' kn' M' E'=some (.inl s')∧s'.1=((i + 1:Nat):Int)∧i + 1≤s'.2.1.length∧SR (stK p.1 p.2.2.2) p.1.1 n (i + 1) 0 s'.2.1 s'.2.2.1 s'.2.2.2.2∧Inc s'.2.2.2.1∧(∀x∈s'.2.2.2.1,0≤x∧x < ((i + 1:Nat):Int))∧s'.2.1[0]? =some 0∧∀(c:Nat) (x:Int),c < i + 1→s'.2.1[c]? =some x→((c:Int)∈s'.2.2.2.1↔x∈p.1.2.2.1):=fun M' q1 q2 q3 q4=>by
     rw [yw]
     dsimp only
     rw [nxt (by omega)]
     refine⟨_,rfl,rfl,by dsimp only;omega,w2,q1,q2,?_,fun c x hc hx=>?_⟩
     ·dsimp only
      rw [hpre 0 (by omega)]
      exact x0
     ·dsimp only at hx ⊢
      rw [hpre c (by omega)] at hx
      by_cases e:c=i
      ·subst e
       rw [yGe hiq,hs] at hx
       cases hx
       exact q4
      ·rw [q3 _ (by omega)]
       exact mk c x (by omega) hx
    rw [yz]
    dsimp only
    rw [if_pos (ct_lt hiq),ya hiq,yOb,hs,ya hsR,yOb,w1,yOb]
    dsimp only
    rw [ya hiX',yOb,hXi,y5g hml,yOb]
    cases hm:hasB p.1.2.2.1 (s:Int) with
    | true=>
     rw [if_pos rfl,yL (by simp;omega),yOb]
     refine hj1 _ ?_ (fun x hx=>?_) (fun x hx=>?_) ⟨fun _=>yb.1 hm,fun _=>List.mem_append_right _ (List.mem_singleton.2 rfl)⟩
     ·unfold Inc at m1 ⊢
      rw [List.pairwise_append]
      exact⟨m1,List.pairwise_singleton _ _,fun c hc b hb=>by rw [List.mem_singleton.1 hb];exact(m2 c hc).2⟩
     ·rcases List.mem_append.1 hx with hx | hx
      ·have:=m2 x hx;omega
      ·rw [List.mem_singleton.1 hx];omega
     ·rw [List.mem_append,List.mem_singleton]
      exact⟨fun h=>h.resolve_right hx,.inl⟩
    | false=>
     rw [if_neg (by simp)]
     refine hj1 M m1 (fun x hx=>by have:=m2 x hx;omega) (fun x _=>Iff.rfl) ⟨fun hx=>by have:=m2 _ hx;omega,fun hx=>?_⟩
     rw [yb.2 hx] at hm
     cases hm
   ·right
    obtain rfl:i=X.length:=by omega
    refine⟨(X,M,E),?_,kn,hS,m1,m2,x0,fun c x hx=>mk c x (List.getElem?_eq_some_iff.1 hx).1 hx⟩
    rw [yz]
    dsimp only
    rw [if_neg ct_ge]) (fun s ⟨e1,hle,hS,m1,m2,x0,mk⟩=>by
   obtain⟨k,X,kn,M,E⟩:=s
   dsimp only at e1 hle hS m1 m2 x0 mk
   subst e1
   have hXl:=hS.len
   have hnq:n=X.length:=by omega
   refine⟨(X,M,E),?_,kn,by dsimp only;rw [←hnq];exact hnq ▸ hS,m1,by dsimp only;rw [←hnq];exact m2,x0,fun c x hx=>mk c x (by have h8:c < X.length:=(List.getElem?_eq_some_iff.1 hx).1;omega) hx⟩
   rw [yz]
   dsimp only
   rw [if_neg (by simp;omega)]) (Nat.zero_le _) (0,[0],kput [] 0 0,[],[]) ⟨rfl,by simp,hS0,List.Pairwise.nil,fun x hx=>(by cases hx),rfl,fun c x hc=>absurd hc (Nat.not_lt_zero _)⟩
 obtain⟨X,M,E⟩:=o
 dsimp only at g2 g3 g4 g5 g6
 have hXl:=g2.len
 have hEl:=g2.el
 have hMl:=y2W (n:=X.length) (lo:=0) g3 g4 (Int.le_refl _)
 have hX0:0 < X.length:=(List.getElem?_eq_some_iff.1 g5).1
 refine⟨(p.1.1,(X.length:Int),M,E),X,?_,⟨⟨rfl,by omega,hr.ali,hr.alr,g3,g4,fun x hx=>?_,g2.so,hl1,by dsimp only;omega,by dsimp only;omega⟩,rfl,fun _=>g5,g2.f.disc g2.nd g2.so g2.ea hr.alr,g6⟩,hXl,fun s hs=>?_⟩
 ·rw [if_neg (by simp),y6l (by omega) (by omega),yOb,Int.toNat_natCast,f1,yOb,g1]
  rfl
 ·obtain ⟨c,b,s,r,q1,q2,q3,q4,q5⟩:=g2.f.sn x hx
  have e3:=(List.getElem?_eq_some_iff.1 q3).1
  have e4:=(List.getElem?_eq_some_iff.1 q4).1
  exact⟨by omega,by omega,by omega,by omega,g2.ea x hx⟩
 ·refine ⟨(g2.tr s hs).1,(g2.tr s hs).2,?_⟩
  obtain⟨k,hk,rfl⟩:=List.getElem_of_mem hs
  by_cases hk0:k=0
  ·subst hk0
   rw [yGe hX0] at g5
   rw [Option.some.inj g5,Int.toNat_zero,List.getD_eq_getElem?_getD,yGe hg0,Option.getD_some,hb]
  ·obtain ⟨x,hx,e⟩:=g2.f.cov k (by omega) hk
   obtain⟨c,b,s,r,q1,q2,q3,q4,q5⟩:=g2.f.sn x hx
   obtain rfl:b=k:=by omega
   rw [yGe hk] at q4
   rw [Option.some.inj q4]
   exact((y5S hr).1 q5).2
inductive LiveG (a:AutT) (g:List Bool):Nat→Prop
 | mk {s:Nat}:g[s]? =some true→(s:Int)∈a.2.2.1→LiveG a g s
 | st {s t:Nat} {e:Int}:g[s]? =some true→((s:Int),e,(t:Int))∈a.2.2.2→LiveG a g t→LiveG a g s
structure DQs (a:AutT) (g:List Bool) (n:Nat) (Q d:List Int):Prop where
 dl:d.length=n
 qn:Q.Nodup
 qd:∀(k:Nat) (x:Int),Q[k]? =some x→∃s:Nat,x=(s:Int)∧s < n∧∃v:Int,d[s]? =some v∧0≤v∧v≤(k:Int)
 lv:∀(s:Nat) (v:Int),d[s]? =some v→0≤v→LiveG a g s
theorem DQs.len {a:AutT} {g:List Bool} {n:Nat} {Q d:List Int} (h:DQs a g n Q d):Q.length≤n:=by
 have hr:∀x∈Q,0≤x∧x < (n:Int):=fun x hx=>by
  obtain⟨k,hk,rfl⟩:=List.getElem_of_mem hx
  obtain⟨s,e,h1,_⟩:=h.qd k _ (yGe hk)
  omega
 have:=y4S n (Q.map Int.toNat) (by
  unfold List.Nodup
  rw [List.pairwise_map]
  refine h.qn.imp_of_mem fun {a b} ha hb hab=>?_
  have h1:=hr a ha
  have h2:=hr b hb
  omega) (fun x hx=>by
  obtain⟨y,hy,rfl⟩:=List.mem_map.1 hx
  have:=hr y hy
  omega)
 simpa using this
theorem DQs.add {a:AutT} {g:List Bool} {n:Nat} {Q d:List Int} (h:DQs a g n Q d) {s:Nat} (hs:s < n) {v0 v:Int} (hd:d[s]? =some v0) (hv0:v0 < 0) (v1:0≤v) (v2:v≤(Q.length:Int)) (hl:LiveG a g s):DQs a g n (Q ++ [(s:Int)]) (d.set s v):=by
 have hsd:s < d.length:=by rw [h.dl];exact hs
 refine⟨by rw [List.length_set];exact h.dl,?_,fun k x hx=>?_,fun t w hw h0=>?_⟩
 ·unfold List.Nodup
  rw [List.pairwise_append]
  refine⟨h.qn,List.pairwise_singleton _ _,fun x hx y hy e=>?_⟩
  rw [List.mem_singleton.1 hy] at e
  subst e
  obtain⟨k,hk,e⟩:=List.getElem_of_mem hx
  obtain⟨s',e1,_,w,e2,e3,_⟩:=h.qd k _ (yGe hk)
  obtain rfl:s'=s:=by omega
  rw [hd] at e2
  cases e2
  omega
 ·by_cases hk:k < Q.length
  ·rw [List.getElem?_append_left hk] at hx
   obtain⟨s',e1,e2,w,e3,e4,e5⟩:=h.qd k x hx
   refine⟨s',e1,e2,?_⟩
   rw [List.getElem?_set]
   by_cases e:s=s'
   ·subst e
    rw [hd] at e3
    cases e3
    omega
   ·rw [if_neg e]
    exact⟨w,e3,e4,e5⟩
  ·rw [List.getElem?_append_right (by omega)] at hx
   have hk2:k - Q.length=0:=by
    have:=(List.getElem?_eq_some_iff.1 hx).1
    simp at this
    omega
   rw [hk2] at hx
   cases hx
   exact⟨s,rfl,hs,v,by rw [List.getElem?_set,if_pos rfl,if_pos hsd],v1,by omega⟩
 ·rw [List.getElem?_set] at hw
  by_cases e:s=t
  ·subst e
   exact hl
  ·rw [if_neg e] at hw
   exact h.lv t w hw h0
def IncOk (a:AutT) (n:Nat) (m:List (Int×List Int)):Prop:=∀(t:Int),((kget m t).getD []).length≤a.2.2.2.length∧∀x∈(kget m t).getD [],0≤x∧x < (n:Int)∧∃e,(x,e,t)∈a.2.2.2
section
variable {a:AutT} {n:Nat} {g:List Bool} {u:List Int} {m:List (Int×List Int)}
theorem yaH (hr:Right a n) (hg:g.length=n):∃Q d,iter (yJ (a,u,m,g)) (0,[],List.replicate n (-1))=some (Q,d)∧DQs a g n Q d:=by
 have hl2:=hr.l2
 have hnl:=hr.nl
 obtain⟨o,h1,h2⟩:=ye (f:=yJ (a,u,m,g)) (fun i s=>s.1=(i:Int)∧i≤a.2.2.1.length∧DQs a g n s.2.1 s.2.2∧∀(t:Nat) (v:Int),s.2.2[t]? =some v→0≤v→∃k,k < i∧a.2.2.1[k]? =some (t:Int)) (fun o=>DQs a g n o.1 o.2) a.2.2.1.length 0 (by omega) (fun i s hi ⟨e1,_,hd,hm⟩=>by
   obtain⟨c,Q,d⟩:=s
   dsimp only at e1 hd hm
   subst e1
   have hQl:=hd.len
   have hx:=hr.msr _ (List.getElem_mem hi)
   obtain⟨t,ht⟩:∃t:Nat,a.2.2.1[i]=(t:Int):=⟨(a.2.2.1[i]).toNat,by omega⟩
   have htg:t < g.length:=by omega
   have htd:t < d.length:=by rw [hd.dl];omega
   left
   rw [yJ]
   dsimp only
   rw [if_pos (ct_lt hi),ya hi,yOb,ht,ya htg,yOb]
   cases hgb:g[t] with
   | true=>
    have hgt:g[t]? =some true:=by rw [yGe htg,hgb]
    have hneg:d[t] < 0:=by
     refine Int.not_le.1 fun h0=>?_
     obtain⟨k,hk,e⟩:=hm t _ (yGe htd) h0
     have hkl:k < a.2.2.1.length:=by omega
     rw [yGe hkl] at e
     have:=List.pairwise_iff_getElem.1 hr.msi k i hkl hi hk
     rw [Option.some.inj e,ht] at this
     omega
    rw [if_pos rfl,ya htd,yOb,y4G htd,yOb,yL (by simp;omega),yOb,yI]
    dsimp only
    rw [nxt (by omega)]
    refine⟨_,rfl,rfl,hi,hd.add (by omega) (yGe htd) hneg (Int.le_refl _) (by omega) (.mk hgt (by rw [←ht];exact List.getElem_mem hi)),fun s' v hv h0=>?_⟩
    dsimp only at hv
    rw [List.getElem?_set] at hv
    by_cases e:t=s'
    ·subst e
     exact⟨i,by omega,by rw [yGe hi,ht]⟩
    ·rw [if_neg e] at hv
     obtain⟨k,hk,e2⟩:=hm s' v hv h0
     exact⟨k,by omega,e2⟩
   | false=>
    rw [if_neg (by simp),yI]
    dsimp only
    rw [nxt (by omega)]
    refine⟨_,rfl,rfl,hi,hd,fun s' v hv h0=>?_⟩
    obtain⟨k,hk,e2⟩:=hm s' v hv h0
    exact⟨k,by omega,e2⟩) (fun s ⟨e1,_,hd,hm⟩=>by
   obtain⟨c,Q,d⟩:=s
   dsimp only at e1 hd
   subst e1
   refine⟨(Q,d),?_,hd⟩
   rw [yJ]
   dsimp only
   rw [if_neg ct_ge]) (Nat.zero_le _) (0,[],List.replicate n (-1)) ⟨rfl,Nat.zero_le _,⟨by simp,List.nodup_nil,fun k x hx=>by simp at hx,fun s v hv h0=>by
    rw [List.getElem?_replicate] at hv
    split at hv
    ·cases hv
     omega
    ·cases hv⟩,fun s v hv h0=>by
    dsimp only at hv
    rw [List.getElem?_replicate] at hv
    split at hv
    ·cases hv
     omega
    ·cases hv⟩
 exact⟨o.1,o.2,h1,h2⟩
theorem ycz (hr:Right a n) (hg:g.length=n) (hm:IncOk a n m) {i:Nat} {Q d:List Int} (hd:DQs a g n Q d) (hi:i < Q.length) (z:List Int×List Int):
  ∃Q' d',iter (yG (a,u,m,g) ((i:Int),z) Q[i]) (0,Q,d)=some (Q',d')∧DQs a g n Q' d'∧Q.length≤Q'.length:=by
 have hl3:=hr.l3
 have hnl:=hr.nl
 obtain⟨ml,mm⟩:=hm Q[i]
 obtain⟨q,hq,hqn,vq,hvq,hvq0,_⟩:=hd.qd i _ (yGe hi)
 have hlq:=hd.lv q vq hvq hvq0
 obtain⟨o,h1,h2,h3⟩:=ye (f:=yG (a,u,m,g) ((i:Int),z) Q[i]) (fun k s=>s.1=(k:Int)∧k≤((kget m Q[i]).getD []).length∧DQs a g n s.2.1 s.2.2∧Q.length≤s.2.1.length) (fun o=>DQs a g n o.1 o.2∧Q.length≤o.1.length) ((kget m Q[i]).getD []).length 0 (by omega) (fun k s hk ⟨e1,_,hd1,hle⟩=>by
   obtain⟨c,Q1,d1⟩:=s
   dsimp only at e1 hd1 hle
   subst e1
   have hQl:=hd1.len
   obtain⟨x0,x1,e,hxe⟩:=mm _ (List.getElem_mem hk)
   obtain⟨t,ht⟩:∃t:Nat,((kget m Q[i]).getD [])[k]=(t:Int):=⟨(((kget m Q[i]).getD [])[k]).toNat,by omega⟩
   rw [ht] at hxe x1
   have htg:t < g.length:=by omega
   have htd:t < d1.length:=by rw [hd1.dl];omega
   have hi1:i < Q1.length:=by omega
   have hj1:∀Q2 d2,yF ((k:Int),Q1,d1) Q2 d2=some (.inl (((k + 1:Nat):Int),Q2,d2)):=fun Q2 d2=>by
    rw [yF]
    dsimp only
    rw [nxt (by omega)]
   left
   rw [yG]
   dsimp only
   rw [if_pos (ct_lt hk),ya hk,yOb,ht,ya htg,yOb,ya htd]
   cases hgb:g[t] with
   | true=>
    have hgt:g[t]? =some true:=by rw [yGe htg,hgb]
    rw [if_pos rfl,yOb,yOb]
    by_cases hneg:d1[t] < 0
    ·obtain ⟨q1,e1,e2,v1,e3,e4,e5⟩:=hd1.qd i _ (yGe hi1)
     have hq1d:q1 < d1.length:=by rw [hd1.dl];exact e2
     have hv1:d1[q1]=v1:=by
      rw [yGe hq1d] at e3
      exact Option.some.inj e3
     rw [if_pos (by simpa using hneg),ya hi1,yOb,e1,ya hq1d,yOb,yOb,y4G htd,yOb,yL (by simp;omega),yOb,hj1]
     refine⟨_,rfl,rfl,hk,hd1.add (by omega) (yGe htd) hneg ?_ ?_ (.st (e:=e) hgt ?_ hlq),by dsimp only;simp;omega⟩
     ·rw [hv1,W_of (by omega) (by omega)];omega
     ·rw [hv1,W_of (by omega) (by omega)];omega
     ·rw [←hq]
      exact hxe
    ·rw [if_neg (by simpa using hneg),hj1]
     exact⟨_,rfl,rfl,hk,hd1,hle⟩
   | false=>
    rw [if_neg (by simp),yOb,if_neg (by simp),hj1]
    exact⟨_,rfl,rfl,hk,hd1,hle⟩) (fun s ⟨e1,_,hd1,hle⟩=>by
   obtain⟨c,Q1,d1⟩:=s
   dsimp only at e1 hd1 hle
   subst e1
   refine⟨(Q1,d1),?_,hd1,hle⟩
   rw [yG]
   dsimp only
   rw [if_neg ct_ge]) (Nat.zero_le _) (0,Q,d) ⟨rfl,Nat.zero_le _,hd,Nat.le_refl _⟩
 exact⟨o.1,o.2,h1,h2,h3⟩
theorem yap (hr:Right a n) (hg:g.length=n) (hm:IncOk a n m):∃d,yR (a,u,m,g)=some d∧d.length=n∧∀(s:Nat) (v:Int),d[s]? =some v→0≤v→LiveG a g s:=by
 have hnn:=hr.nn
 have hnl:=hr.nl
 have hf:iter (yK (List.replicate n 0)) (0,List.replicate n 0)=some (List.replicate n (-1)):=by
  obtain⟨o,g1,rfl⟩:=ye (f:=yK (List.replicate n 0)) (fun i s=>i≤n∧s=((i:Int),List.replicate i (-1) ++ List.replicate (n - i) 0)) (fun o=>o=List.replicate n (-1)) n 0 (by omega) (fun i s hi ⟨_,e1⟩=>by
    subst e1
    refine .inl ⟨(((i + 1:Nat):Int),List.replicate (i + 1) (-1) ++ List.replicate (n - (i + 1)) 0),?_,hi,rfl⟩
    rw [yK]
    dsimp only
    rw [if_pos (by simp;omega),ya (by simp;omega),yOb,y4G (by simp;omega),yOb,nxt (by omega)]
    rw [List.set_append_right _ _ (by simp),List.length_replicate,Nat.sub_self,show n - i=(n - (i + 1)) + 1 by omega,List.replicate_succ,List.set_cons_zero,List.replicate_succ',List.append_assoc]
    rfl) (fun s ⟨_,e1⟩=>by
    subst e1
    refine⟨_,?_,rfl⟩
    rw [yK]
    dsimp only
    rw [if_neg (by simp),Nat.sub_self]
    simp) (Nat.zero_le _) (0,List.replicate n 0) ⟨Nat.zero_le _,by simp⟩
  exact g1
 obtain⟨Q,d,h1,h2⟩:=yaH (u:=u) (m:=m) hr hg
 obtain⟨o,h3,h4,h5⟩:=ye (f:=yH (a,u,m,g)) (fun i s=>s.1=(i:Int)∧i≤s.2.1.length∧DQs a g n s.2.1 s.2.2) (fun o=>o.length=n∧∀(s:Nat) (v:Int),o[s]? =some v→0≤v→LiveG a g s) n 0 (by omega) (fun i s hi ⟨e1,hle,hd⟩=>by
   obtain⟨c,Q,d⟩:=s
   dsimp only at e1 hd hle
   subst e1
   by_cases hiq:i < Q.length
   ·left
    obtain⟨Q',d',w1,w2,w3⟩:=ycz (u:=u) hr hg hm hd hiq (Q,d)
    rw [yH]
    dsimp only
    rw [if_pos (ct_lt hiq),ya hiq,yOb,w1,yOb,nxt (by omega)]
    exact⟨_,rfl,rfl,by dsimp only;omega,w2⟩
   ·right
    obtain rfl:i=Q.length:=by omega
    refine⟨d,?_,hd.dl,hd.lv⟩
    rw [yH]
    dsimp only
    rw [if_neg ct_ge]) (fun s ⟨e1,hle,hd⟩=>by
   obtain⟨c,Q,d⟩:=s
   dsimp only at e1 hd hle
   subst e1
   have:=hd.len
   refine⟨d,?_,hd.dl,hd.lv⟩
   rw [yH]
   dsimp only
   rw [if_neg (by simp;omega)]) (Nat.zero_le _) (0,Q,d) ⟨rfl,Nat.zero_le _,h2⟩
 refine⟨o,?_,h4,h5⟩
 rw [yR]
 dsimp only
 rw [hnn,y6l (by omega) (by omega),yOb,Int.toNat_natCast,hf,yOb,h1,yOb,h3]
 rfl
end
theorem ybj :∀{g g':List Bool},g'.length=g.length→(∀s:Nat,g'[s]? =some true→g[s]? =some true)→g'.count true≤g.count true
 | [],[],_,_=>Nat.le_refl _
 | [],_ :: _,h,_=>by simp at h
 | _ :: _,[],h,_=>by simp at h
 | x :: g,y :: g',h,hs=>by
  have ih:=ybj (g:=g) (g':=g') (by simpa using h) fun s hs'=>hs (s + 1) (by simpa using hs')
  have h0:=hs 0
  cases y with
  | true=>
   have:x=true:=by simpa using h0 rfl
   subst this
   simp [ih]
  | false=>cases x <;> simp <;> omega
theorem ybk :∀{g g':List Bool},g'.length=g.length→(∀s:Nat,g'[s]? =some true→g[s]? =some true)→∀{s:Nat},g[s]? =some true→g'[s]? ≠some true→g'.count true < g.count true
 | [],[],_,_,s,h,_=>by simp at h
 | [],_ :: _,h,_,_,_,_=>by simp at h
 | _ :: _,[],h,_,_,_,_=>by simp at h
 | x :: g,y :: g',h,hs,0,h1,h2=>by
  have:=ybj (g:=g) (g':=g') (by simpa using h) fun s hs'=>hs (s + 1) (by simpa using hs')
  have hx:x=true:=by simpa using h1
  subst hx
  cases y with
  | true=>exact absurd rfl h2
  | false=>simp;omega
 | x :: g,y :: g',h,hs,s + 1,h1,h2=>by
  have:=ybk (g:=g) (g':=g') (by simpa using h) (fun s hs'=>hs (s + 1) (by simpa using hs')) (s:=s) (by simpa using h1) (by simpa using h2)
  have h0:=hs 0
  cases y with
  | true=>
   have hx:x=true:=by simpa using h0 rfl
   subst hx
   simp
   omega
  | false=>cases x <;> simp <;> omega
theorem yaI {L:List (Int×Int×Int×Int)} (h:∀x∈L,0≤x.1∧x.1 < 4294967296) (hl:L.length≤4294967296):∃r,y1o L=some r:=by
 unfold y1o
 by_cases h0:L= []
 ·subst h0
  rw [dif_neg (by simp),if_pos rfl]
  exact⟨_,rfl⟩
 ·rw [dif_pos ⟨h,hl,List.length_pos_iff.2 h0⟩]
  exact⟨_,rfl⟩
def RemIn (g:List Bool) (L:List (Int×Int×Int×Int)):Prop:=∀x∈L,∃s:Nat,x.1=(s:Int)∧g[s]? =some true
theorem RemIn.app {g:List Bool} {L:List (Int×Int×Int×Int)} (h:RemIn g L) {x:Int×Int×Int×Int} {s:Nat} (hx:x.1=(s:Int)) (hg:g[s]? =some true):RemIn g (L ++ [x]):=fun y hy=>by
 rcases List.mem_append.1 hy with hy | hy
 ·exact h y hy
 ·rw [List.mem_singleton.1 hy]
  exact⟨s,hx,hg⟩
section
variable {a:AutT} {n:Nat} {g:List Bool} {u:List Int} {m:List (Int×List Int)}
theorem ycA (hr:Right a n) (hg:g.length=n) (hu:u.length < 4611686018427387904) (k:Int):∃L,y2d (a,u,m,g) k=some L∧L.length≤a.2.2.2.length∧RemIn g L:=by
 have hl3:=hr.l3
 have hnl:=hr.nl
 obtain⟨o,h1,h2,h3⟩:=ye (f:=y1E (a,u,m,g) k) (fun i s=>s.1=(i:Int)∧i≤a.2.2.2.length∧s.2.length≤i∧RemIn g s.2) (fun o=>o.length≤a.2.2.2.length∧RemIn g o) a.2.2.2.length 0 (by omega) (fun i s hi ⟨e1,_,hL,hR⟩=>by
   obtain⟨c,L⟩:=s
   dsimp only at e1 hL hR
   subst e1
   have hx:=hr.es _ (List.getElem_mem hi)
   obtain⟨q,hq⟩:∃q:Nat,(a.2.2.2[i]).1=(q:Int):=⟨(a.2.2.2[i]).1.toNat,by omega⟩
   obtain⟨t,ht⟩:∃t:Nat,(a.2.2.2[i]).2.2=(t:Int):=⟨(a.2.2.2[i]).2.2.toNat,by omega⟩
   have hqg:q < g.length:=by omega
   have htg:t < g.length:=by omega
   have hj1:∀L':List (Int×Int×Int×Int),L'.length≤i + 1→RemIn g L'→∃s',yN ((i:Int),L) L'=some (.inl s')∧s'.1=((i + 1:Nat):Int)∧i + 1≤a.2.2.2.length∧s'.2.length≤i + 1∧RemIn g s'.2:=fun L' g1 g2=>by
    rw [yN]
    dsimp only
    rw [nxt (by omega)]
    exact⟨_,rfl,rfl,hi,g1,g2⟩
   have hj3:g[q]? =some true→∀b,∃s',yY k ((i:Int),L) a.2.2.2[i] b=some (.inl s')∧s'.1=((i + 1:Nat):Int)∧i + 1≤a.2.2.2.length∧s'.2.length≤i + 1∧RemIn g s'.2:=fun hgq b=>by
    rw [yY]
    cases b with
    | true=>
     rw [if_pos rfl]
     exact hj1 _ (by dsimp only;omega) hR
    | false=>
     rw [if_neg (by simp)]
     dsimp only
     rw [yL (by simp;omega),yOb]
     exact hj1 _ (by simp;omega) (hR.app hq hgq)
   left
   rw [y1E]
   dsimp only
   rw [if_pos (ct_lt hi),ya hi,yOb,hq,ya hqg,yOb]
   cases hgb:g[q] with
   | false=>
    rw [if_pos (show (!false)=true from rfl),yu,if_pos rfl]
    exact hj1 _ (by dsimp only;omega) hR
   | true=>
    have hgq:g[q]? =some true:=by rw [yGe hqg,hgb]
    rw [if_neg (by simp),ht,ya htg,yOb]
    cases g[t] with
    | true=>
     rw [if_pos rfl,yu,if_pos rfl]
     exact hj1 _ (by dsimp only;omega) hR
    | false=>
     rw [if_neg (by simp),y5g hu,yOb,yu]
     cases hasB u (a.2.2.2[i]).2.1 with
     | false=>
      rw [if_pos (show (!false)=true from rfl)]
      exact hj1 _ (by dsimp only;omega) hR
     | true=>
      rw [if_neg (by simp)]
      dsimp only
      by_cases hL0:0 < L.length
      ·rw [if_pos (by rw [decide_eq_true_eq];omega),show W ((L.length:Int) - 1)=((L.length - 1:Nat):Int) by rw [W_of (by omega) (by omega)];omega,ya (by omega),yOb]
       exact hj3 hgq _
      ·rw [if_neg (by rw [decide_eq_true_eq];omega)]
       exact hj3 hgq _) (fun s ⟨e1,_,hL,hR⟩=>by
   obtain⟨c,L⟩:=s
   dsimp only at e1 hL hR
   subst e1
   refine⟨L,?_,hL,hR⟩
   rw [y1E]
   dsimp only
   rw [if_neg ct_ge]) (Nat.zero_le _) (0,[]) ⟨rfl,Nat.zero_le _,Nat.zero_le _,fun x hx=>by cases hx⟩
 exact⟨o,by rw [y2d,h1];rfl,h2,h3⟩
theorem yaJ (hr:Right a n) (hg:g.length=n) (hm:IncOk a n m) (k:Int):∃L,y1F (a,u,m,g) k=some L∧L.length≤n∧RemIn g L∧(L= []→∀s:Nat,g[s]? =some true→LiveG a g s):=by
 have hnl:=hr.nl
 obtain⟨d,d1,d2,d3⟩:=yap (u:=u) hr hg hm
 obtain⟨o,h1,h2,h3,h4⟩:=ye (f:=y1f (a,u,m,g) k d) (fun i s=>s.1=(i:Int)∧i≤n∧s.2.length≤i∧RemIn g s.2∧(s.2= []→∀t:Nat,t < i→g[t]? =some true→LiveG a g t)) (fun o=>o.length≤n∧RemIn g o∧(o= []→∀t:Nat,t < n→g[t]? =some true→LiveG a g t)) n 0 (by omega) (fun i s hi ⟨e1,_,hL,hR,hv⟩=>by
   obtain⟨c,L⟩:=s
   dsimp only at e1 hL hR hv
   subst e1
   have hid:i < d.length:=by omega
   have hig:i < g.length:=by omega
   left
   rw [y1f]
   dsimp only
   rw [if_pos (by simp;omega),ya hid,yOb,ya hig,yOb]
   by_cases hb:g[i]=true∧d[i] < 0
   ·rw [if_pos (by simp;exact hb),yL (by simp;omega),yOb,yP]
    dsimp only
    rw [nxt (by omega)]
    exact⟨_,rfl,rfl,hi,by simp;omega,hR.app rfl (by rw [yGe hig,hb.1]),fun h=>by simp at h⟩
   ·rw [if_neg (by simp;exact fun h=>Int.not_lt.1 fun h2=>hb ⟨h,h2⟩),yP]
    dsimp only
    rw [nxt (by omega)]
    refine⟨_,rfl,rfl,hi,by dsimp only;omega,hR,fun h t ht hgt=>?_⟩
    by_cases e:t=i
    ·subst e
     refine d3 t _ (yGe hid) (Int.not_lt.1 fun h2=>hb ⟨?_,h2⟩)
     rw [yGe hig] at hgt
     exact Option.some.inj hgt
    ·exact hv h t (by omega) hgt) (fun s ⟨e1,_,hL,hR,hv⟩=>by
   obtain⟨c,L⟩:=s
   dsimp only at e1 hL hR hv
   subst e1
   refine⟨L,?_,hL,hR,hv⟩
   rw [y1f]
   dsimp only
   rw [if_neg (by simp;omega)]) (Nat.zero_le _) (0,[]) ⟨rfl,Nat.zero_le _,Nat.zero_le _,fun x hx=>by(cases hx),fun _ t ht=>absurd ht (Nat.not_lt_zero _)⟩
 refine⟨o,by rw [y1F,d1,yOb,h1];rfl,h2,h3,fun h s hs=>h4 h s ?_ hs⟩
 rw [←hg]
 exact(List.getElem?_eq_some_iff.1 hs).1
theorem y9O (hr:Right a n) (hg:g.length=n) (hm:IncOk a n m) (hu:u.length < 4611686018427387904) (k:Int):∃L,y2e (a,u,m,g) k true=some L∧L.length≤1000000∧RemIn g L∧(L= []→∀s:Nat,g[s]? =some true→LiveG a g s):=by
 have hl3:=hr.l3
 have hnl:=hr.nl
 obtain⟨L,h1,h2,h3⟩:=ycA (m:=m) hr hg hu k
 obtain⟨L',w1,w2,w3,w4⟩:=yaJ (u:=u) hr hg hm k
 rw [y2e,h1,yOb]
 by_cases h0:0 < L.length
 ·rw [if_pos (by rw [decide_eq_true (show (L.length:Int) > 0 by omega)];rfl)]
  exact⟨L,rfl,by omega,h3,fun h=>by rw [h] at h0;simp at h0⟩
 ·rw [if_neg (by rw [decide_eq_false (show ¬(L.length:Int) > 0 by omega)];simp),w1]
  exact⟨L',rfl,by omega,w3,w4⟩
theorem ybl (hr:Right a n) {f:List Int} (hf:∀x∈f,0≤x∧x < (n:Int)) (hfl:f.length≤1000000) (u:List Int):∃m g,y3u a f u=some (a,u,m,g)∧g.length=n∧IncOk a n m:=by
 have hnn:=hr.nn
 have hnl:=hr.nl
 have hl3:=hr.l3
 have h1:iter (y2n (List.replicate n false)) (0,List.replicate n false)=some (List.replicate n true):=by
  obtain⟨o,g1,rfl⟩:=ye (f:=y2n (List.replicate n false)) (fun i s=>i≤n∧s=((i:Int),List.replicate i true ++ List.replicate (n - i) false)) (fun o=>o=List.replicate n true) n 0 (by omega) (fun i s hi ⟨_,e1⟩=>by
    subst e1
    refine .inl ⟨(((i + 1:Nat):Int),List.replicate (i + 1) true ++ List.replicate (n - (i + 1)) false),?_,hi,rfl⟩
    rw [y2n]
    dsimp only
    rw [if_pos (by simp;omega),ya (by simp;omega),yOb,y4G (by simp;omega),yOb,nxt (by omega)]
    rw [List.set_append_right _ _ (by simp),List.length_replicate,Nat.sub_self,show n - i=(n - (i + 1)) + 1 by omega,List.replicate_succ,List.set_cons_zero,List.replicate_succ',List.append_assoc]
    rfl) (fun s ⟨_,e1⟩=>by
    subst e1
    refine⟨_,?_,rfl⟩
    rw [y2n]
    dsimp only
    rw [if_neg (by simp),Nat.sub_self]
    simp) (Nat.zero_le _) (0,List.replicate n false) ⟨Nat.zero_le _,by simp⟩
  exact g1
 obtain⟨g,h2,h3⟩:=ye (f:=y2U f) (fun i s=>s.1=(i:Int)∧i≤f.length∧s.2.length=n) (fun o=>o.length=n) f.length 0 (by omega) (fun i s hi ⟨e1,_,hl⟩=>by
   obtain⟨c,g⟩:=s
   dsimp only at e1 hl
   subst e1
   have hx:=hf _ (List.getElem_mem hi)
   obtain⟨t,ht⟩:∃t:Nat,f[i]=(t:Int):=⟨(f[i]).toNat,by omega⟩
   have htg:t < g.length:=by omega
   left
   rw [y2U]
   dsimp only
   rw [if_pos (ct_lt hi),ya hi,yOb,ht,ya htg,yOb,y4G htg,yOb,nxt (by omega)]
   exact⟨_,rfl,rfl,hi,by dsimp only;rw [List.length_set];exact hl⟩) (fun s ⟨e1,_,hl⟩=>by
   obtain⟨c,g⟩:=s
   dsimp only at e1 hl
   subst e1
   refine⟨g,?_,hl⟩
   rw [y2U]
   dsimp only
   rw [if_neg ct_ge]) (Nat.zero_le _) (0,List.replicate n true) ⟨rfl,Nat.zero_le _,by simp⟩
 obtain⟨m,h4,h5⟩:=ye (f:=y2T a) (fun i s=>s.1=(i:Int)∧i≤a.2.2.2.length∧∀t,((kget s.2 t).getD []).length≤i∧∀x∈(kget s.2 t).getD [],0≤x∧x < (n:Int)∧∃e,(x,e,t)∈a.2.2.2) (fun o=>IncOk a n o) a.2.2.2.length 0 (by omega) (fun i s hi ⟨e1,_,hm⟩=>by
   obtain⟨c,m⟩:=s
   dsimp only at e1 hm
   subst e1
   have hx:=hr.es _ (List.getElem_mem hi)
   obtain⟨m1,m2⟩:=hm (a.2.2.2[i]).2.2
   left
   rw [y2T]
   dsimp only
   rw [if_pos (ct_lt hi),ya hi,yOb,yL (by simp;omega),yOb,nxt (by omega)]
   refine⟨_,rfl,rfl,hi,fun t=>?_⟩
   dsimp only
   rw [y2L]
   by_cases e:t=(a.2.2.2[i]).2.2
   ·subst e
    rw [if_pos rfl,Option.getD_some]
    refine⟨by simp;omega,fun x hx'=>?_⟩
    rcases List.mem_append.1 hx' with hx' | hx'
    ·exact m2 x hx'
    ·rw [List.mem_singleton.1 hx']
     exact⟨hx.1,hx.2.1,(a.2.2.2[i]).2.1,List.getElem_mem hi⟩
   ·rw [if_neg e]
    exact⟨by have:=(hm t).1;omega,(hm t).2⟩) (fun s ⟨e1,_,hm⟩=>by
   obtain⟨c,m⟩:=s
   dsimp only at e1 hm
   subst e1
   refine⟨m,?_,hm⟩
   rw [y2T]
   dsimp only
   rw [if_neg ct_ge]) (Nat.zero_le _) (0,[]) ⟨rfl,Nat.zero_le _,fun t=>⟨by simp [kget],fun x hx=>by simp [kget] at hx⟩⟩
 refine⟨m,g,?_,h3,h5⟩
 rw [y3u,hnn,y6l (by omega) (by omega),yOb,Int.toNat_natCast,h1,yOb,h2,yOb,h4]
 rfl
theorem ybX (hn:n≤4096) (hg:g.length=n) {L:List (Int×Int×Int×Int)} (hL:RemIn g L) (hl:L.length≤1000000):∃g',iter (y1Y L) (0,g)=some g'∧g'.length=n∧(∀s:Nat,g'[s]? =some true→g[s]? =some true)∧∀(k s:Nat) (h:k < L.length),(L[k]).1=(s:Int)→g'[s]? ≠some true:=by
 obtain⟨o,h1,h2,h3,h4⟩:=ye (f:=y1Y L) (fun i s=>s.1=(i:Int)∧i≤L.length∧s.2.length=n∧(∀t:Nat,s.2[t]? =some true→g[t]? =some true)∧∀(k t:Nat) (h:k < L.length),k < i→(L[k]).1=(t:Int)→s.2[t]? ≠some true) (fun o=>o.length=n∧(∀t:Nat,o[t]? =some true→g[t]? =some true)∧∀(k t:Nat) (h:k < L.length),(L[k]).1=(t:Int)→o[t]? ≠some true) L.length 0 (by omega) (fun i s hi ⟨e1,_,q1,q2,q3⟩=>by
   obtain⟨c,g1⟩:=s
   dsimp only at e1 q1 q2 q3
   subst e1
   obtain⟨t,ht,hgt⟩:=hL _ (List.getElem_mem hi)
   have htl:t < g1.length:=by
    have:=(List.getElem?_eq_some_iff.1 hgt).1
    omega
   left
   rw [y1Y]
   dsimp only
   rw [if_pos (ct_lt hi),ya hi,yOb,ht,ya htl,yOb,y4G htl,yOb,nxt (by omega)]
   refine⟨_,rfl,rfl,hi,by dsimp only;rw [List.length_set];exact q1,fun s' hs'=>?_,fun k s' hk hki e=>?_⟩
   ·dsimp only at hs'
    rw [List.getElem?_set] at hs'
    by_cases e2:t=s'
    ·subst e2
     rw [if_pos rfl,if_pos htl] at hs'
     cases hs'
    ·rw [if_neg e2] at hs'
     exact q2 s' hs'
   ·dsimp only
    rw [List.getElem?_set]
    by_cases e2:t=s'
    ·subst e2
     rw [if_pos rfl,if_pos htl]
     simp
    ·rw [if_neg e2]
     by_cases e3:k=i
     ·subst e3
      omega
     ·exact q3 k s' hk (by omega) e) (fun s ⟨e1,_,q1,q2,q3⟩=>by
   obtain⟨c,g1⟩:=s
   dsimp only at e1 q1 q2 q3
   subst e1
   refine⟨g1,?_,q1,q2,fun k t h e=>q3 k t h h e⟩
   rw [y1Y]
   dsimp only
   rw [if_neg ct_ge]) (Nat.zero_le _) (0,g) ⟨rfl,Nat.zero_le _,hg,fun t h=>h,fun k t h hk=>absurd hk (Nat.not_lt_zero _)⟩
 exact⟨o,h1,h2,h3,h4⟩
end
section
variable {a:AutT} {n:Nat} {u f:List Int}
structure SynOk (a:AutT) (n:Nat) (g:List Bool) (r:AutT) (X:List Int):Prop where
 gl:g.length=n
 can:CanOf (stK a g) a.1 a.2.2.1 r X
 le:X.length≤n
 kept:∀s∈X,0≤s∧s < (n:Int)∧g.getD s.toNat false=true
 live:∀s:Nat,g[s]? =some true→LiveG a g s
theorem ybm (hr:Right a n) (hn:n≤40) (hf:∀x∈f,0≤x∧x < (n:Int)) (hfl:f.length≤1000000) (hu:u.length < 4611686018427387904):
  ∃z k g r X,y3i a f u true=some (z,k,r,X)∧SynOk a n g r X:=by
 obtain⟨m,g0,s1,s2,s3⟩:=ybl hr hf hfl u
 obtain⟨o1,h1,h2,h3⟩:=ye (f:=y2J f) (fun i s=>s.1=(i:Int)∧i≤f.length∧s.2.1.length≤i∧∀x∈s.2.1,0≤x.1∧x.1 < (n:Int)) (fun o=>o.1.length≤f.length∧∀x∈o.1,0≤x.1∧x.1 < (n:Int)) f.length 0 (by omega) (fun i s hi ⟨e1,_,q1,q2⟩=>by
   obtain⟨c,L,w⟩:=s
   dsimp only at e1 q1 q2
   subst e1
   left
   rw [y2J]
   dsimp only
   rw [if_pos (ct_lt hi),ya hi,yOb,yL (by simp;omega),yOb,nxt (by omega)]
   refine⟨_,rfl,rfl,hi,by simp;omega,fun x hx=>?_⟩
   dsimp only at hx
   rcases List.mem_append.1 hx with hx | hx
   ·exact q2 x hx
   ·rw [List.mem_singleton.1 hx]
    exact hf _ (List.getElem_mem hi)) (fun s ⟨e1,_,q1,q2⟩=>by
   obtain⟨c,L,w⟩:=s
   dsimp only at e1 q1 q2
   subst e1
   refine⟨(L,w),?_,q1,q2⟩
   rw [y2J]
   dsimp only
   rw [if_neg ct_ge]) (Nat.zero_le _) (0,[],0) ⟨rfl,Nat.zero_le _,Nat.zero_le _,fun x hx=>by cases hx⟩
 obtain⟨o2,h4,h5,h6,h7,h8⟩:=ye (f:=y2I true (a,u,m,g0)) (fun i s=>s.2.1.length≤1000000 + i * 1000000∧(∀x∈s.2.1,0≤x.1∧x.1 < (n:Int))∧s.2.2.2.length=n∧i + s.2.2.2.count true≤n) (fun o=>o.1.length≤100000000∧(∀x∈o.1,0≤x.1∧x.1 < (n:Int))∧o.2.2.length=n∧∀s:Nat,o.2.2[s]? =some true→LiveG a o.2.2 s) n 0 (by omega) (fun i s hi ⟨q1,q2,q3,q4⟩=>by
   obtain⟨c,L,w,g⟩:=s
   dsimp only at q1 q2 q3 q4
   obtain⟨R,r1,r2,r3,r4⟩:=y9O (u:=u) hr q3 s3 hu c
   rw [y2I]
   dsimp only
   rw [r1,yOb]
   by_cases h0:R= []
   ·right
    subst h0
    rw [if_pos (by simp)]
    exact⟨_,rfl,by dsimp only;omega,q2,q3,r4 rfl⟩
   ·left
    have hRl:0 < R.length:=List.length_pos_iff.2 h0
    obtain⟨g',w1,w2,w3,w4⟩:=ybX (n:=n) (by omega) q3 r3 r2
    rw [if_neg (by simp [h0]),w1,yOb,yL (by omega),yOb]
    obtain⟨t,ht,hgt⟩:=r3 _ (List.getElem_mem hRl)
    have hc:=ybk (by omega) w3 hgt (w4 0 t hRl ht)
    refine⟨_,rfl,by simp;omega,fun x hx=>?_,w2,by dsimp only;omega⟩
    dsimp only at hx
    rcases List.mem_append.1 hx with hx | hx
    ·exact q2 x hx
    ·obtain ⟨s',e,hs'⟩:=r3 x hx
     have:=(List.getElem?_eq_some_iff.1 hs').1
     omega) (fun s ⟨q1,q2,q3,q4⟩=>by
   obtain⟨c,L,w,g⟩:=s
   dsimp only at q1 q2 q3 q4
   obtain⟨R,r1,r2,r3,r4⟩:=y9O (u:=u) hr q3 s3 hu c
   rw [y2I]
   dsimp only
   rw [r1,yOb]
   by_cases h0:R= []
   ·subst h0
    rw [if_pos (by simp)]
    exact⟨_,rfl,by dsimp only;omega,q2,q3,r4 rfl⟩
   ·exfalso
    have hRl:0 < R.length:=List.length_pos_iff.2 h0
    obtain⟨t,ht,hgt⟩:=r3 _ (List.getElem_mem hRl)
    have:0 < g.count true:=List.count_pos_iff.2 (List.mem_of_getElem? hgt)
    omega) (Nat.zero_le _) (2,o1.1,o1.2,g0) ⟨by dsimp only;omega,h3,s2,by
    dsimp only
    have:=List.count_le_length (a:=true) (l:=g0)
    omega⟩
 obtain⟨rem,hrem⟩:=yaI (fun x hx=>by have:=h6 x hx;omega) (by omega:o2.1.length≤4294967296)
 obtain⟨d,d1,d2,d3⟩:=yap (u:=u) hr h7 s3
 obtain⟨o3,h9⟩:∃o3,iter (y1X o2 d) (0,[],[])=some o3:=by
  obtain⟨o,w,_⟩:=ye (f:=y1X o2 d) (fun i s=>s.1=(i:Int)∧i≤n∧s.2.1.length≤i∧s.2.2.length≤i) (fun o=>True) n 0 (by omega) (fun i s hi ⟨e1,_,q1,q2⟩=>by
    obtain⟨c,A,B⟩:=s
    dsimp only at e1 q1 q2
    subst e1
    have hid:i < d.length:=by omega
    have hig:i < o2.2.2.length:=by omega
    left
    rw [y1X]
    dsimp only
    rw [if_pos (by simp;omega),ya hid,yOb,ya hig,yOb]
    cases o2.2.2[i] with
    | true=>
     rw [if_pos rfl,yL (by simp;omega),yOb,yL (by simp;omega),yOb,y1W]
     dsimp only
     rw [nxt (by omega)]
     exact⟨_,rfl,rfl,hi,by simp;omega,by simp;omega⟩
    | false=>
     rw [if_neg (by simp),y1W]
     dsimp only
     rw [nxt (by omega)]
     exact⟨_,rfl,rfl,hi,by dsimp only;omega,by dsimp only;omega⟩) (fun s ⟨e1,_,q1,q2⟩=>by
    obtain⟨c,A,B⟩:=s
    dsimp only at e1 q1 q2
    subst e1
    refine⟨(A,B),?_,trivial⟩
    rw [y1X]
    dsimp only
    rw [if_neg (by simp;omega)]) (Nat.zero_le _) (0,[],[]) ⟨rfl,Nat.zero_le _,Nat.zero_le _,Nat.zero_le _⟩
  exact⟨o,w⟩
 obtain⟨r,X,x1,x2,x3,x4⟩:=ybW hr h7 (a,u,m,o2.2.2) rfl rfl
 refine⟨(o3.1,o3.2,rem),o2.2.1,o2.2.2,r,X,?_,h7,x2,x3,x4,h8⟩
 rw [y3i,s1,yOb,h1,yOb]
 dsimp only
 rw [h4,yOb,hrem,yOb,d1,yOb,h9,yOb,x1]
 rfl
theorem ycU (hr:Right a n) (hn:n≤40) (hfi:Inc f) (hf:∀x∈f,0≤x∧x < (n:Int)) (hui:Inc u) (hur:∀x∈u,0≤x∧x < 32):
  ∃z k g r X,y1O a f u=some ((z,k,r,X),0)∧SynOk a n g r X:=by
 have hfl:=y2W (n:=n) (lo:=0) hfi hf (Int.le_refl _)
 have hul:=Alp.len ⟨hui,hur⟩
 obtain⟨z,k,g,r,X,h1,h2⟩:=ybm hr hn hf (by omega) (u:=u) (by omega)
 refine⟨z,k,g,r,X,?_,h2⟩
 have hc:y3t a f u=some 0:=by
  rw [y3t,y9U hr.l1 hr.l2 hr.l3,hr.err,yOb,if_neg (by simp),hr.nn,y6S (by omega),y4R hfi hf (fun q hq=>by cases hq),yOb,if_neg (by simp),y6S (by omega),y4R hui hur (fun q hq=>by cases hq)]
  rfl
 rw [y1O,hc,yOb,if_neg (by simp),h1]
 rfl
theorem y9b (hr:Right a n) (s e:Int):y2m a s e=some ((st1 a s e).getD (-1)):=by
 have hl3:=hr.l3
 obtain⟨o,h1,h2⟩:=ye (f:=y2s a s e) (fun i c=>c=(i:Int)∧i≤a.2.2.2.length∧∀k (h:k < a.2.2.2.length),k < i→¬((a.2.2.2[k]).1=s∧(a.2.2.2[k]).2.1=e)) (fun o=>match o with
  | .inl _=>st1 a s e=none
  | .inr t=>st1 a s e=some t) a.2.2.2.length 0 (by omega) (fun i c hi ⟨e1,_,hk⟩=>by
   subst e1
   rw [y2s,if_pos (ct_lt hi),ya hi,yOb]
   by_cases hx:(a.2.2.2[i]).1=s∧(a.2.2.2[i]).2.1=e
   ·right
    rw [if_pos (by simpa using hx.1),yOb,yOb,if_pos (by simpa using hx.2),yOb]
    refine⟨_,rfl,?_⟩
    dsimp only
    rw [y2D hr,←hx.1,←hx.2]
    exact List.getElem_mem hi
   ·left
    refine⟨((i + 1:Nat):Int),?_,rfl,hi,fun k h hki=>?_⟩
    ·by_cases h1:(a.2.2.2[i]).1=s
     ·rw [if_pos (by simpa using h1),yOb,yOb,if_neg (by simpa using fun h2=>hx ⟨h1,h2⟩),nxt (by omega)]
     ·rw [if_neg (by simpa using h1),yOb,if_neg (by simp),nxt (by omega)]
    ·by_cases e:k=i
     ·subst e
      exact hx
     ·exact hk k h (by omega)) (fun c ⟨e1,_,hk⟩=>by
   subst e1
   refine⟨.inl (),by rw [y2s,if_neg ct_ge],?_⟩
   dsimp only
   cases hst:st1 a s e with
   | none=>rfl
   | some t=>
    exfalso
    obtain⟨k,h,e2⟩:=List.getElem_of_mem ((y2D hr).1 hst)
    exact hk k h h (by rw [e2];exact⟨rfl,rfl⟩)) (Nat.zero_le _) 0 ⟨rfl,Nat.zero_le _,fun k h hk=>absurd hk (Nat.not_lt_zero _)⟩
 rw [y2m,h1,yOb]
 cases o with
 | inl _=>dsimp only at h2 ⊢;rw [h2];rfl
 | inr t=>dsimp only at h2 ⊢;rw [h2];rfl
end
theorem LoopZ.few {P S p:AutT} {T:List (List Int)} {n n1 n2:Nat} (h:LoopZ P S p T n) (hP:P.2.1=(n1:Int)) (hS:S.2.1=(n2:Int)):n≤n1 * n2:=by
 rw [←h.tl]
 have hx:∀t∈T,∃x y:Nat,t= [(x:Int),(y:Int)]∧x < n1∧y < n2:=fun t ht=>by
  obtain⟨x,y,e,g1,g2,g3,g4⟩:=h.tt t ht
  exact⟨x.toNat,y.toNat,by rw [e,Int.toNat_of_nonneg g1,Int.toNat_of_nonneg g3],by omega,by omega⟩
 have:=y4S (n1 * n2) (T.map fun t=>match t with
  | [x,y]=>x.toNat * n2 + y.toNat
  | _=>0) (by
  unfold List.Nodup
  rw [List.pairwise_map]
  refine h.nd.imp_of_mem fun {s t} hs ht hst=>?_
  obtain⟨x,y,rfl,g1,g2⟩:=hx s hs
  obtain⟨x',y',rfl,g3,g4⟩:=hx t ht
  dsimp only
  rw [Int.toNat_natCast,Int.toNat_natCast,Int.toNat_natCast,Int.toNat_natCast]
  intro e
  refine hst ?_
  have e1:x=x':=by
   have a1:(x * n2 + y) / n2=x:=by rw [Nat.mul_comm,Nat.mul_add_div (by omega),Nat.div_eq_of_lt g2,Nat.add_zero]
   have a2:(x' * n2 + y') / n2=x':=by rw [Nat.mul_comm,Nat.mul_add_div (by omega),Nat.div_eq_of_lt g4,Nat.add_zero]
   rw [←a1,e,a2]
  subst e1
  have:y=y':=by omega
  rw [this]) (fun v hv=>by
  obtain⟨t,ht,rfl⟩:=List.mem_map.1 hv
  obtain⟨x,y,rfl,g1,g2⟩:=hx t ht
  dsimp only
  rw [Int.toNat_natCast,Int.toNat_natCast]
  calc x * n2 + y < x * n2 + n2:=by omega
   _=(x + 1) * n2:=by rw [Nat.succ_mul]
   _≤n1 * n2:=Nat.mul_le_mul_right _ g1)
 simpa using this
theorem ycB {q:ProbT} {n1 n:Nat} {A:AutT} {T:List (List Int)} {z:Int} (hP:Right q.1 n1) (hA:Right A n) (hu:q.2.2.length≤32) (hT:∀t∈T,∃x y,t= [x,y]) {i:Nat} (hi:i < T.length) {o:List Int} (ho:o.length≤1000000):
  ∃o',iter (y1J q (A,T,z) ((i:Int),o)) 0=some o'∧(o'=o∨o'=o ++ [(i:Int)]):=by
 obtain⟨x,y,hxy⟩:=hT _ (List.getElem_mem hi)
 obtain⟨o',h1,h2⟩:=ye (f:=y1J q (A,T,z) ((i:Int),o)) (fun j c=>c=(j:Int)∧j≤q.2.2.length) (fun o'=>o'=o∨o'=o ++ [(i:Int)]) q.2.2.length 0 (by omega) (fun j c hj ⟨e1,_⟩=>by
   subst e1
   have hj1:∀b,(∃s',y1a ((i:Int),o) (j:Int) b=some (.inl s')∧s'=((j + 1:Nat):Int)∧j + 1≤q.2.2.length)∨∃o',y1a ((i:Int),o) (j:Int) b=some (.inr o')∧(o'=o∨o'=o ++ [(i:Int)]):=fun b=>by
    rw [y1a]
    cases b with
    | true=>
     right
     rw [if_pos rfl]
     dsimp only
     rw [yL (by simp;omega)]
     exact⟨_,rfl,.inr rfl⟩
    | false=>
     left
     rw [if_neg (by simp),nxt (by omega)]
     exact⟨_,rfl,rfl,hj⟩
   rw [y1J]
   dsimp only
   rw [if_pos (ct_lt hj),ya hj,yOb,ya hi,yOb,hxy,show idx [x,y] 0=some x from rfl,yOb,y9b hP,yOb]
   split
   ·rw [y9b hA,yOb]
    exact hj1 _
   ·exact hj1 _) (fun c ⟨e1,_⟩=>by
   subst e1
   refine⟨o,?_,.inl rfl⟩
   rw [y1J]
   dsimp only
   rw [if_neg ct_ge]) (Nat.zero_le _) 0 ⟨rfl,Nat.zero_le _⟩
 exact⟨o',h1,h2⟩
theorem ycC {q:ProbT} {n1 n:Nat} {A:AutT} {T:List (List Int)} {z:Int} (hP:Right q.1 n1) (hA:Right A n) (hu:q.2.2.length≤32) (hT:∀t∈T,∃x y,t= [x,y]) (hl:T.length≤4000):
  ∃o,iter (y1b q (A,T,z)) (0,[])=some o∧Inc o∧∀x∈o,0≤x∧x < (T.length:Int):=by
 obtain⟨o,h1,h2,h3⟩:=ye (f:=y1b q (A,T,z)) (fun i s=>s.1=(i:Int)∧i≤T.length∧Inc s.2∧∀x∈s.2,0≤x∧x < (i:Int)) (fun o=>Inc o∧∀x∈o,0≤x∧x < (T.length:Int)) T.length 0 (by omega) (fun i s hi ⟨e1,_,q1,q2⟩=>by
   obtain⟨c,o⟩:=s
   dsimp only at e1 q1 q2
   subst e1
   have hol:=y2W (n:=i) (lo:=0) q1 q2 (Int.le_refl _)
   obtain⟨o',w1,w2⟩:=ycB (z:=z) hP hA hu hT hi (o:=o) (by omega)
   left
   rw [y1b]
   dsimp only
   rw [if_pos (ct_lt hi),w1,yOb,nxt (by omega)]
   refine⟨_,rfl,rfl,hi,?_⟩
   dsimp only
   rcases w2 with rfl | rfl
   ·exact ⟨q1,fun x hx=>by have:=q2 x hx;omega⟩
   ·refine ⟨?_,fun x hx=>?_⟩
    ·unfold Inc at q1 ⊢
     rw [List.pairwise_append]
     exact⟨q1,List.pairwise_singleton _ _,fun c hc b hb=>by rw [List.mem_singleton.1 hb];exact(q2 c hc).2⟩
    ·rcases List.mem_append.1 hx with hx | hx
     ·have:=q2 x hx;omega
     ·rw [List.mem_singleton.1 hx];omega) (fun s ⟨e1,_,q1,q2⟩=>by
   obtain⟨c,o⟩:=s
   dsimp only at e1 q1 q2
   subst e1
   refine⟨o,?_,q1,q2⟩
   rw [y1b]
   dsimp only
   rw [if_neg ct_ge]) (Nat.zero_le _) (0,[]) ⟨rfl,Nat.zero_le _,List.Pairwise.nil,fun x hx=>by cases hx⟩
 exact⟨o,h1,h2,h3⟩
theorem ycD {q:ProbT} {m1 m2:Nat} (h:PbOk q m1 m2) (l1:m1≤5) (l2:m2≤5):∃A T n o z k g r X,yg [q.1,q.2.1]=some (A,T,0)∧iter (y1b q (A,T,0)) (0,[])=some o∧y1O A o q.2.2=some ((z,k,r,X),0)∧LoopZ q.1 q.2.1 A T n∧n≤25∧SynOk A n g r X∧PbOk (q.1,r,q.2.2) m1 X.length:=by
 obtain⟨t,A,T,k1,k2,n,_,hk,hs⟩:=h.open
 have hL:=hk.loop
 have hn:n≤25:=Nat.le_trans (hL.few h.rP.nn h.rS.nn) (Nat.mul_le_mul l1 l2)
 have hul:=Alp.len ⟨h.iu,h.ur⟩
 obtain⟨o,o1,o2,o3⟩:=ycC (z:=0) h.rP hL.right hul (fun t ht=>by
  obtain⟨x,y,e,_⟩:=hL.tt t ht
  exact⟨x,y,e⟩) (by rw [hL.tl];exact hL.le)
 rw [hL.tl] at o3
 obtain⟨z,k,g,r,X,s1,s2⟩:=ycU hL.right (by omega) o2 o3 h.iu h.ur
 refine⟨A,T,n,o,z,k,g,r,X,hs,o1,s1,hL,hn,s2,h.rP,s2.can.right,h.l1,by have:=s2.le;omega,fun x hx=>?_,h.iu,h.ur⟩
 dsimp only at hx
 rw [s2.can.ale,hL.ev] at hx
 exact hx.elim id (h.sub x)
theorem y7F {xs:List Int} (hl:xs.length≤1000000):y2a xs xs=some true:=by
 have h:iter (y1V xs xs) 0=some (.inl ()):=by
  obtain⟨o,h1,rfl⟩:=ye (f:=y1V xs xs) (fun i s=>s=(i:Int)) (fun o=>o= .inl ()) xs.length 0 (by omega) (fun i s hi e1=>by
   subst e1
   left
   rw [y1V,if_pos (ct_lt hi),ya hi,yOb,yOb,if_neg (by simp),nxt (by omega)]
   exact⟨_,rfl,rfl⟩) (fun s e1=>by
   subst e1
   rw [y1V,if_neg ct_ge]
   exact⟨_,rfl,rfl⟩) (Nat.zero_le _) 0 rfl
  exact h1
 rw [y2a,if_neg (by simp),h]
 rfl
theorem y9V {xs:List (Int×Int×Int)} (hl:xs.length≤1000000):y3a xs xs=some true:=by
 have h:iter (y1P xs xs) 0=some (.inl ()):=by
  obtain⟨o,h1,rfl⟩:=ye (f:=y1P xs xs) (fun i s=>s=(i:Int)) (fun o=>o= .inl ()) xs.length 0 (by omega) (fun i s hi e1=>by
   subst e1
   left
   rw [y1P,if_pos (ct_lt hi),ya hi,yOb,yOb,if_neg (by simp),nxt (by omega)]
   exact⟨_,rfl,rfl⟩) (fun s e1=>by
   subst e1
   rw [y1P,if_neg ct_ge]
   exact⟨_,rfl,rfl⟩) (Nat.zero_le _) 0 rfl
  exact h1
 rw [y3a,if_neg (by simp),h]
 rfl
theorem y9W {a:AutT} {n:Nat} (hr:Right a n):y3w a a=some true:=by
 rw [y3w,if_pos (by simp),y7F hr.l1,yOb,yOb,if_pos rfl,y7F hr.l2,yOb,yOb,if_pos rfl,y9V hr.l3,yOb,yOb]
theorem yaq {al u:List Int}:∀{l d:List Int},(∀e∈l,e∈al∧e∉u∧e∉d)→l.Nodup→priE al u d l=0
 | [],_,_,_=>rfl
 | e :: l,d,h,hn=>by
  obtain⟨h1,h2,h3⟩:=h e (List.mem_cons_self ..)
  obtain⟨n1,n2⟩:=List.nodup_cons.1 hn
  have hb:∀{xs:List Int},e∉xs→¬hasB xs e=true:=fun hx hb=>hx (yb.1 hb)
  rw [priE,if_neg (by rw [yb.2 h1];simp),if_neg (hb h2),if_neg (hb h3)]
  refine yaq (fun x hx=>?_) n2
  obtain⟨g1,g2,g3⟩:=h x (List.mem_cons_of_mem _ hx)
  refine⟨g1,g2,fun hm=>?_⟩
  rcases List.mem_append.1 hm with hm | hm
  ·exact g3 hm
  ·rw [List.mem_singleton.1 hm] at hx
   exact n1 hx
theorem yar {P S p:AutT} {T:List (List Int)} {n1 n2:Nat} (hP:Right P n1) (hS:Right S n2) (b1:n1≤40) (b2:n2≤40) (hs:yg [P,S]=some (p,T,0)) {a:Nat} {x y:Int} (ha:T[a]? =some [x,y]):(a:Int)∈p.2.2.1↔x∈P.2.2.1∧y∈S.2.2.1:=by
 by_cases h0:n1=0∨n2=0
 ·obtain ⟨p',T',n,e,h⟩:=y9L hP hS b1 b2
  rw [hs] at e
  cases e
  have e1:=hP.nn
  have e2:=hS.nn
  have:n=0:=h.zero.2 (by omega)
  have:=h.tl
  have:=(List.getElem?_eq_some_iff.1 ha).1
  omega
 ·have hL:LOkB 40 [P,S]:=⟨by simp,fun a ha=>by
   rcases List.mem_cons.1 ha with rfl | ha
   ·exact ⟨n1,by omega,b1,hP⟩
   ·rw [List.mem_singleton.1 ha];exact⟨n2,by omega,b2,hS⟩,by omega,by
   show 40 ^ 2≤4000
   decide⟩
  obtain⟨m,p',T',n,h1,h2,h3,h⟩:=y9K hL
  rw [hs] at h3
  cases h3
  obtain⟨o1,o2,e1,g1,g2⟩:=y7W hP hS
  rw [h1] at e1
  cases e1
  obtain⟨b,hb1,hb2⟩:=h.mkd a _ ha
  rw [←hb2]
  have l1:=hP.l2
  have l2:=hS.l2
  have hm:yj ([P,S],mg (fun a b=>a || b) P.1 S.1,[o1,o2]) [x,y]=some (hasB P.2.2.1 x && hasB S.2.2.1 y):=by
   rw [yj]
   have hl:iter (yi ([P,S],mg (fun a b=>a || b) P.1 S.1,[o1,o2]) [x,y]) 0=some (if (hasB P.2.2.1 x && hasB S.2.2.1 y)=true then .inl () else .inr ()):=by
    cases hx:hasB P.2.2.1 x with
    | false=>
     refine y3q (n:=1) (by omega) ?_
     rw [yc,yi]
     dsimp only
     rw [if_pos (by simp),show idx [P,S] 0=some P from rfl,yOb,show idx [x,y] 0=some x from rfl,yOb,y2f (by omega) hP.msi,yOb,hx,if_pos (by rfl)]
     rfl
    | true=>
     refine y3q (n:=3) (by omega) ?_
     rw [yc,yi]
     dsimp only
     rw [if_pos (by simp),show idx [P,S] 0=some P from rfl,yOb,show idx [x,y] 0=some x from rfl,yOb,y2f (by omega) hP.msi,yOb,hx,if_neg (by simp)]
     dsimp only
     rw [yc,yi]
     dsimp only
     rw [show W (0 + 1)=1 from rfl,if_pos (by simp),show idx [P,S] 1=some S from rfl,yOb,show idx [x,y] 1=some y from rfl,yOb,y2f (by omega) hS.msi,yOb]
     cases hy:hasB S.2.2.1 y with
     | false=>
      rw [if_pos (by rfl)]
      rfl
     | true=>
      rw [if_neg (by simp)]
      dsimp only
      rw [yc,yi]
      dsimp only
      rw [show W (1 + 1)=2 from rfl,if_neg (by simp)]
      rfl
   rw [hl,yOb]
   cases hasB P.2.2.1 x && hasB S.2.2.1 y <;> rfl
  rw [hm] at hb1
  cases hb1
  rw [Bool.and_eq_true,yb,yb]
theorem ybY {p:AutT} {n:Nat} (hr:Right p n) (hn:Num (edsOf p) n):CanOf (st1 p) p.1 p.2.2.1 p ((List.range n).map fun i:Nat=>(i:Int)):=by
 have hg:∀(a:Nat) (t:Int),((List.range n).map fun i:Nat=>(i:Int))[a]? =some t↔a < n∧t=(a:Int):=fun a t=>by
  rw [List.getElem?_map]
  by_cases h:a < n
  ·rw [List.getElem?_range h]
   simp [h,eq_comm]
  ·rw [List.getElem?_eq_none (by simpa using h)]
   simp [h]
 have hel:(edsOf p).length=p.2.2.2.length:=by simp [edsOf]
 have hee:∀i (hi:i < p.2.2.2.length),(edsOf p)[i]'(by rw [hel];exact hi)=toEd p.2.2.2[i]:=fun i hi=>by simp [edsOf]
 refine⟨by rw [List.length_map,List.length_range];exact hr,rfl,fun h=>(hg 0 0).2 ⟨by simpa using h,rfl⟩,⟨?_,hr.so,fun x hx=>?_,fun a t e r ha he hst=>?_,fun k h0 h1=>?_,fun i hi k h0 h1=>?_,fun i hi hf=>?_,hr.alr⟩,fun i s hs=>?_⟩
 ·unfold List.Nodup
  rw [List.pairwise_map]
  exact(List.nodup_range (n:=n)).imp fun h e=>h (by omega)
 ·have he:=hr.es x hx
  obtain⟨a,h1⟩:∃a:Nat,x.1=(a:Int):=⟨x.1.toNat,by omega⟩
  obtain⟨b,h2⟩:∃b:Nat,x.2.2=(b:Int):=⟨x.2.2.toNat,by omega⟩
  refine⟨a,b,(a:Int),(b:Int),h1,h2,(hg _ _).2 ⟨by omega,rfl⟩,(hg _ _).2 ⟨by omega,rfl⟩,he.2.2.2.2,?_⟩
  rw [y2D hr,←h1,←h2]
  exact hx
 ·obtain ⟨_,rfl⟩:=(hg a t).1 ha
  have:=y4T hr hst
  obtain⟨b,rfl⟩:∃b:Nat,r=(b:Int):=⟨r.toNat,by omega⟩
  exact⟨b,(y2D hr).1 hst,(hg _ _).2 ⟨by omega,rfl⟩⟩
 ·rw [List.length_map,List.length_range] at h1
  obtain⟨x,hx,ht⟩:=hn.cov k h0 h1
  obtain⟨y,hy,rfl⟩:=List.mem_map.1 hx
  exact⟨y,hy,ht⟩
 ·obtain ⟨j,hj,h3,h4⟩:=hn.ear i (by omega) k h0 (by rw [hee i hi];exact h1)
  exact⟨j,by omega,h3,by rw [hee j (by omega)] at h4;exact h4⟩
 ·have:=hn.fst i (by omega) (fun j hj hji=>by
   rw [hee j (by omega),hee i hi]
   exact hf j (by omega) hji)
  rw [hee i hi] at this
  exact this
 ·obtain ⟨_,rfl⟩:=(hg i s).1 hs
  exact Iff.rfl
section
variable {q:ProbT} {t:TaskT} {p:AutT} {T:List (List Int)} {n1 n2 n:Nat}
theorem ybn {a:AutT} {m:Nat} (hr:Right a m) {x:Ed} (hx:x∈edsOf a):st1 a x.f x.e=some x.t:=by
 obtain⟨y,hy,rfl⟩:=List.mem_map.1 hx
 rw [y2D hr]
 exact hy
def Inv2 (T TA:List (List Int)) (X:List Int) (k:Nat):Prop:=∃(x y:Int) (j s:Nat),T[k]? =some [x,(j:Int)]∧X[j]? =some (s:Int)∧TA[s]? =some [x,y]
theorem ycE {P S0 A r:AutT} {TA:List (List Int)} {nA:Nat} {g:List Bool} {X:List Int} (hA:LoopZ P S0 A TA nA) (hS:SynOk A nA g r X) (hP0:∀e,e∈S0.1→e∈P.1) {nP:Nat} (hP:Right P nP) (h:TaskOk (P,r,q.2.2) t p T n1 n2 n) {k k':Nat} {e:Int} (hk:Inv2 T TA X k) (hst:st1 p (k:Int) e=some (k':Int)):Inv2 T TA X k':=by
 obtain⟨x,y,j,s,e1,e2,e3⟩:=hk
 have hpe:=y4T h.loop.right hst
 have heP:e∈P.1:=(h.evP e).1 hpe.2.2.2.2
 have heA:e∈A.1:=(hA.ev e).2 (.inl heP)
 have her:e∈r.1:=by rw [hS.can.ale];exact heA
 cases hp:pst P r x (j:Int) e with
 | none=>
  have:=h.loop.no k x (j:Int) e e1 hpe.2.2.2.2 hp
  rw [hst] at this
  cases this
 | some u=>
  obtain⟨k2,w1,w2⟩:=h.loop.yes k x (j:Int) e u.1 u.2 e1 hpe.2.2.2.2 hp
  rw [hst] at w1
  have:k'=k2:=by have:=Option.some.inj w1;omega
  subst this
  unfold pst at hp
  rw [if_pos (yb.2 heP),if_pos (yb.2 her)] at hp
  obtain⟨x',q1,q2⟩:=Option.bind_eq_some_iff.1 hp
  obtain⟨j',q3,q4⟩:=Option.map_eq_some_iff.1 q2
  subst q4
  obtain⟨a,b,sa,sb,z1,z2,z3,z4,z5,z6⟩:=hS.can.disc.sn _ ((y2D hS.can.right).1 q3)
  dsimp only at z1 z2 z5 z6
  have:a=j:=by omega
  subst this
  rw [e2] at z3
  cases z3
  subst z2
  obtain⟨z7,_⟩:=(y5S hA.right).1 z6
  have z8:=(y2D hA.right).2 z7
  have z9:=y4T hA.right z8
  obtain⟨s',rfl⟩:∃s':Nat,sb=(s':Int):=⟨sb.toNat,by omega⟩
  cases hp2:pst P S0 x y e with
  | none=>
   have:=hA.no s x y e e3 heA hp2
   rw [z8] at this
   cases this
  | some v=>
   obtain⟨s2,v1,v2⟩:=hA.yes s x y e v.1 v.2 e3 heA hp2
   rw [z8] at v1
   have:s'=s2:=by have:=Option.some.inj v1;omega
   subst this
   unfold pst at hp2
   rw [if_pos (yb.2 heP),q1,yOb] at hp2
   obtain⟨y',_,v4⟩:=Option.map_eq_some_iff.1 hp2
   subst v4
   exact⟨x',y',b,s',w2,z4,v2⟩
theorem ybZ {P S0 A r:AutT} {TA:List (List Int)} {nA:Nat} {g:List Bool} {X:List Int} (hA:LoopZ P S0 A TA nA) (hS:SynOk A nA g r X) (hP0:∀e,e∈S0.1→e∈P.1) {nP:Nat} (hP:Right P nP) (h:TaskOk (P,r,q.2.2) t p T n1 n2 n):∀k,k < n→Inv2 T TA X k:=by
 intro k
 induction k using Nat.strongRecOn with
 | ind k ih=>
  intro hk
  by_cases h0:k=0
  ·subst h0
   have hX:0 < X.length:=by
    have hz:=h.loop.zero
    dsimp only at hz
    rw [h.rS.nn] at hz
    have e:=hS.can.right.nn
    have e2:=h.rS.nn
    dsimp only at e2
    rw [e] at e2
    have:¬(n2:Int)=0:=fun hc=>by have:=hz.2 (.inr hc);omega
    omega
   have hx0:=hS.can.x0 hX
   have hs0:=(hS.kept 0 (List.mem_of_getElem? hx0)).2.1
   exact⟨0,0,0,0,h.loop.t0 (by omega),hx0,hA.t0 (by omega)⟩
  ·obtain ⟨x,hm,_,ht,hf0,hfk,_⟩:=h.loop.num.step (k:=k) (by omega) hk
   obtain⟨f,hf⟩:∃f:Nat,x.f=(f:Int):=⟨x.f.toNat,by omega⟩
   have hst:=ybn h.loop.right hm
   rw [hf,ht] at hst
   exact ycE hA hS hP0 hP h (ih f (by omega) (by omega)) hst
theorem ybo {P S0 A r:AutT} {TA:List (List Int)} {nA:Nat} {g:List Bool} {X:List Int} (hA:LoopZ P S0 A TA nA) (hS:SynOk A nA g r X) (hP0:∀e,e∈S0.1→e∈P.1) {nP:Nat} (hP:Right P nP) (h:TaskOk (P,r,q.2.2) t p T n1 n2 n)
  (mA:∀{a:Nat} {x y:Int},TA[a]? =some [x,y]→((a:Int)∈A.2.2.1↔x∈P.2.2.1∧y∈S0.2.2.1)) (mp:∀{a:Nat} {x y:Int},T[a]? =some [x,y]→((a:Int)∈p.2.2.1↔x∈P.2.2.1∧y∈r.2.2.1)):∀k:Nat,k < n→LiveS p (k:Int):=by
 have key:∀s:Nat,LiveG A g s→∀(k:Nat) (x y:Int) (j:Nat),T[k]? =some [x,(j:Int)]→X[j]? =some (s:Int)→TA[s]? =some [x,y]→LiveS p (k:Int):=by
  intro s hs
  induction hs with
  | mk hg hm=>
   intro k x y j e1 e2 e3
   have h1:=(mA e3).1 hm
   have h2:=(hS.can.mkd j _ e2).2 hm
   exact⟨0,(mp e1).2 ⟨h1.1,h2⟩⟩
  | st hg hed hl ih=>
   rename_i s s' e
   intro k x y j e1 e2 e3
   have hg':g[s']? =some true:=by cases hl with | mk h _=>exact h | st h _ _=>exact h
   have z8:=(y2D hA.right).2 hed
   have heA:=(y4T hA.right z8).2.2.2.2
   have heP:e∈P.1:=((hA.ev e).1 heA).elim id (hP0 e)
   have her:e∈r.1:=by rw [hS.can.ale];exact heA
   have hk2:stK A g (s:Int) e=some (s':Int):=(y5S hA.right).2 ⟨hed,by rw [Int.toNat_natCast,List.getD_eq_getElem?_getD,hg'];rfl⟩
   obtain⟨j',q1,q2⟩:=hS.can.disc.ed j _ e _ e2 heA hk2
   cases hp2:pst P S0 x y e with
   | none=>
    have:=hA.no s x y e e3 heA hp2
    rw [z8] at this
    cases this
   | some v=>
    obtain⟨s2,v1,v2⟩:=hA.yes s x y e v.1 v.2 e3 heA hp2
    rw [z8] at v1
    have:s'=s2:=by have:=Option.some.inj v1;omega
    subst this
    have hpx:st1 P x e=some v.1:=by
     unfold pst at hp2
     rw [if_pos (yb.2 heP)] at hp2
     obtain⟨x',w1,w2⟩:=Option.bind_eq_some_iff.1 hp2
     obtain⟨_,_,w3⟩:=Option.map_eq_some_iff.1 w2
     rw [w1,←w3]
    have hpr:pst P r x (j:Int) e=some (v.1,(j':Int)):=by
     unfold pst
     rw [if_pos (yb.2 heP),hpx,yOb,if_pos (yb.2 her),(y2D hS.can.right).2 q1]
     rfl
    obtain⟨k',w1,w2⟩:=h.loop.yes k x (j:Int) e v.1 (j':Int) e1 ((h.evP e).2 heP) hpr
    obtain⟨m,hm⟩:=ih k' v.1 v.2 j' w2 q2 v2
    exact⟨m + 1,toEd ((k:Int),e,(k':Int)),List.mem_map_of_mem ((y2D h.loop.right).1 w1),rfl,hm⟩
 intro k hk
 obtain⟨x,y,j,s,e1,e2,e3⟩:=ybZ hA hS hP0 hP h k hk
 have hkp:=hS.kept _ (List.mem_of_getElem? e2)
 have hg:g[s]? =some true:=by
  have:=hkp.2.2
  rw [Int.toNat_natCast,List.getD_eq_getElem?_getD] at this
  cases hq:g[s]? with
  | none=>rw [hq] at this;cases this
  | some b=>rw [hq] at this;rw [show b=true from this]
 exact key s (hS.live s hg) k x y j e1 e2 e3
end
theorem ybp {d:Des26} {q:ProbT} (h:y1L d=some q):yk d.2.2=some q.2.2:=by
 rw [y1L] at h
 obtain⟨r1,h1,h⟩:=Option.bind_eq_some_iff.1 h
 obtain⟨r2,h2,h⟩:=Option.bind_eq_some_iff.1 h
 obtain⟨r3,h3,h⟩:=Option.bind_eq_some_iff.1 h
 obtain⟨r4,h4,h⟩:=Option.bind_eq_some_iff.1 h
 obtain⟨r5,h5,h⟩:=Option.bind_eq_some_iff.1 h
 obtain⟨r6,h6,h⟩:=Option.bind_eq_some_iff.1 h
 cases h
 exact h6
theorem y9X {d:Des26} (hd:Des26In d):∃q0 m1 m2 A TA nA g r X,y2V d true=some (q0.1,r,q0.2.2)∧PbOk q0 m1 m2∧m1≤5∧m2≤5∧(∀x∈q0.1.1,0≤x∧x < 5)∧yk d.2.2=some q0.2.2∧yg [q0.1,q0.2.1]=some (A,TA,0)∧LoopZ q0.1 q0.2.1 A TA nA∧nA≤25∧SynOk A nA g r X∧PbOk (q0.1,r,q0.2.2) m1 X.length:=by
 obtain⟨q,n1,n2,h1,h2,h3,h4,h5⟩:=ybi hd
 obtain⟨A,T,n,o,z,k,g,r,X,s1,s2,s3,s4,s5,s6,s7⟩:=ycD h2 h3 h4
 refine⟨q,n1,n2,A,T,n,g,r,X,?_,h2,h3,h4,h5,ybp h1,s1,s4,s5,s6,s7⟩
 rw [y2V,h1,yOb,if_neg (by simp),s1,yOb]
 dsimp only
 rw [s2,yOb,s3]
 rfl
theorem ycF {us vs:List Int} (hu:Inc us) (hv:Inc vs) (e:Int):e∈mg (fun a b=>a && !b) us vs↔e∈us∧e∉vs:=by
 rw [(y2X (fun a b=>a && !b) us vs hu hv).2,Bool.and_eq_true,yb,Bool.not_eq_true',←Bool.not_eq_true,yb]
 exact⟨fun h=>h.2,fun h=>⟨.inl h.1,h⟩⟩
theorem yc0 {b:Int} (b0:0≤b):∃k u,0≤k∧b.tmod 5=k∧yk (IntKind.u8.wrap (((BitVec.ofInt 8 31 &&& ~~~ BitVec.ofInt 8 (IntKind.u8.wrap (1 * 2 ^ (min k.toNat 8)))).toNat:Int)))=some u∧∀x,0≤x→x < 5→x∉u→x=k:=by
 have e:b.tmod 5=b % 5:=Int.tmod_eq_emod_of_nonneg b0
 have h1:=Int.emod_nonneg b (show (5:Int)≠0 by omega)
 have h2:=Int.emod_lt_of_pos b (show (0:Int) < 5 by omega)
 rw [←e] at h1 h2
 have hc:b.tmod 5=0∨b.tmod 5=1∨b.tmod 5=2∨b.tmod 5=3∨b.tmod 5=4:=by omega
 have fin:∀{u:List Int} {k:Int},(∀y:Int,y=0∨y=1∨y=2∨y=3∨y=4→y∉u→y=k)→∀x,0≤x→x < 5→x∉u→x=k:=fun h x h0 h5 hn=>h x (by omega) hn
 rcases hc with hc | hc | hc | hc | hc
 ·exact ⟨0,[1,2,3,4],by omega,hc,by kernel_rfl,fin fun y hy hn=>by rcases hy with rfl | rfl | rfl | rfl | rfl <;> simp at hn ⊢⟩
 ·exact ⟨1,[0,2,3,4],by omega,hc,by kernel_rfl,fin fun y hy hn=>by rcases hy with rfl | rfl | rfl | rfl | rfl <;> simp at hn ⊢⟩
 ·exact ⟨2,[0,1,3,4],by omega,hc,by kernel_rfl,fin fun y hy hn=>by rcases hy with rfl | rfl | rfl | rfl | rfl <;> simp at hn ⊢⟩
 ·exact ⟨3,[0,1,2,4],by omega,hc,by kernel_rfl,fin fun y hy hn=>by rcases hy with rfl | rfl | rfl | rfl | rfl <;> simp at hn ⊢⟩
 ·exact ⟨4,[0,1,2,3],by omega,hc,by kernel_rfl,fin fun y hy hn=>by rcases hy with rfl | rfl | rfl | rfl | rfl <;> simp at hn ⊢⟩
theorem yc1 {l:List Int} {e:Int} (h1:l.length≤1) (he:e∈l):l= [e]:=by
 match l,he,h1 with
 | [a],he,_=>rw [List.mem_singleton.1 he]
 | _ :: _ :: _,_,h1=>simp at h1
theorem ycG {l:List Int} {k:Int} (h:∀e∈l,e=k) (hn:l.Nodup):l.length≤1:=by
 match l,h,hn with
 | [],_,_=>simp
 | [_],_,_=>simp
 | a :: b :: _,h,hn=>
  have e1:=h a (by simp)
  have e2:=h b (by simp)
  rw [List.nodup_cons] at hn
  exact absurd (by rw [e1,←e2];simp) hn.1
theorem yaK {d:Des26} (hd:Des26In d) {b:Int} (b0:0≤b):y2z d b=some true:=by
 rw [y2z,ycy,yOb,if_neg (by simp)]
 obtain⟨ke,u,k0,hk,hev,hall⟩:=yc0 b0
 rw [hk,show ng ke=some () from if_neg (by omega),yOb]
 generalize hv:IntKind.u8.wrap (((BitVec.ofInt 8 31 &&& ~~~ BitVec.ofInt 8 (IntKind.u8.wrap (1 * 2 ^ (min ke.toNat 8)))).toNat:Int))=v at *
 obtain⟨q0,m1,m2,A,TA,nA,g,r,X,hM,hP0,l1,l2,hal,hev2,hsA,hLA,hnA,hSyn,hP⟩:=y9X (d:=(d.1,d.2.1,v)) ⟨hd.g1,hd.g2⟩
 dsimp only at hev2
 rw [hev] at hev2
 obtain rfl:u=q0.2.2:=Option.some.inj hev2
 rw [hM,yOb]
 obtain⟨t,p,T,n1,n2,n,ho,h,hs⟩:=hP.open
 have hR:=h.loop.right
 have hle:=h.loop.le
 have hul:=Alp.len ⟨h.iu,h.ur⟩
 have hll:=ycF h.rP.ali h.iu
 have hmi:=y2X (fun a b=>a && !b) q0.1.1 q0.2.2 h.rP.ali h.iu
 rw [y7p h.rP.l1 (by have:=hul;dsimp only at this ⊢;omega),yOb]
 generalize hl:mg (fun a b=>a && !b) q0.1.1 q0.2.2=l at *
 have hone:∀e∈l,e=ke:=fun e he=>by
  obtain⟨h1,h2⟩:=(hll e).1 he
  exact hall e (hal e h1).1 (hal e h1).2 h2
 have hnd:l.Nodup:=by
  have:=hmi.1
  unfold Inc at this
  exact this.imp fun h e=>by omega
 have hl1:l.length≤1:=ycG hone hnd
 have hw:=ycx h ho (l:=l) (by omega)
 rw [if_pos (yaq (fun e he=>⟨((hll e).1 he).1,((hll e).1 he).2,List.not_mem_nil⟩) hnd)] at hw
 obtain⟨g',r',X',hg',hgr,hr⟩:=y9c h l (by omega)
 obtain⟨ui,ul,um⟩:=h.uni
 have hcan:CanOf (st1 p) p.1 p.2.2.1 r' X':=hr.can.congr fun s _ e he=>by
  unfold stR
  have heP:e∈q0.1.1:=(h.evP e).1 he
  by_cases hu:e∈q0.2.2
  ·rw [if_pos (by rw [yb.2 ((um e).2 ⟨heP,hu⟩)];simp)]
  ·have hel:e∈l:=(hll e).2 ⟨heP,hu⟩
   have hle2:l= [e]:=yc1 hl1 hel
   cases hst:st1 p s e with
   | none=>exact ite_self _
   | some w=>
    have hcz:chz p l s=e:=by
     rw [hle2]
     unfold chz
     rw [List.find?_cons_of_pos (by rw [hst];rfl)]
     rfl
    rw [if_pos (by rw [hcz,beq_self_eq_true,Bool.true_or])]
 have hself:=ybY hR h.loop.num
 have hrr:=hcan.unique hself (by rw [hr.zero,hR.nn,List.length_map,List.length_range];omega)
 obtain rfl:=hrr.1
 have hRes:y3v (q0.1,r,q0.2.2) l=some (r',0):=by
  rw [y3v,hw,yOb,if_neg (by simp),yOb,hg',yOb,hgr.1]
 have hlive:=ybo hLA hSyn hP0.sub hP0.rP h (fun ha=>yar hP0.rP hP0.rS hP0.l1 hP0.l2 hsA ha) (fun ha=>yar hP.rP hP.rS hP.l1 hP.l2 hs ha)
 obtain⟨bl,hb1,hb2,hb3⟩:=ybe hgr hR
 obtain⟨ri,hi1,hi2⟩:=yaF (xs:=bl) (b:=false) (by omega)
 have hri:ri= -1:=by
  rcases hi2 with ⟨e,_⟩ | ⟨k,hk,rfl,hk1,hk2⟩
  ·exact e
  ·have:=(hb3 k (by omega)).2 (hlive k (by omega))
   rw [yGe hk,hk1] at this
   cases this
 have hCh:y3d (q0.1,r,q0.2.2) l=some ((0,[],[]),true,0):=by
  rw [y3d,hw,yOb,if_neg (by simp),yOb,hg',yOb,hb1,yOb,hi1,yOb,hri,if_neg (by simp)]
 rw [hRes,yOb,hCh,yOb,y3S,hs,yOb,yOb]
 dsimp only
 rw [if_pos (by simp;omega),y9W hR,yOb,yOb,if_pos (by rfl),ycT,yOb,yOb]
end Go.Proofs.YtecmobjeeonmaaaGreatDoor
namespace Go.Proofs.YtecmobjeeonmaaaGreatDoor
open Go Go.RowKit Go.ChangeShapes Go.WideShapes Go.Deep
def Op (P:Program) {α:Type} (r:Rep α) (Q:α→Prop) (t:TypeId):Prop:=
 ∀(H:Type) (enc:TypeId×Value→H) (w:World) (fuel:Nat) (cs:List Value) (x:DataW H×List MemPlace),DataW.trod enc P w 0 (fun _=>true) true fuel t cs=some x→∃y:α,r.rd ⟨w,fun _=>0⟩ cs y∧Q y
section
variable {P:Program} {α β:Type} {r:Rep α} {q:Rep β} {Q:α→Prop} {R:β→Prop} {t e:TypeId}
theorem ycV {w:World} {base:Nat} {v:Value} {fs:Array Field} {ts:List TypeId} (ht:P.underlying t=some (.struct fs)) (hts:P.cellTypes P.depth t=some ts) (hsz:P.cellsOf t=ts.length) (hok:Value.okWide P w .any base t v):
  ∃cs,v= .agg cs∧cs.size=ts.length∧∀(i:Nat) (u:TypeId),ts[i]? =some u→∃c:Value,cs[i]? =some c∧Cell.okWide P w .any base u c:=by
 simp only [Value.okWide,ht] at hok
 obtain⟨cs,rfl,h1,ts',h2,h3,h4⟩:=hok
 rw [hts] at h2
 cases h2
 refine⟨cs,rfl,by omega,fun i u hu=>?_⟩
 have hlt:i < ts.length:=(List.getElem?_eq_some_iff.1 hu).1
 obtain⟨u',g1,g2⟩:=h4 i cs[i] (Array.getElem?_eq_getElem (by omega))
 rw [Nat.mod_eq_of_lt hlt,hu] at g1
 cases g1
 exact⟨_,Array.getElem?_eq_getElem (by omega),g2⟩
end
end Go.Proofs.YtecmobjeeonmaaaGreatDoor
namespace Go.Proofs.YtecmobjeeonmaaaGreatDoor
open Go Go.ChangeShapes Go.WideShapes Go.ChangeAt Go.RowKit Go.Deep
theorem Fw.law {P:Program} {f:FuncId} {ts:List TV} (h:Fw P f ⟨0,[]⟩ ts [] (.b true) []) {w:World} {vs:List Value} (ha:All3 (fun _=> .bool false) ⟨w,fun _=>0⟩ ts vs):Calls P f vs.toArray w fun e w'=>e= .returned (.bool true)∧Below w.heap.size w w':=
 Calls.mono (h.is [] (fun _=> .bool false) ⟨w,fun _=>0⟩ vs rfl (Nat.le_refl _) List.nodup_nil (fun t ht=>by cases ht) ha (fun i o h=>by simp at h)) fun e W' ⟨v,s',hw,he,hm,β',_,hv,_⟩=>by
  obtain⟨hv,_⟩:=hv
  subst hw
  subst hv
  exact⟨he,(hm.weak (S':=No) fun t ⟨i,hi,_⟩=>by cases hi).below⟩
theorem All3.c {β:Nat→Value} {s:Sig} {x:TV} {xs:List TV} {v:Value} {us:List Value} (h:x.p β s v) (h2:All3 β s xs us):All3 β s (x :: xs) (v :: us):=⟨v,us,h,h2,rfl⟩
theorem yaL {α:Type} [Inhabited α] {n:Nat} {p:Nat→α→Prop} (h:∀i,i < n→∃x,p i x):∃f:Nat→α,∀i,i < n→p i (f i):=
 ⟨fun i=>if hi:i < n then Classical.choose (h i hi) else default,fun i hi=>by
  dsimp only
  rw [dif_pos hi]
  exact Classical.choose_spec (h i hi)⟩
abbrev ycW :=(Int×y1M)×(Int×y1M)×Int
def pbT :List TypeId:=[22] ++ List.replicate 27 5 ++ [22] ++ List.replicate 27 5 ++ [22]
theorem yc2 :Tryz.prog.cellTypes Tryz.prog.depth 30=some pbT:=by kernel_rfl
theorem yc3 :Tryz.prog.cellsOf 30=pbT.length:=by kernel_rfl
section
variable {H:Type} {enc:TypeId×Value→H} {w:World} {base:Nat} {v:Value} {d:DataW H} {ps:List MemPlace}
/-- A described problem. -/
theorem ybq (hok:Value.okWide Tryz.prog w .any base 30 v):∃x:ycW,GrIn x.1.2∧GrIn x.2.1.2∧∀β s,(TV.a (lx30 x)).p β s v:=by
 obtain⟨cs,rfl,h1,h2⟩:=ycV Tryz.underlying30 yc2 yc3 hok
 have h1':cs.size=57:=h1
 obtain⟨f,hf⟩:=yaL (α:=Int) (n:=57) (p:=fun i n=>cs[i]? =some (.int .u8 n)∧0≤n∧n < 256) (fun i hi=>by
  obtain⟨u,hu,hu2⟩:∃u,pbT[i]? =some u∧(u=22∨u=5):=by
   refine⟨pbT[i]'hi,yGe (l:=pbT) hi,?_⟩
   have:=List.getElem_mem (l:=pbT) hi
   generalize pbT[i]'hi=u at this
   simp only [pbT,List.mem_append,List.mem_singleton,List.mem_replicate] at this
   rcases this with (((h | h) | h) | h) | h
   ·exact .inl h
   ·exact .inr h.2
   ·exact .inl h
   ·exact .inr h.2
   ·exact .inl h
  obtain⟨c,g1,g2⟩:=h2 i u hu
  have g2':Cell.okWide Tryz.prog w .any base 5 c:=by
   rcases hu2 with rfl | rfl
   ·simp only [Cell.okWide,Cell.ok,Tryz.underlying22,Tryz.underlying5] at g2 ⊢
    exact g2
   ·exact g2
  obtain⟨n,rfl,g3⟩:∃n:Int,c= .int .u8 n∧0≤n∧n < 256:=by
   simp only [Cell.okWide,Tryz.underlying5] at g2'
   cases c <;> simp_all [Cell.ok]
   rename_i k n
   obtain⟨rfl,h2⟩:=g2'
   simp [IntKind.has,IntKind.min,IntKind.max,IntKind.signed,IntKind.bits] at h2
   omega
  exact⟨n,g1,g3⟩)
 have hcs:cs=((List.range 57).map fun i=>Value.int .u8 (f i)).toArray:=by
  apply Array.ext_getElem?
  intro i
  by_cases hi:i < 57
  ·rw [(hf i hi).1];simp [hi]
  ·rw [Array.getElem?_eq_none (by omega),Array.getElem?_eq_none (by simp;omega)]
 have gr:∀o,o + 27≤57→GrIn (f o,f (o + 1),((f (o + 2),f (o + 3),f (o + 4),f (o + 5),f (o + 6)),(f (o + 7),f (o + 8),f (o + 9),f (o + 10),f (o + 11)),(f (o + 12),f (o + 13),f (o + 14),f (o + 15),f (o + 16)),(f (o + 17),f (o + 18),f (o + 19),f (o + 20),f (o + 21)),(f (o + 22),f (o + 23),f (o + 24),f (o + 25),f (o + 26)))):=fun o ho=>by
  refine⟨(hf o (by omega)).2,fun y hy=>?_⟩
  have hy2:y∈(List.range 25).map fun i=>f (o + (i + 2)):=hy
  obtain⟨i,hi,rfl⟩:=List.mem_map.1 hy2
  have:=List.mem_range.1 hi
  exact(hf (o + (i + 2)) (by omega)).2
 refine⟨((f 0,f 1,f 2,((f 3,f 4,f 5,f 6,f 7),(f 8,f 9,f 10,f 11,f 12),(f 13,f 14,f 15,f 16,f 17),(f 18,f 19,f 20,f 21,f 22),(f 23,f 24,f 25,f 26,f 27))),(f 28,f 29,f 30,((f 31,f 32,f 33,f 34,f 35),(f 36,f 37,f 38,f 39,f 40),(f 41,f 42,f 43,f 44,f 45),(f 46,f 47,f 48,f 49,f 50),(f 51,f 52,f 53,f 54,f 55))),f 56),gr 1 (by omega),gr 29 (by omega),fun β s=>?_⟩
 refine⟨((List.range 57).map fun i=>Value.int .u8 (f i)),?_,by rw [hcs]⟩
 exact y6n (cs:=(List.range 57).map fun i=>Value.int .u8 (f i)) (List.all_eq_true.2 fun x hx=>by
  obtain⟨i,_,rfl⟩:=List.mem_map.1 hx
  rfl)
end
section
variable {H:Type} {enc:TypeId×Value→H} {w:World} {base:Nat} {v:Value} {d:DataW H} {ps:List MemPlace}
theorem ycX (hok:Value.okWide Tryz.prog w .any base 5 v):∃n:Int,v= .int .u8 n∧0≤n:=by
 simp only [Value.okWide,Tryz.underlying5] at hok
 simp only [Cell.okWide,Tryz.underlying5] at hok
 cases v <;> simp_all [Cell.ok]
 rename_i k n
 obtain⟨rfl,h2⟩:=hok
 simp [IntKind.has,IntKind.min,IntKind.max,IntKind.signed,IntKind.bits] at h2
 omega
end
theorem Tryz.own :ownKnob Tryz.prog.godebug=none:=by kernel_rfl
theorem Tryz.laidOut :laidOutB Tryz.prog=true:=by kernel_rfl
section
variable {H:Type} {enc:TypeId×Value→H}
def y9P (P:Program) (ts:List TypeId):Bool:=ts.all fun t=>P.readableRec t && decide (t < P.types.size)
theorem y6X {P:Program} (hl:laidOutB P=true) {W W':World} (hb:Below W.heap.size W W') {sp:Nat→Bool}:∀{ts:List TypeId} {vs:List Value} {ds:List (DataW H)} {ps:List MemPlace},y9P P ts=true→
  DataW.TrodAll enc P W 0 (fun _=>true) true ts vs ds ps→(∀x∈ps,x.block < W.heap.size)→(∀x∈ps,sp x.block=true)→DataW.TrodAll enc P W' 0 sp true ts vs ds ps
 | [],[],[],_,_,h,_,_=>h
 | [],_ :: _,_,_,_,h,_,_=>h.elim
 | [],[],_ :: _,_,_,h,_,_=>h.elim
 | t :: ts,[],_,_,_,h,_,_=>h.elim
 | t :: ts,_ :: _,[],_,_,h,_,_=>h.elim
 | t :: ts,v :: vs,d :: ds,ps,hc,⟨p,q,h1,h2,e⟩,hlt,hsp=>by
  subst e
  unfold y9P at hc
  rw [List.all_cons,Bool.and_eq_true,Bool.and_eq_true] at hc
  exact⟨p,q,WideElems.Trod_stays hl hc.1.1 (of_decide_eq_true hc.1.2) h1 (fun x hx=>hb.same (hlt x (List.mem_append_left _ hx))) (fun x hx=>hsp x (List.mem_append_left _ hx)),
   y6X hl hb hc.2 h2 (fun x hx=>hlt x (List.mem_append_right _ hx)) (fun x hx=>hsp x (List.mem_append_right _ hx)),rfl⟩
theorem yc4 {P:Program} (hl:laidOutB P=true) {f:Func} {s:ChangeSpec} {apart fresh handsOn again:Bool} {W W':World} {args:Array Value} {ds:List (DataW H)} {before:List MemPlace} {tb:TypeId} {b:Bool}
  (hW:DataW.Whole enc P f.params.toList s.vars apart W args.toList ds [] before) (hv:s.vars= []) (hc:y9P P f.params.toList=true) (hrt:f.resultTypes= #[tb]) (ht:P.underlying tb=some .bool)
  (hr:(s.fn H (ds ++ [])).results= [.lit (.bool b)]) (ha:(s.fn H (ds ++ [])).args=ds) (hvn:(s.fn H (ds ++ [])).vars= []) (hb:Below W.heap.size W W'):
  s.post enc P f apart fresh handsOn again W args (.bool b) W':=by
 have hlt:∀p∈before,p.block < W.heap.size:=fun p hp=>hW.lt p hp
 have hWc:=hW
 obtain⟨p,q,hA,hV,rfl,hz,hn⟩:=hWc
 rw [hv] at hV
 obtain⟨-,rfl⟩:=trodVars_none hV
 rw [List.append_nil] at hlt hz hn
 have hargs:∀sp:Nat→Bool,(∀x∈p,sp x.block=true)→DataW.TrodAll enc P W' 0 sp true f.params.toList args.toList (s.fn H (ds ++ [])).args p:=fun sp hsp=>by
  rw [ha];exact y6X hl hb hc hA hlt hsp
 have hres:∀(b0:Nat) (sp:Nat→Bool) (hd:Bool),DataW.TrodAll enc P W' b0 sp hd f.resultTypes.toList ((Value.bool b).resultList f.resultTypes.size) (s.fn H (ds ++ [])).results []:=fun _ _ _=>by
  rw [hr,hrt];exact trodAll_mk1 (shut_bool ht b)
 have hvars:∀sp:Nat→Bool,DataW.TrodVars enc P W' sp s.vars (s.fn H (ds ++ [])).vars []:=fun sp=>by rw [hv,hvn];rfl
 have hold:∀x∈p,(fun b=>decide (b < W.heap.size)) x.block=true:=fun x hx=>by simpa using hlt x hx
 refine⟨ds,[],p ++ [],[],p,[],hW,hres _ _ _,hargs _ hold,hvars _,World.keptBut_mono (fun x hx=>?_) (hb.frame (· ∈p)),fun _=>?_⟩
 ·exact ⟨by rwa [List.append_nil],Or.inr (.inl hx)⟩
 ·have hok:=ok_one (f:=f) (W':=W') (by rw [hrt]) rfl (okWide_bool_mk (W':=W') ht b)
  refine⟨hok,_,_,([] ++ p) ++ [],⟨[] ++ p,[],trodAll_append (hargs _ (fun _ _=>rfl)) (hres _ _ _),hvars _,rfl,?_,?_⟩,?_⟩
  ·intro b0 off hp
   have hin:MemPlace.cell b0 off∈p:=by simpa using hp
   rw [hb.frozen (hlt _ hin)]
   exact hz b0 off hin
  ·intro hap
   simpa using hn hap
  ·intro x hx _
   simpa using hx
end
def lay24 : List (String × DataW Unit) := [("math/bits.deBruijn32tab", Rows.laid_math_bits_deBruijn32tab), ("math/bits.deBruijn64tab", Rows.laid_math_bits_deBruijn64tab), ("internal/strconv.uint64pow10", Rows.laid_internal_strconv_uint64pow10)]
theorem ybr (os:Os) (args:Array Value):laidMetH Tryz.prog lay24 ((World.laidAll Tryz.prog os lay24).forCall (fun _ _=>0) ⟨#[],args,[]⟩).memory:=
 laidMetH_of_parts3 (fuel:=8) (laidMet_laidAll args (by kernel_rfl) (by kernel_rfl)) (by kernel_rfl) (by kernel_rfl)
theorem y7x (os:Os) (started:os.Started) (H:Type) (enc:TypeId×Value→H):
  ReturnsInHanded {} Tryz.checked os 3 .any (fun w args=>(Rows.scanSingleSpec.pre enc Tryz.prog Tryz.f3 [] false w args∧laidMetH Tryz.prog lay24 w)∧sizedMet enc Tryz.prog Tryz.f3 (OpenSpec.ofChange Rows.scanSingleSpec) false w args) (Rows.scanSingleSpec.post enc Tryz.prog Tryz.f3 false true false false):=by
 refine returnsInHanded_of_change_and (C:=Tryz.checked) (X:=fun w _=>laidMetH Tryz.prog lay24 w) (fun _ _ _ hh h=>h.of_heap hh) Tryz.own started (by kernel_rfl) Tryz.func3
  (ChangeSpec.witness_shaped (enc:=enc) (C:=Tryz.checked) (os:=os) (X:=fun w _=>laidMetH Tryz.prog lay24 w) false (World.laidAll Tryz.prog os lay24) #[.agg (Array.replicate 57 (.int .u8 0)),.int .u8 0] 8 (World.laidAll_os _ _ _) (World.shaped_of_ZipB (by kernel_rfl) (by kernel_rfl)) (by kernel_rfl) (by kernel_rfl) (by kernel_rfl) (ybr os _)) ?_
 intro W base args ds gs before hval0 hW _ _ _ _
 have hval:∀(j:Nat) t v,Tryz.f3.params[j]? =some t→args[j]? =some v→Value.okWide Tryz.prog W .any base t v:=hval0
 have hW':=hW
 obtain⟨p,q,hA0,hV,rfl,hfz,hnd⟩:=hW
 have hA:DataW.TrodAll enc Tryz.prog W 0 (fun _=>true) true Tryz.f3.params.toList args.toList ds p:=hA0
 rw [Tryz.params3] at hA hval
 obtain⟨v0,v1,d0,d1,p0,p1,rfl,rfl,rfl,h0,h1⟩:=trodAll_two hA
 obtain⟨x,g1,g2,r0⟩:=ybq (hval 0 30 v0 rfl rfl)
 obtain⟨b,rfl,b0⟩:=ycX (hval 1 5 v1 rfl rfl)
 obtain⟨rfl,rfl⟩:=trodVars_none hV
 clear hA0 hval0
 refine Calls.mono ((y5f (yaK (d:=x) ⟨g1,g2⟩ b0)).law (All3.c (r0 _ _) (All3.c ⟨rfl,rfl⟩ rfl))) fun e W' ⟨he,hbl⟩=>?_
 subst he
 exact⟨_,rfl,yc4 Tryz.laidOut hW' rfl (by kernel_rfl) (by kernel_rfl) Tryz.underlying4 rfl rfl rfl hbl⟩
end Go.Proofs.YtecmobjeeonmaaaGreatDoor
namespace Go.Proofs.YtecmobjeeonmaaaGreatDoor
open Go Go.RowKit
set_option maxRecDepth 100000
theorem ycH :Tryz.prog.stopsHeard=true:=by kernel_rfl
theorem ycI :Tryz.prog.mayEnter=true:=by kernel_rfl
theorem ycJ :(laidOutB Tryz.prog && mapsRowed Tryz.prog)=true:=by kernel_rfl
theorem ycK :(Tryz.prog.stops == [])=true:=by kernel_rfl
theorem yc5 :(Tryz.prog.stopKnobs == [])=true:=by kernel_rfl
theorem yc6 :false=Tryz.prog.looks []:=by kernel_rfl
end Go.Proofs.YtecmobjeeonmaaaGreatDoor
namespace Go.Proofs.YtecmobjeeonmaaaGreatDoor
open Go Go.ChangeShapes Go.WideShapes Go.ChangeAt Go.RowKit Go.Deep
theorem y9d :(Rows.scanSingleRow.inPlace == Tryz.prog.inPlace 3)=true:=by kernel_rfl
theorem y9e :(Rows.scanSingleRow.unfollowed == Tryz.prog.unfollowed 3)=true:=by kernel_rfl
theorem y9f :(Rows.scanSingleRow.recurses == Tryz.prog.recurses 3)=true:=by kernel_rfl
theorem y9g :(Rows.scanSingleRow.named == Tryz.prog.varsNamed 3)=true:=by kernel_rfl
theorem y9h :(Rows.scanSingleRow.lifted == Tryz.prog.liftsFinal)=true:=by kernel_rfl
theorem y7y :joinedFacts Tryz.prog 3 Tryz.f3 Rows.scanSingleSpec Rows.scanSingleRow=true:=by
 have h8:=ycJ
 rw [Bool.and_eq_true] at h8
 unfold joinedFacts
 rw [h8.1,h8.2,y9d,y9e,y9f,y9g,y9h,ycH,ycI,ycK,yc5]
 change (_:Bool)=true
 kernel_rfl
theorem y7Y :Rows.ScanSingleSaid:=
 OpenClaim.holds_of_wide 3 Tryz.f3 rfl rfl rfl rfl rfl rfl rfl ⟨rfl,rfl,rfl,rfl,rfl⟩ rfl rfl rfl rfl rfl (by kernel_rfl) Tryz.func3 y7y
  (of_decide_eq_true (by kernel_rfl)) (by unfold Func.isWrapper;first | (rw [if_pos (by decide +kernel)];kernel_rfl) | (rw [if_neg (by decide +kernel)];exact⟨rfl,rfl⟩))
  (fun os started H enc _=>y7x os started H enc)
theorem scanSingle_k12 :false=Rows.scanSingleRow.goesBy Tryz.prog:=by kernel_rfl
theorem scanSingle_k13 : Tryz.prog.funcNamed "overseer/overseerlaw54.ScanSingle" = some 3 := by kernel_rfl
theorem scanSingle_k14 :(Tryz.f3.params.toList.all fun u=>!(Tryz.prog.wantsStandIn u))=true:=by kernel_rfl
theorem scanSingle_k15 :Rows.scanSingleRow.wfByText (OpenSpec.ofChange Rows.scanSingleSpec)=true:=by kernel_rfl
theorem scanSingle_card_holds :Rows.ScanSingleCardSaid:=
 Claim7.holds_tied_plain_at .later [] [.data,.data,.data] true _ false
  y7Y (fun _ h=>by cases h) scanSingle_k15 (fun _ h=>by cases h) scanSingle_row_tie rfl ⟨rfl,rfl⟩ (by kernel_rfl) rfl
  (fun f fn hf hfn=>by
   obtain rfl:f=3:=Option.some.inj (scanSingle_k13.symm.trans hf) |>.symm
   obtain rfl:fn=Tryz.f3:=(Option.some.inj (Tryz.func3.symm.trans hfn)).symm
   exact⟨yc6,fun j t ht=>by
    have hm:t∈Tryz.f3.params:=Array.mem_of_getElem? ht
    exact(show Tryz.prog.wantsStandIn t=false by simpa using List.all_eq_true.1 scanSingle_k14 t (Array.mem_toList_iff.2 hm))⟩)
  scanSingle_k12
end Go.Proofs.YtecmobjeeonmaaaGreatDoor
