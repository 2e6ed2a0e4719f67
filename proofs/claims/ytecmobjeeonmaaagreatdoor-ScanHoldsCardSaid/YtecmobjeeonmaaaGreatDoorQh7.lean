/- ScanHolds returns true for all arguments, and leaves its arguments as they were. The condition: three tables of Go's library (math/bits, internal/strconv) hold what their source text lays, and the card ties this to the text. -/
import Derived.Deep.Slices
import Derived.ChangeSame
import Derived.ProofKit
import Derived.Test.YtecmobjeeonmaaaGreatDoorRows
import Derived.Test.YtecmobjeeonmaaaGreatDoorTie
import Derived.Test.YtecmobjeeonmaaaGreatDoorCards
import Derived.Test.YtecmobjeeonmaaaGreatDoorProg
import Derived.Lay
import Derived.LaidMore
import Derived.LaidHandle
import Derived.SevenTiedAt
import Derived.Stop.Joined
import Derived.Test.YtecmobjeeonmaaaGreatDoorQh6
set_option maxRecDepth 100000
namespace Go.Proofs.YtecmobjeeonmaaaGreatDoor
open Go Go.RowKit
theorem y9u {τ:Type} {st:τ→Int→Option τ}:∀{u:List Int} {t:τ} {e:Int},stw st t (u ++ [e])=(stw st t u).bind fun r=>st r e
 | [],t,e=>by
  rw [List.nil_append,stw,stw,yOb]
  cases st t e <;> rfl
 | x :: u,t,e=>by
  rw [List.cons_append,stw,stw]
  cases h:st t x with
  | none=>rfl
  | some r=>
   rw [yOb,yOb,y9u]
def IsRun (P:AutT) (U:List Int) (x:Int) (w:List Int) (y:Int):Prop:=stw (st1 P) x w=some y∧(∀e∈w,e∈U)∧w.Nodup
theorem IsRun.snoc {P:AutT} {U:List Int} {x y y' e:Int} {w:List Int} (h:IsRun P U x w y) (he:e∈U) (hn:e∉w) (hs:st1 P y e=some y'):IsRun P U x (w ++ [e]) y':=by
 obtain⟨h1,h2,h3⟩:=h
 refine⟨by rw [y9u,h1,yOb,hs],fun z hz=>?_,?_⟩
 ·rcases List.mem_append.1 hz with hz | hz
  ·exact h2 z hz
  ·rw [List.mem_singleton.1 hz];exact he
 ·rw [List.nodup_append]
  refine⟨h3,by simp,fun a ha b hb e=>?_⟩
  rw [List.mem_singleton.1 hb] at e
  rw [e] at ha
  exact hn ha
theorem IsRun.of_snoc {P:AutT} {U:List Int} {x y' e:Int} {w:List Int} (h:IsRun P U x (w ++ [e]) y'):∃y,IsRun P U x w y∧e∈U∧e∉w∧st1 P y e=some y':=by
 obtain⟨h1,h2,h3⟩:=h
 rw [y9u] at h1
 obtain⟨y,g1,g2⟩:=Option.bind_eq_some_iff.1 h1
 rw [List.nodup_append] at h3
 exact⟨y,⟨g1,fun z hz=>h2 z (List.mem_append_left _ hz),h3.1⟩,h2 e (by simp),fun hm=>h3.2.2 e hm e (by simp) rfl,g2⟩
structure BR (P:AutT) (U:List Int) (x:Int) (z i:Nat) (A:List (Int×List Int)):Prop where
 run:∀r∈A,IsRun P U x r.2 r.1
 len:∀r∈A,r.2.length≤z
 so:A.Pairwise fun r r'=>wval r.2 < wval r'.2
 root:(x,([]:List Int))∈A
 clo:∀(j:Nat) (r:Int×List Int),j < i→A[j]? =some r→r.2.length < z→∀e∈U,e∉r.2→∀y,st1 P r.1 e=some y→(y,r.2 ++ [e])∈A
 bd:∀(j:Nat) (r:Int×List Int),i≤j→A[j]? =some r→∀q∈A,wval q.2≤33 * wval r.2
theorem BR.next {P:AutT} {U:List Int} {x:Int} {z i:Nat} {A:List (Int×List Int)} (h:BR P U x z i A) {r:Int×List Int} (hi:A[i]? =some r) (hr:z≤r.2.length):BR P U x z (i + 1) A:=
 ⟨h.run,h.len,h.so,h.root,fun j r' hj ej hl=>by
  by_cases e:j=i
  ·subst e
   rw [hi] at ej
   cases ej
   omega
  ·exact h.clo j r' (by omega) ej hl,fun j r' hj=>h.bd j r' (by omega)⟩
theorem BR.all {P:AutT} {U:List Int} {x:Int} {z:Nat} {A:List (Int×List Int)} (h:BR P U x z A.length A) (w:List Int):∀y,IsRun P U x w y→w.length≤z→(y,w)∈A:=by
 refine y8c (P:=fun w=>∀y,IsRun P U x w y→w.length≤z→(y,w)∈A) (fun y hy _=>?_) (fun v e ih y hy hl=>?_) w
 ·have:some x=some y:=hy.1
  cases this
  exact h.root
 ·obtain ⟨y',g1,g2,g3,g4⟩:=hy.of_snoc
  rw [List.length_append,List.length_singleton] at hl
  obtain⟨j,hj,e2⟩:=List.getElem_of_mem (ih y' g1 (by omega))
  exact h.clo j (y',v) hj (by rw [yGe hj,e2]) (by dsimp only;omega) e g2 g3 y g4
structure BuL (P:AutT) (U:List Int) (x:Int) (z:Nat) (bs:List (List Int)):Prop where
 mem:∀b,b∈bs↔(∃y,IsRun P U x b y)∧2≤b.length∧b.length≤z
 so:bs.Pairwise fun b b'=>wval b < wval b'
section
variable {q:ProbT} {t:TaskT} {p:AutT} {T:List (List Int)} {n1 n2 n:Nat}
theorem ycT (h:TaskOk q t p T n1 n2 n) {x:Int} {z c:Nat} {out:List (List Int)} {l:List (Int×List Int)} {r:Int×List Int} (hc:l[c]? =some r) (hz:r.2.length < z) (hz3:z≤3) (hl:l.length≤1000000) (hB:BR q.1 t.2.2.2.2.1 x z c l):
  ∃l',iter (yB t ((c:Int),out,l)) (0,l)=some l'∧BR q.1 t.2.2.2.2.1 x z (c + 1) l':=by
 obtain⟨ui,ul,um⟩:=h.uni
 obtain⟨U,hU⟩:∃U,U=t.2.2.2.2.1:=⟨_,rfl⟩
 rw [←hU] at ui ul um hB ⊢
 have hcl:c < l.length:=(List.getElem?_eq_some_iff.1 hc).1
 have hUr:∀i (hi:i < U.length),0≤U[i]∧U[i] < 32:=fun i hi=>h.rP.alr _ ((um _).1 (List.getElem_mem hi)).1
 obtain⟨w,y,rfl⟩:∃w y,r=(y,w):=⟨r.2,r.1,rfl⟩
 dsimp only at hz
 have hcm:(y,w)∈l:=List.mem_of_getElem? hc
 obtain⟨A',h1,⟨N,hN⟩,h3,h4,h5,h6,h7⟩:=yb (f:=yB t ((c:Int),out,l))
  (fun k s=>s.1=(k:Int)∧k≤U.length∧(∃N,s.2=l ++ N∧N.length≤k)∧(∀r∈s.2,IsRun q.1 U x r.2 r.1)∧(∀r∈s.2,r.2.length≤z)∧(s.2.Pairwise fun r r'=>wval r.2 < wval r'.2)∧
   (∀k' (h:k' < U.length),k≤k'→∀r∈s.2,wval r.2 < 33 * wval w + U[k'] + 1)∧(∀k' (h:k' < U.length),k' < k→U[k']∉w→∀y',st1 q.1 y U[k']=some y'→(y',w ++ [U[k']])∈s.2)∧∀r∈s.2,wval r.2≤33 * wval w + 32)
  (fun o=>(∃N,o=l ++ N)∧(∀r∈o,IsRun q.1 U x r.2 r.1)∧(∀r∈o,r.2.length≤z)∧(o.Pairwise fun r r'=>wval r.2 < wval r'.2)∧
   (∀k' (h:k' < U.length),U[k']∉w→∀y',st1 q.1 y U[k']=some y'→(y',w ++ [U[k']])∈o)∧∀r∈o,wval r.2≤33 * wval w + 32)
  U.length 0 (by omega) (fun k s hk ⟨e1,_,⟨N,hN,hNl⟩,q1,q2,q3,q4,q5,q6⟩=>by
   obtain⟨c',B⟩:=s
   dsimp only at e1 hN q1 q2 q3 q4 q5 q6
   subst e1
   have hur:=hUr k hk
   have hiB:B[c]? =some (y,w):=by rw [hN,List.getElem?_append_left hcl];exact hc
   have hwB:(y,w)∈B:=List.mem_of_getElem? hiB
   have hBl:B.length≤1000032:=by rw [hN,List.length_append];omega
   -- an event that is passed over
   have hskip:(U[k]∉w→st1 q.1 y U[k]=none)→∃s',yA ((k:Int),B) B=some (.inl s')∧s'.1=((k + 1:Nat):Int)∧k + 1≤U.length∧(∃N,s'.2=l ++ N∧N.length≤k + 1)∧(∀r∈s'.2,IsRun q.1 U x r.2 r.1)∧(∀r∈s'.2,r.2.length≤z)∧(s'.2.Pairwise fun r r'=>wval r.2 < wval r'.2)∧
     (∀k' (h:k' < U.length),k + 1≤k'→∀r∈s'.2,wval r.2 < 33 * wval w + U[k'] + 1)∧(∀k' (h:k' < U.length),k' < k + 1→U[k']∉w→∀y',st1 q.1 y U[k']=some y'→(y',w ++ [U[k']])∈s'.2)∧∀r∈s'.2,wval r.2≤33 * wval w + 32:=fun hn=>by
    rw [yA]
    dsimp only
    rw [nxt (by omega)]
    refine⟨_,rfl,rfl,hk,⟨N,hN,by omega⟩,q1,q2,q3,fun k' hk' hkk=>q4 k' hk' (by omega),fun k' hk' hkk hnw y' hy'=>?_,q6⟩
    by_cases e:k'=k
    ·subst e
     rw [hn hnw] at hy'
     cases hy'
    ·exact q5 k' hk' (by omega) hnw y' hy'
   left
   rw [yB,←hU]
   dsimp only
   rw [if_pos (ct_lt hk),ya hk,yOb,y5L,hiB,yOb,to_eq h.g1,yOb]
   dsimp only
   cases hst:st1 q.1 y U[k] with
   | none=>
    rw [Option.getD_none,if_neg (by simp),yOb,if_neg (by simp)]
    exact hskip fun _=>hst
   | some y'=>
    have hy':=y4M h.rP hst
    rw [Option.getD_some,if_pos (by simp;omega),yOb,y4V (by show w.length < _;omega),yOb,yOb]
    cases hh:hasB w U[k] with
    | true=>
     rw [if_neg (by simp)]
     exact hskip fun hn=>absurd (yc.1 hh) hn
    | false=>
     have hnw:U[k]∉w:=fun hm=>by
      rw [yc.2 hm] at hh
      cases hh
     rw [if_pos (by rfl),yOb,y5K (by show w.length≤_;omega),yOb,yl (by simp;omega),yOb,yl (by simp;omega),yOb,yA]
     dsimp only
     rw [nxt (by omega)]
     have hwv:wval (w ++ [U[k]])=33 * wval w + U[k] + 1:=y5R _ _
     refine⟨_,rfl,rfl,hk,⟨N ++ [(y',w ++ [U[k]])],by dsimp only;rw [hN,List.append_assoc],by simp;omega⟩,fun r hr'=>?_,fun r hr'=>?_,?_,fun k' hk' hkk r hr'=>?_,fun k' hk' hkk hnw' y2 hy2=>?_,fun r hr'=>?_⟩
     ·rcases List.mem_append.1 hr' with hr' | hr'
      ·exact q1 r hr'
      ·rw [List.mem_singleton.1 hr']
       exact(q1 _ hwB).snoc (List.getElem_mem hk) hnw hst
     ·rcases List.mem_append.1 hr' with hr' | hr'
      ·exact q2 r hr'
      ·rw [List.mem_singleton.1 hr'];simp;omega
     ·dsimp only
      rw [List.pairwise_append]
      refine⟨q3,List.pairwise_singleton _ _,fun r hr' r' hr2=>?_⟩
      rw [List.mem_singleton.1 hr2]
      dsimp only
      rw [hwv]
      exact q4 k hk (Nat.le_refl _) r hr'
     ·rcases List.mem_append.1 hr' with hr' | hr'
      ·exact q4 k' hk' (by omega) r hr'
      ·rw [List.mem_singleton.1 hr']
       dsimp only
       rw [hwv]
       have:=List.pairwise_iff_getElem.1 ui k k' hk hk' (by omega)
       omega
     ·by_cases e:k'=k
      ·subst e
       rw [hst] at hy2
       cases hy2
       exact List.mem_append_right _ (List.mem_singleton.2 rfl)
      ·exact List.mem_append_left _ (q5 k' hk' (by omega) hnw' y2 hy2)
     ·rcases List.mem_append.1 hr' with hr' | hr'
      ·exact q6 r hr'
      ·rw [List.mem_singleton.1 hr']
       dsimp only
       rw [hwv]
       omega) (fun s ⟨e1,_,⟨N,hN,_⟩,q1,q2,q3,q4,q5,q6⟩=>by
   obtain⟨c',B⟩:=s
   dsimp only at e1 hN q1 q2 q3 q4 q5 q6
   subst e1
   refine⟨B,?_,⟨N,hN⟩,q1,q2,q3,fun k' hk'=>q5 k' hk' hk',q6⟩
   rw [yB,←hU]
   dsimp only
   rw [if_neg ct_ge]) (Nat.zero_le _) (0,l) ⟨rfl,Nat.zero_le _,⟨[],(List.append_nil _).symm,Nat.le_refl _⟩,hB.run,hB.len,hB.so,fun k' hk' _ r hr'=>by
    have:=hB.bd c _ (Nat.le_refl _) hc r hr'
    have:=hUr k' hk'
    dsimp only at *
    omega,fun k' hk' h=>absurd h (Nat.not_lt_zero _),fun r hr'=>by
    have:=hB.bd c _ (Nat.le_refl _) hc r hr'
    dsimp only at *
    omega⟩
 have hcA:A'[c]? =some (y,w):=by rw [hN,List.getElem?_append_left hcl];exact hc
 refine⟨A',h1,⟨h3,h4,h5,by rw [hN];exact List.mem_append_left _ hB.root,fun j r hj ej hlz e he hne y2 hy2=>?_,fun j r hij hj q hq=>?_⟩⟩
 ·by_cases e2:j=c
  ·subst e2
   rw [hcA] at ej
   cases ej
   obtain⟨k,hk,rfl⟩:=List.getElem_of_mem he
   exact h6 k hk hne y2 hy2
  ·rw [hN,List.getElem?_append_left (by omega)] at ej
   rw [hN]
   exact List.mem_append_left _ (hB.clo j r (by omega) ej hlz e he hne y2 hy2)
 ·obtain ⟨hj1,hj2⟩:=List.getElem?_eq_some_iff.1 hj
  obtain⟨hi1,hi2⟩:=List.getElem?_eq_some_iff.1 hcA
  have:=List.pairwise_iff_getElem.1 h5 c j hi1 hj1 (by omega)
  rw [hi2,hj2] at this
  have:=h7 q hq
  dsimp only at *
  omega
theorem yc9 (h:TaskOk q t p T n1 n2 n) {k:Nat} {x y:Int} (hk:T[k]? =some [x,y]) {z:Nat} (hz:z≤3):∃bs,y3b t (k:Int) (z:Int)=some bs∧bs.length≤40000∧BuL q.1 t.2.2.2.2.1 x z bs:=by
 have hp:=yeB hz
 obtain⟨o,h1,h2,l,h3,h4⟩:=yb (f:=y3a t (z:Int)) (fun i s=>s.1=(i:Int)∧i≤s.2.2.length∧i + potL z (s.2.2.drop i)≤pot z∧s.2.1.length≤i∧s.2.1=((s.2.2.take i).filter fun r=>decide (1 < r.2.length)).map Prod.snd∧BR q.1 t.2.2.2.2.1 x z i s.2.2) (fun o=>o.length≤40000∧∃l:List (Int×List Int),o=(l.filter fun r=>decide (1 < r.2.length)).map Prod.snd∧BR q.1 t.2.2.2.2.1 x z l.length l) (pot z) 0 (by omega) (fun i s hi ⟨e1,g0,g1,g3,g4,g5⟩=>by
   obtain⟨c,out,l⟩:=s
   dsimp only at e1 g0 g1 g3 g4 g5
   subst e1
   have g2:=g5.len
   have hll:l.length≤pot z:=by
    have:=y9r z (l.drop i)
    rw [List.length_drop] at this
    omega
   rw [y3a]
   dsimp only
   by_cases hil:i < l.length
   ·left
    have hil2:l[i]? =some l[i]:=yGe hil
    have hj2:∀out':List (List Int),out'.length≤i + 1→out'=((l.take (i + 1)).filter fun r=>decide (1 < r.2.length)).map Prod.snd→∃s',y2p t (z:Int) ((i:Int),out,l) out'=some (.inl s')∧s'.1=((i + 1:Nat):Int)∧i + 1≤s'.2.2.length∧i + 1 + potL z (s'.2.2.drop (i + 1))≤pot z∧s'.2.1.length≤i + 1∧s'.2.1=((s'.2.2.take (i + 1)).filter fun r=>decide (1 < r.2.length)).map Prod.snd∧BR q.1 t.2.2.2.2.1 x z (i + 1) s'.2.2:=fun out' o1 o2=>by
     have hd:potL z (l.drop i)=pot (z - l[i].2.length) + potL z (l.drop (i + 1)):=by
      rw [List.drop_eq_getElem_cons hil]
      unfold potL
      rw [List.map_cons,List.sum_cons]
     rw [y2p]
     dsimp only
     rw [ya hil,yOb]
     have hrl:=g2 _ (List.getElem_mem hil)
     by_cases hc:l[i].2.length=z
     ·rw [if_pos (by simp [hc]),y2o]
      dsimp only
      rw [nxt (by omega)]
      have:=ybI (z - l[i].2.length)
      exact⟨_,rfl,rfl,hil,by dsimp only;omega,o1,o2,g5.next hil2 (by omega)⟩
     ·rw [if_neg (by simp;omega)]
      obtain⟨N,q1,q2,q3⟩:=ycG h (z:=z) (out:=out) hil2 (by omega) hz (by omega) g2
      obtain⟨l',r1,r2⟩:=ycT h (out:=out) hil2 (by omega) hz (by omega) g5
      rw [q1] at r1
      cases r1
      rw [q1,yOb,y2o]
      dsimp only
      rw [nxt (by omega)]
      refine⟨_,rfl,rfl,by simp;omega,?_,o1,?_,r2⟩
      ·dsimp only
       rw [List.drop_append_of_le_length (by omega),yds,yaT q3]
       have e:z - l[i].2.length=(z - (l[i].2.length + 1)) + 1:=by omega
       rw [e,pot] at hd
       have:=Nat.mul_le_mul_right (pot (z - (l[i].2.length + 1))) q2
       omega
      ·dsimp only
       rw [List.take_append_of_le_length (by omega)]
       exact o2
    rw [if_pos (ct_lt hil),ya hil,yOb]
    by_cases h2:1 < l[i].2.length
    ·rw [if_pos (by simp;omega),yOb,yl (by simp;omega),yOb]
     refine hj2 _ (by simp;omega) ?_
     rw [List.take_succ_eq_append_getElem hil,List.filter_append,List.map_append,←g4]
     simp [h2]
    ·rw [if_neg (by simp;omega)]
     refine hj2 _ (by omega) ?_
     rw [List.take_succ_eq_append_getElem hil,List.filter_append,List.map_append,←g4]
     simp [h2]
   ·right
    rw [if_neg (by simp;omega)]
    obtain rfl:i=l.length:=by omega
    rw [List.take_length] at g4
    exact⟨_,rfl,by omega,l,g4,g5⟩) (fun s ⟨e1,g0,g1,g3,g4,g5⟩=>by
   obtain⟨c,out,l⟩:=s
   dsimp only at e1 g0 g1 g3 g4 g5
   subst e1
   have:=y9r z (l.drop (pot z))
   rw [List.length_drop] at this
   rw [y3a]
   dsimp only
   rw [if_neg (by simp;omega)]
   have e:pot z=l.length:=by omega
   rw [e,List.take_length] at g4
   rw [e] at g5
   exact⟨_,rfl,by omega,l,g4,g5⟩) (Nat.zero_le _) (0,[],[(x,[])]) ⟨rfl,by simp,by rw [List.drop_zero,ydt];simp,by simp,by simp,⟨fun r hr=>by
   rw [List.mem_singleton.1 hr]
   exact⟨rfl,(fun e he=>by cases he),List.Pairwise.nil⟩,fun r hr=>by rw [List.mem_singleton.1 hr];simp,List.pairwise_singleton _ _,List.mem_singleton.2 rfl,fun j r hj=>absurd hj (Nat.not_lt_zero _),fun j r _ hj q hq=>by
   rw [List.mem_singleton.1 (List.mem_of_getElem? hj),List.mem_singleton.1 hq]
   show wval []≤33 * wval []
   decide⟩⟩
 refine⟨o,?_,h2,?_⟩
 ·rw [y3b,h.tt,y5L,hk,yOb,show idx [x,y] 0=some x from rfl,yOb,h1]
  rfl
 ·subst h3
  refine⟨fun b=>?_,?_⟩
  ·constructor
   ·intro hb
    obtain⟨r,hr,rfl⟩:=List.mem_map.1 hb
    obtain⟨hr,hl⟩:=List.mem_filter.1 hr
    exact⟨⟨r.1,h4.run r hr⟩,by have:=of_decide_eq_true hl;omega,h4.len r hr⟩
   ·rintro ⟨⟨y',hy'⟩,hb1,hb2⟩
    exact List.mem_map.2 ⟨(y',b),List.mem_filter.2 ⟨h4.all b y' hy' hb2,decide_eq_true (by dsimp only;omega)⟩,rfl⟩
  ·rw [List.pairwise_map]
   exact h4.so.filter _
end
def FB (I:List Int→Prop):Option (List Int)→Prop
 | none=>∀b,¬I b
 | some b=>I b∧∀b',I b'→wval b≤wval b'
theorem ycU {a:AutT} {n:Nat} (hr:Right a n):∀{u:List Int} {s t:Int},stw (st1 a) s u=some t→∀e∈u,e∈a.1
 | [],_,_,_,e,he=>by cases he
 | x :: u,s,t,h,e,he=>by
  rw [stw] at h
  obtain⟨r,g1,g2⟩:=Option.bind_eq_some_iff.1 h
  rcases List.mem_cons.1 he with rfl | he
  ·exact (y4M hr g1).2.2.2.2
  ·exact ycU hr g2 e he
def oI (q:ProbT) (x y:Int) (z:Nat) (b:List Int):Prop:=(∃v,IsRun q.1 q.2.2 x b v)∧2≤b.length∧b.length≤z∧okB q.2.1 y b=false
def oK (q:ProbT) (T:List (List Int)) (z:Nat) (s:Int) (b:List Int):Prop:=∃x y,T[s.toNat]? =some [x,y]∧oI q x y z b
section
variable {q:ProbT} {t:TaskT} {p:AutT} {T:List (List Int)} {n1 n2 n:Nat}
theorem TaskOk.isrun (h:TaskOk q t p T n1 n2 n) {x v:Int} {w:List Int}:IsRun q.1 t.2.2.2.2.1 x w v↔IsRun q.1 q.2.2 x w v:=by
 obtain⟨ui,ul,um⟩:=h.uni
 constructor
 ·rintro ⟨h1,h2,h3⟩
  exact⟨h1,fun e he=>((um e).1 (h2 e he)).2,h3⟩
 ·rintro ⟨h1,h2,h3⟩
  exact⟨h1,fun e he=>(um e).2 ⟨ycU h.rP h1 e he,h2 e he⟩,h3⟩
theorem ycV (h:TaskOk q t p T n1 n2 n) {k:Nat} (hk:k < T.length) {z:Nat} (hz:z≤3):∃bs o,y3b t (k:Int) (z:Int)=some bs∧FB (oK q T z (k:Int)) o∧iter (y3H t (k:Int) bs) 0=some (match o with
  | none=> .inl ()
  | some b=> .inr (wN (edsOf p) (k:Int),b)):=by
 obtain⟨x,y,e,_⟩:=h.pair hk
 obtain⟨bs,b1,b2,b3⟩:=yc9 h e hz
 have hg:∀i (hi:i < bs.length),bs.getD i []=bs[i]:=fun i hi=>by rw [List.getD_eq_getElem?_getD,yGe hi,Option.getD_some]
 have hoK:∀b,oK q T z (k:Int) b↔b∈bs∧okB q.2.1 y b=false:=fun b=>by
  rw [b3.mem]
  constructor
  ·rintro ⟨x',y',e',⟨v,hv⟩,h1,h2,h3⟩
   rw [Int.toNat_natCast,e] at e'
   cases e'
   exact⟨⟨⟨v,h.isrun.2 hv⟩,h1,h2⟩,h3⟩
  ·rintro ⟨⟨⟨v,hv⟩,h1,h2⟩,h3⟩
   exact⟨x,y,by rw [Int.toNat_natCast,e],⟨v,h.isrun.1 hv⟩,h1,h2,h3⟩
 obtain⟨o,g1,g2⟩:=y6h (f:=y3H t (k:Int) bs) (fun i=>i) bs.length (by omega) (fun i=>!okB q.2.1 y (bs.getD i [])) (fun i=>(wN (edsOf p) (k:Int),bs.getD i [])) (fun i hi=>by
  have:=((b3.mem _).1 (List.getElem_mem hi)).2.2
  rw [y3H,if_pos (ct_lt hi),ya hi,yOb,yc1 h e (by omega),yOb,hg i hi,h.word hk,yOb,nxt (by omega)]) (by rw [y3H,if_neg ct_ge])
 rcases g2 with ⟨rfl,g3⟩ | ⟨i,hi,rfl,g3,g4⟩
 ·refine ⟨bs,none,b1,fun b hb=>?_,g1⟩
  obtain⟨hm,hb⟩:=(hoK b).1 hb
  obtain⟨i,hi,rfl⟩:=List.getElem_of_mem hm
  have:=g3 i hi
  rw [hg i hi,hb] at this
  cases this
 ·rw [hg i hi] at g1 g3
  refine⟨bs,some bs[i],b1,⟨(hoK _).2 ⟨List.getElem_mem hi,by simpa using g3⟩,fun b' hb'=>?_⟩,g1⟩
  obtain⟨hm,hb⟩:=(hoK b').1 hb'
  obtain⟨j,hj,rfl⟩:=List.getElem_of_mem hm
  rcases Nat.lt_trichotomy j i with hlt | e | hlt
  ·have:=g4 j hlt
   rw [hg j hj,hb] at this
   cases this
  ·subst e;exact Int.le_refl _
  ·exact Int.le_of_lt (List.pairwise_iff_getElem.1 b3.so i j hi hj hlt)
theorem y8I (h:TaskOk q t p T n1 n2 n) (ho:y2S q=some (some t,0)) {z:Nat} (z2:2≤z) (z3:z≤3):∃r,y1Z q (z:Int)=some r∧((r=((0,[],[]),true,0)∧∀k,k < T.length→FB (oK q T z (k:Int)) none)∨∃(k:Nat) (b:List Int),k < T.length∧FB (oK q T z (k:Int)) (some b)∧(∀j,j < k→FB (oK q T z (j:Int)) none)∧r=((1,wN (edsOf p) (k:Int),b),false,0)):=by
 have htl:=h.loop.tl
 have hle:=h.loop.le
 obtain⟨o,h1,h2⟩:=yb (f:=y4l (z:Int) t) (fun i s=>s=(i:Int)∧i≤T.length∧∀j,j < i→FB (oK q T z (j:Int)) none) (fun o=>(o= .inl ()∧∀k,k < T.length→FB (oK q T z (k:Int)) none)∨∃(k:Nat) (b:List Int),k < T.length∧FB (oK q T z (k:Int)) (some b)∧(∀j,j < k→FB (oK q T z (j:Int)) none)∧o= .inr (wN (edsOf p) (k:Int),b)) T.length 0 (by omega) (fun i s hi ⟨e1,_,hz⟩=>by
   subst e1
   obtain⟨bs,o,w0,w1,w2⟩:=ycV h hi z3
   rw [y4l,h.tt,if_pos (ct_lt hi),w0,yOb,w2,yOb]
   cases o with
   | none=>
    left
    dsimp only
    rw [nxt (by omega)]
    refine⟨_,rfl,rfl,hi,fun j hj=>?_⟩
    by_cases e:j=i
    ·subst e;exact w1
    ·exact hz j (by omega)
   | some b=>
    right
    exact⟨_,rfl,.inr ⟨i,b,hi,w1,hz,rfl⟩⟩) (fun s ⟨e1,_,hz⟩=>by
   subst e1
   exact⟨.inl (),by rw [y4l,h.tt,if_neg ct_ge],.inl ⟨rfl,hz⟩⟩) (Nat.zero_le _) 0 ⟨rfl,Nat.zero_le _,fun j hj=>absurd hj (Nat.not_lt_zero _)⟩
 rw [y1Z,ho,yOb,if_neg (by simp),if_neg (by simp;omega),yOb,h1,yOb]
 rcases h2 with ⟨rfl,h3⟩ | ⟨k,b,hk,h3,h4,rfl⟩
 ·exact ⟨_,rfl,.inl ⟨rfl,h3⟩⟩
 ·exact ⟨_,rfl,.inr ⟨k,b,hk,h3,h4,rfl⟩⟩
end
section
variable {q:ProbT} {t:TaskT} {p:AutT} {T:List (List Int)} {n1 n2 n:Nat}
def l3 (u:List Int) (m a b c:Nat):List Int:=[u.getD a 0,u.getD b 0,u.getD c 0].take m
theorem gd {u:List Int} {i:Nat} (hi:i < u.length):u.getD i 0=u[i]:=by rw [List.getD_eq_getElem?_getD,yGe hi,Option.getD_some]
end
theorem ybM :y3X=some true:=by kernel_rfl
theorem y9v {S:AutT} (hS:S.1= []) (y:Int):∀b,hdl S y b=(y,b.length)
 | []=>rfl
 | e :: b=>by
  rw [hdl,hS,if_neg (by simp [hasB]),y9v hS y b]
  rfl
theorem ydD {S:AutT} (hS:S.1= []) (y:Int) (b:List Int):okB S y b=true:=by
 unfold okB
 rw [y9v hS,y9v hS,(y6O b).length_eq]
 simp
def S0 :AutT:=([],1,[0],[])
theorem ydE :Right S0 1:=⟨rfl,by omega,List.Pairwise.nil,fun x hx=>(List.not_mem_nil hx).elim,List.pairwise_singleton _ _,fun x hx=>by
 have:x=0:=by simpa [S0] using hx
 omega,fun x hx=>(List.not_mem_nil hx).elim,List.Pairwise.nil,by simp [S0],by simp [S0],by simp [S0]⟩
theorem yel {P p:AutT} {T:List (List Int)} {n:Nat} (h:LoopZ P S0 p T n) {k:Nat} {x y u c:Int} (hk:T[k]? =some [x,y]) (hu:u∈P.1) (hc:c∈P.1):dB P p T (k:Int) u c=false:=by
 unfold dB
 have hup:=(h.ev u).2 (.inl hu)
 have hcp:=(h.ev c).2 (.inl hc)
 cases hst:st1 p (k:Int) u with
 | none=>rfl
 | some r=>
  dsimp only
  cases hps:pst P S0 x y u with
  | none=>rw [h.no k x y u hk hup hps] at hst;cases hst
  | some v=>
   obtain⟨q,h1,h2⟩:=h.yes k x y u v.1 v.2 hk hup hps
   rw [h1] at hst
   cases hst
   rw [Int.toNat_natCast,h2]
   dsimp only
   cases hP:st1 P v.1 c with
   | none=>simp
   | some z=>
    obtain⟨q',h3,_⟩:=h.yes q v.1 v.2 c z v.2 h2 hcp (by
     unfold pst
     rw [if_pos (yc.2 hc),hP]
     rfl)
    rw [h3]
    simp
theorem yaZ {st st':Int→Int→Option Int} {al ms:List Int} {r:AutT} {X:List Int} (h:CanOf st al ms r X) (hs:∀s e v,st s e=some v→st' s e=some v):∀{w:List Int} {a:Nat} {s t:Int},X[a]? =some s→stw (st1 r) (a:Int) w=some t→(stw st' s w).isSome=true
 | [],a,s,t,_,_=>rfl
 | e :: w,a,s,t,hx,hw=>by
  rw [stw] at hw ⊢
  cases h1:st1 r (a:Int) e with
  | none=>rw [h1] at hw;cases hw
  | some b=>
   rw [h1] at hw
   obtain⟨a',q,t',v,e1,e2,g1,g2,_,g3⟩:=h.disc.sn _ ((y4B h.right).1 h1)
   have ea:a'=a:=by omega
   subst ea
   rw [hx] at g1
   cases g1
   rw [hs _ _ _ g3]
   subst e2
   exact yaZ h hs g2 hw
theorem ydF {p:AutT} {n:Nat} (hp:Right p n) (hn:0 < n) (r0:List (List Int)) (hl:r0.length≤1000000) (hw:∀w∈r0,w.length≤1000000∧(stw (st1 p) 0 w).isSome=true) (z:Int):iter (yw (p,0) (r0,z)) 0=some (.inl ()):=by
 obtain⟨o,h1,h2⟩:=yb (f:=yw (p,0) (r0,z)) (fun i s=>s=(i:Int)) (fun o=>o= .inl ()) r0.length 0 (by omega) (fun i s hi e1=>by
  subst e1
  left
  obtain⟨g1,g2⟩:=hw _ (List.getElem_mem hi)
  refine⟨_,?_,rfl⟩
  rw [yw,if_pos (by simpa using hi),y5L,yGe hi,yOb,yaY hp g1,yOb,g2,decide_eq_true hn,if_neg (by simp),nxt (by omega)]) (fun s e1=>by
  subst e1
  exact⟨_,by rw [yw,if_neg (by simp)],rfl⟩) (Nat.zero_le _) 0 rfl
 rw [h1,h2]
theorem ycW {d:Des26} (hd:Des26In d):y3o d=some true:=by
 rw [y3o,yee,yOb,if_neg (by simp)]
 obtain⟨q,m1,m2,hq,hP,l1,_⟩:=yc6 hd true
 rw [hq,yOb]
 obtain⟨t,p,T,n1,n2,n,ho,h,hs⟩:=hP.open
 have hR:=h.loop.right
 have hle:=h.loop.le
 obtain⟨r3,e3,c3⟩:=y8I (z:=2) h ho (by omega) (by omega)
 obtain⟨r4,e4,c4⟩:=y8I (z:=3) h ho (by omega) (by omega)
 have hor:r3.2.2=0∧r4.2.2=0∧(r4.2.1 && !r3.2.1)=false:=by
  rcases c4 with ⟨rfl,g4⟩ | ⟨k4,b4,_,_,_,rfl⟩
  ·rcases c3 with ⟨rfl,_⟩ | ⟨k3,b3,hk3,⟨⟨x,y,hT,g1,g2,g3,g5⟩,_⟩,_,rfl⟩
   ·exact ⟨rfl,rfl,rfl⟩
   ·exact (g4 k3 hk3 b3 ⟨x,y,hT,g1,g2,by omega,g5⟩).elim
  ·rcases c3 with ⟨rfl,_⟩ | ⟨k3,b3,_,_,_,rfl⟩ <;> exact⟨rfl,rfl,rfl⟩
 have hP0:PbOk (q.1,S0,q.2.2) m1 1:=⟨hP.rP,ydE,hP.l1,by omega,fun x hx=>(List.not_mem_nil hx).elim,hP.iu,hP.ur⟩
 obtain⟨t',p',T',k1,k2,k3,ho',h',hs'⟩:=hP0.open
 have hf:y1Z (q.1,S0,q.2.2) 3=some ((0,[],[]),true,0):=by
  obtain⟨r,e,c⟩:=y8I (z:=3) h' ho' (by omega) (by omega)
  rcases c with ⟨rfl,_⟩ | ⟨k,b,_,⟨⟨x,y,_,_,_,_,g⟩,_⟩,_,_⟩
  ·exact e
  ·rw [ydD rfl] at g
   cases g
 have hg:y4v (q.1,S0,q.2.2)=some ((0,[],[]),true,0):=by
  obtain⟨r,e,c⟩:=ycR h' ho'
  rcases c with ⟨rfl,_⟩ | ⟨k,z,hk,⟨z1,z2,z3,_⟩,_,_⟩
  ·exact e
  ·obtain ⟨x,y,hT,_⟩:=h'.loop.tt _ (List.getElem_mem hk)
   unfold dL at z3
   rw [yel h'.loop (by rw [yGe hk,hT]) z1 z2] at z3
   simp at z3
 have e3:y1Z q 2=some r3:=e3
 have e4:y1Z q 3=some r4:=e4
 rw [e3,yOb,e4,yOb,hor.1,hor.2.1,hor.2.2,if_neg (by simp),show(([]:List Int),(1:Int),([0]:List Int),([]:List (Int×Int×Int)))=S0 from rfl]
 rw [hf,yOb,hg,yOb,if_neg (by simp)]
 have hul:=Alp.len ⟨h.iu,h.ur⟩
 have hll:=yek h.rP.ali h.iu
 have hmi:=y3n (fun a b=>a && !b) q.1.1 q.2.2 h.rP.ali h.iu
 rw [y8H h.rP.l1 (by omega),yOb]
 generalize hl:mg (fun a b=>a && !b) q.1.1 q.2.2=l at *
 have hnd:l.Nodup:=by
  have:=hmi.1
  unfold Inc at this
  exact this.imp fun h e=>by omega
 have hal:l.length≤32:=Alp.len ⟨hmi.1,fun x hx=>h.rP.alr x ((hll x).1 hx).1⟩
 have hw:=yed h ho (l:=l) (by omega)
 rw [if_pos (ybL (fun e he=>⟨((hll e).1 he).1,((hll e).1 he).2,List.not_mem_nil⟩) hnd)] at hw
 obtain⟨g',r',X',hg',hgr,hr⟩:=yas h l (by omega)
 have hRes:y4d q l=some (r',0):=by
  rw [y4d,hw,yOb,if_neg (by simp),yOb,hg',yOb,hgr.1]
 rw [hRes,yOb,y4D,hs,yOb,yOb]
 dsimp only
 have hcan:=hr.can
 by_cases h0:X'.length=0
 ·have hR':=hr.right
  rw [h0] at hR'
  rw [show yY r' 3 false=some ([],0) from yc7 (most:=3) hR' (by omega),yOb,if_neg (by simp)]
  rw [show iter (yw (p,0) ([],0)) 0=some (.inl ()) from y3Y (n:=1) (by omega) (by rw [yf,yw,if_neg (by simp)]),yOb]
  dsimp only
  rw [ybM,yOb]
 ·have hn0:0 < n:=by
   have:=hr.zero
   rw [hR.nn] at this
   omega
  obtain⟨ws,z,hws,⟨L,g1,rfl,rfl,g2⟩ | ⟨rfl,rfl⟩⟩:=ydB (most:=3) hr.right (by omega) (by omega)
  ·have hws:yY r' 3 false=some (L.map Prod.fst,0):=hws
   rw [hws,yOb,if_neg (by simp),ydF hR hn0 _ (by rw [List.length_map];omega) (fun w hw=>by
    obtain⟨x,hx,rfl⟩:=List.mem_map.1 hw
    refine⟨by have:=g1.len x hx;omega,yaZ (a:=0) hcan (fun s e v hv=>?_) (hcan.x0 (by omega)) (yar hr.right (g1.lead x hx))⟩
    unfold stR at hv
    split at hv
    ·exact hv
    ·cases hv),yOb]
   dsimp only
   rw [ybM,yOb]
  ·have hws:yY r' 3 false=some ([],3):=hws
   rw [hws,yOb,if_pos (by simp)]
   rfl
end Go.Proofs.YtecmobjeeonmaaaGreatDoor
namespace Go.Proofs.YtecmobjeeonmaaaGreatDoor
open Go Go.RowKit Go.ChangeShapes Go.WideShapes Go.Deep
def Op (P:Program) {α:Type} (r:Rep α) (Q:α→Prop) (t:TypeId):Prop:=
 ∀(H:Type) (enc:TypeId×Value→H) (w:World) (fuel:Nat) (cs:List Value) (x:DataW H×List MemPlace),DataW.trod enc P w 0 (fun _=>true) true fuel t cs=some x→∃y:α,r.rd ⟨w,fun _=>0⟩ cs y∧Q y
section
variable {P:Program} {α β:Type} {r:Rep α} {q:Rep β} {Q:α→Prop} {R:β→Prop} {t e:TypeId}
theorem yeE {w:World} {base:Nat} {v:Value} {fs:Array Field} {ts:List TypeId} (ht:P.underlying t=some (.struct fs)) (hts:P.cellTypes P.depth t=some ts) (hsz:P.cellsOf t=ts.length) (hok:Value.okWide P w .any base t v):
  ∃cs,v= .agg cs∧cs.size=ts.length∧∀(i:Nat) (u:TypeId),ts[i]? =some u→∃c:Value,cs[i]? =some c∧Cell.okWide P w .any base u c:=by
 simp only [Value.okWide,ht] at hok
 obtain⟨cs,rfl,h1,ts',h2,h3,h4⟩:=hok
 rw [hts] at h2
 cases h2
 refine⟨cs,rfl,by omega,fun i u hu=>?_⟩
 have hlt:i < ts.length:=(List.getElem?_eq_some_iff.1 hu).1
 obtain⟨u',g1,g2⟩:=h4 i cs[i] (Array.getElem?_eq_getElem (by omega))
 rw [Nat.mod_eq_of_lt hlt,hu] at g1
 cases g1
 exact⟨_,Array.getElem?_eq_getElem (by omega),g2⟩
end
end Go.Proofs.YtecmobjeeonmaaaGreatDoor
namespace Go.Proofs.YtecmobjeeonmaaaGreatDoor
open Go Go.ChangeShapes Go.WideShapes Go.ChangeAt Go.RowKit Go.Deep
theorem Fw.law {P:Program} {f:FuncId} {ts:List TV} (h:Fw P f ⟨0,[]⟩ ts [] (.b true) []) {w:World} {vs:List Value} (ha:All3 (fun _=> .bool false) ⟨w,fun _=>0⟩ ts vs):Calls P f vs.toArray w fun e w'=>e= .returned (.bool true)∧Below w.heap.size w w':=
 Calls.mono (h.is [] (fun _=> .bool false) ⟨w,fun _=>0⟩ vs rfl (Nat.le_refl _) List.nodup_nil (fun t ht=>by cases ht) ha (fun i o h=>by simp at h)) fun e W' ⟨v,s',hw,he,hm,β',_,hv,_⟩=>by
  obtain⟨hv,_⟩:=hv
  subst hw
  subst hv
  exact⟨he,(hm.weak (S':=No) fun t ⟨i,hi,_⟩=>by cases hi).below⟩
theorem All3.c {β:Nat→Value} {s:Sig} {x:TV} {xs:List TV} {v:Value} {us:List Value} (h:x.p β s v) (h2:All3 β s xs us):All3 β s (x :: xs) (v :: us):=⟨v,us,h,h2,rfl⟩
theorem yca {α:Type} [Inhabited α] {n:Nat} {p:Nat→α→Prop} (h:∀i,i < n→∃x,p i x):∃f:Nat→α,∀i,i < n→p i (f i):=
 ⟨fun i=>if hi:i < n then Classical.choose (h i hi) else default,fun i hi=>by
  dsimp only
  rw [dif_pos hi]
  exact Classical.choose_spec (h i hi)⟩
abbrev yeF :=(Int×y1Y)×(Int×y1Y)×Int
def pbT :List TypeId:=[22] ++ List.replicate 27 5 ++ [22] ++ List.replicate 27 5 ++ [22]
theorem ydG :Tryz.prog.cellTypes Tryz.prog.depth 30=some pbT:=by kernel_rfl
theorem ydH :Tryz.prog.cellsOf 30=pbT.length:=by kernel_rfl
section
variable {H:Type} {enc:TypeId×Value→H} {w:World} {base:Nat} {v:Value} {d:DataW H} {ps:List MemPlace}
/-- A described problem. -/
theorem ycX (hok:Value.okWide Tryz.prog w .any base 30 v):∃x:yeF,GrIn x.1.2∧GrIn x.2.1.2∧∀β s,(TV.a (lx30 x)).p β s v:=by
 obtain⟨cs,rfl,h1,h2⟩:=yeE Tryz.underlying30 ydG ydH hok
 have h1':cs.size=57:=h1
 obtain⟨f,hf⟩:=yca (α:=Int) (n:=57) (p:=fun i n=>cs[i]? =some (.int .u8 n)∧0≤n∧n < 256) (fun i hi=>by
  obtain⟨u,hu,hu2⟩:∃u,pbT[i]? =some u∧(u=22∨u=5):=by
   refine⟨pbT[i]'hi,yGe (l:=pbT) hi,?_⟩
   have:=List.getElem_mem (l:=pbT) hi
   generalize pbT[i]'hi=u at this
   simp only [pbT,List.mem_append,List.mem_singleton,List.mem_replicate] at this
   rcases this with (((h | h) | h) | h) | h
   ·exact .inl h
   ·exact .inr h.2
   ·exact .inl h
   ·exact .inr h.2
   ·exact .inl h
  obtain⟨c,g1,g2⟩:=h2 i u hu
  have g2':Cell.okWide Tryz.prog w .any base 5 c:=by
   rcases hu2 with rfl | rfl
   ·simp only [Cell.okWide,Cell.ok,Tryz.underlying22,Tryz.underlying5] at g2 ⊢
    exact g2
   ·exact g2
  obtain⟨n,rfl,g3⟩:∃n:Int,c= .int .u8 n∧0≤n∧n < 256:=by
   simp only [Cell.okWide,Tryz.underlying5] at g2'
   cases c <;> simp_all [Cell.ok]
   rename_i k n
   obtain⟨rfl,h2⟩:=g2'
   simp [IntKind.has,IntKind.min,IntKind.max,IntKind.signed,IntKind.bits] at h2
   omega
  exact⟨n,g1,g3⟩)
 have hcs:cs=((List.range 57).map fun i=>Value.int .u8 (f i)).toArray:=by
  apply Array.ext_getElem?
  intro i
  by_cases hi:i < 57
  ·rw [(hf i hi).1];simp [hi]
  ·rw [Array.getElem?_eq_none (by omega),Array.getElem?_eq_none (by simp;omega)]
 have gr:∀o,o + 27≤57→GrIn (f o,f (o + 1),((f (o + 2),f (o + 3),f (o + 4),f (o + 5),f (o + 6)),(f (o + 7),f (o + 8),f (o + 9),f (o + 10),f (o + 11)),(f (o + 12),f (o + 13),f (o + 14),f (o + 15),f (o + 16)),(f (o + 17),f (o + 18),f (o + 19),f (o + 20),f (o + 21)),(f (o + 22),f (o + 23),f (o + 24),f (o + 25),f (o + 26)))):=fun o ho=>by
  refine⟨(hf o (by omega)).2,fun y hy=>?_⟩
  have hy2:y∈(List.range 25).map fun i=>f (o + (i + 2)):=hy
  obtain⟨i,hi,rfl⟩:=List.mem_map.1 hy2
  have:=List.mem_range.1 hi
  exact(hf (o + (i + 2)) (by omega)).2
 refine⟨((f 0,f 1,f 2,((f 3,f 4,f 5,f 6,f 7),(f 8,f 9,f 10,f 11,f 12),(f 13,f 14,f 15,f 16,f 17),(f 18,f 19,f 20,f 21,f 22),(f 23,f 24,f 25,f 26,f 27))),(f 28,f 29,f 30,((f 31,f 32,f 33,f 34,f 35),(f 36,f 37,f 38,f 39,f 40),(f 41,f 42,f 43,f 44,f 45),(f 46,f 47,f 48,f 49,f 50),(f 51,f 52,f 53,f 54,f 55))),f 56),gr 1 (by omega),gr 29 (by omega),fun β s=>?_⟩
 refine⟨((List.range 57).map fun i=>Value.int .u8 (f i)),?_,by rw [hcs]⟩
 exact y7z (cs:=(List.range 57).map fun i=>Value.int .u8 (f i)) (List.all_eq_true.2 fun x hx=>by
  obtain⟨i,_,rfl⟩:=List.mem_map.1 hx
  rfl)
end
theorem Tryz.own :ownKnob Tryz.prog.godebug=none:=by kernel_rfl
theorem Tryz.laidOut :laidOutB Tryz.prog=true:=by kernel_rfl
section
variable {H:Type} {enc:TypeId×Value→H}
def yb0 (P:Program) (ts:List TypeId):Bool:=ts.all fun t=>P.readableRec t && decide (t < P.types.size)
theorem y8j {P:Program} (hl:laidOutB P=true) {W W':World} (hb:Below W.heap.size W W') {sp:Nat→Bool}:∀{ts:List TypeId} {vs:List Value} {ds:List (DataW H)} {ps:List MemPlace},yb0 P ts=true→
  DataW.TrodAll enc P W 0 (fun _=>true) true ts vs ds ps→(∀x∈ps,x.block < W.heap.size)→(∀x∈ps,sp x.block=true)→DataW.TrodAll enc P W' 0 sp true ts vs ds ps
 | [],[],[],_,_,h,_,_=>h
 | [],_ :: _,_,_,_,h,_,_=>h.elim
 | [],[],_ :: _,_,_,h,_,_=>h.elim
 | t :: ts,[],_,_,_,h,_,_=>h.elim
 | t :: ts,_ :: _,[],_,_,h,_,_=>h.elim
 | t :: ts,v :: vs,d :: ds,ps,hc,⟨p,q,h1,h2,e⟩,hlt,hsp=>by
  subst e
  unfold yb0 at hc
  rw [List.all_cons,Bool.and_eq_true,Bool.and_eq_true] at hc
  exact⟨p,q,WideElems.Trod_stays hl hc.1.1 (of_decide_eq_true hc.1.2) h1 (fun x hx=>hb.same (hlt x (List.mem_append_left _ hx))) (fun x hx=>hsp x (List.mem_append_left _ hx)),
   y8j hl hb hc.2 h2 (fun x hx=>hlt x (List.mem_append_right _ hx)) (fun x hx=>hsp x (List.mem_append_right _ hx)),rfl⟩
theorem ydI {P:Program} (hl:laidOutB P=true) {f:Func} {s:ChangeSpec} {apart fresh handsOn again:Bool} {W W':World} {args:Array Value} {ds:List (DataW H)} {before:List MemPlace} {tb:TypeId} {b:Bool}
  (hW:DataW.Whole enc P f.params.toList s.vars apart W args.toList ds [] before) (hv:s.vars= []) (hc:yb0 P f.params.toList=true) (hrt:f.resultTypes= #[tb]) (ht:P.underlying tb=some .bool)
  (hr:(s.fn H (ds ++ [])).results= [.lit (.bool b)]) (ha:(s.fn H (ds ++ [])).args=ds) (hvn:(s.fn H (ds ++ [])).vars= []) (hb:Below W.heap.size W W'):
  s.post enc P f apart fresh handsOn again W args (.bool b) W':=by
 have hlt:∀p∈before,p.block < W.heap.size:=fun p hp=>hW.lt p hp
 have hWc:=hW
 obtain⟨p,q,hA,hV,rfl,hz,hn⟩:=hWc
 rw [hv] at hV
 obtain⟨-,rfl⟩:=trodVars_none hV
 rw [List.append_nil] at hlt hz hn
 have hargs:∀sp:Nat→Bool,(∀x∈p,sp x.block=true)→DataW.TrodAll enc P W' 0 sp true f.params.toList args.toList (s.fn H (ds ++ [])).args p:=fun sp hsp=>by
  rw [ha];exact y8j hl hb hc hA hlt hsp
 have hres:∀(b0:Nat) (sp:Nat→Bool) (hd:Bool),DataW.TrodAll enc P W' b0 sp hd f.resultTypes.toList ((Value.bool b).resultList f.resultTypes.size) (s.fn H (ds ++ [])).results []:=fun _ _ _=>by
  rw [hr,hrt];exact trodAll_mk1 (shut_bool ht b)
 have hvars:∀sp:Nat→Bool,DataW.TrodVars enc P W' sp s.vars (s.fn H (ds ++ [])).vars []:=fun sp=>by rw [hv,hvn];rfl
 have hold:∀x∈p,(fun b=>decide (b < W.heap.size)) x.block=true:=fun x hx=>by simpa using hlt x hx
 refine⟨ds,[],p ++ [],[],p,[],hW,hres _ _ _,hargs _ hold,hvars _,World.keptBut_mono (fun x hx=>?_) (hb.frame (· ∈p)),fun _=>?_⟩
 ·exact ⟨by rwa [List.append_nil],Or.inr (.inl hx)⟩
 ·have hok:=ok_one (f:=f) (W':=W') (by rw [hrt]) rfl (okWide_bool_mk (W':=W') ht b)
  refine⟨hok,_,_,([] ++ p) ++ [],⟨[] ++ p,[],trodAll_append (hargs _ (fun _ _=>rfl)) (hres _ _ _),hvars _,rfl,?_,?_⟩,?_⟩
  ·intro b0 off hp
   have hin:MemPlace.cell b0 off∈p:=by simpa using hp
   rw [hb.frozen (hlt _ hin)]
   exact hz b0 off hin
  ·intro hap
   simpa using hn hap
  ·intro x hx _
   simpa using hx
end
def lay24 : List (String × DataW Unit) := [("math/bits.deBruijn32tab", Rows.laid_math_bits_deBruijn32tab), ("math/bits.deBruijn64tab", Rows.laid_math_bits_deBruijn64tab), ("internal/strconv.uint64pow10", Rows.laid_internal_strconv_uint64pow10)]
theorem ycY (os:Os) (args:Array Value):laidMetH Tryz.prog lay24 ((World.laidAll Tryz.prog os lay24).forCall (fun _ _=>0) ⟨#[],args,[]⟩).memory:=
 laidMetH_of_parts3 (fuel:=8) (laidMet_laidAll args (by kernel_rfl) (by kernel_rfl)) (by kernel_rfl) (by kernel_rfl)
theorem y9w (os:Os) (started:os.Started) (H:Type) (enc:TypeId×Value→H):
  ReturnsInHanded {} Tryz.checked os 7 .any (fun w args=>(Rows.scanHoldsSpec.pre enc Tryz.prog Tryz.f7 [] false w args∧laidMetH Tryz.prog lay24 w)∧sizedMet enc Tryz.prog Tryz.f7 (OpenSpec.ofChange Rows.scanHoldsSpec) false w args) (Rows.scanHoldsSpec.post enc Tryz.prog Tryz.f7 false true false false):=by
 refine returnsInHanded_of_change_and (C:=Tryz.checked) (X:=fun w _=>laidMetH Tryz.prog lay24 w) (fun _ _ _ hh h=>h.of_heap hh) Tryz.own started (by kernel_rfl) Tryz.func7
  (ChangeSpec.witness_shaped (enc:=enc) (C:=Tryz.checked) (os:=os) (X:=fun w _=>laidMetH Tryz.prog lay24 w) false (World.laidAll Tryz.prog os lay24) #[.agg (Array.replicate 57 (.int .u8 0))] 8 (World.laidAll_os _ _ _) (World.shaped_of_ZipB (by kernel_rfl) (by kernel_rfl)) (by kernel_rfl) (by kernel_rfl) (by kernel_rfl) (ycY os _)) ?_
 intro W base args ds gs before hval0 hW _ _ _ _
 have hval:∀(j:Nat) t v,Tryz.f7.params[j]? =some t→args[j]? =some v→Value.okWide Tryz.prog W .any base t v:=hval0
 have hW':=hW
 obtain⟨p,q,hA0,hV,rfl,hfz,hnd⟩:=hW
 have hA:DataW.TrodAll enc Tryz.prog W 0 (fun _=>true) true Tryz.f7.params.toList args.toList ds p:=hA0
 rw [Tryz.params7] at hA hval
 obtain⟨v0,d0,rfl,rfl,h0⟩:=trodAll_one hA
 obtain⟨x,g1,g2,r0⟩:=ycX (hval 0 30 v0 rfl rfl)
 obtain⟨rfl,rfl⟩:=trodVars_none hV
 clear hA0 hval0
 refine Calls.mono ((y6y (ycW (d:=x) ⟨g1,g2⟩)).law (All3.c (r0 _ _) rfl)) fun e W' ⟨he,hbl⟩=>?_
 subst he
 exact⟨_,rfl,ydI Tryz.laidOut hW' rfl (by kernel_rfl) (by kernel_rfl) Tryz.underlying4 rfl rfl rfl hbl⟩
end Go.Proofs.YtecmobjeeonmaaaGreatDoor
namespace Go.Proofs.YtecmobjeeonmaaaGreatDoor
open Go Go.RowKit
set_option maxRecDepth 100000
theorem yem :Tryz.prog.stopsHeard=true:=by kernel_rfl
theorem yen :Tryz.prog.mayEnter=true:=by kernel_rfl
theorem yeo :(laidOutB Tryz.prog && mapsRowed Tryz.prog)=true:=by kernel_rfl
theorem yep :(Tryz.prog.stops == [])=true:=by kernel_rfl
theorem ydJ :(Tryz.prog.stopKnobs == [])=true:=by kernel_rfl
theorem ydK :false=Tryz.prog.looks []:=by kernel_rfl
end Go.Proofs.YtecmobjeeonmaaaGreatDoor
namespace Go.Proofs.YtecmobjeeonmaaaGreatDoor
open Go Go.ChangeShapes Go.WideShapes Go.ChangeAt Go.RowKit Go.Deep
theorem yb1 :(Rows.scanHoldsRow.inPlace == Tryz.prog.inPlace 7)=true:=by kernel_rfl
theorem yb2 :(Rows.scanHoldsRow.unfollowed == Tryz.prog.unfollowed 7)=true:=by kernel_rfl
theorem yb3 :(Rows.scanHoldsRow.recurses == Tryz.prog.recurses 7)=true:=by kernel_rfl
theorem yb4 :(Rows.scanHoldsRow.named == Tryz.prog.varsNamed 7)=true:=by kernel_rfl
theorem yb5 :(Rows.scanHoldsRow.lifted == Tryz.prog.liftsFinal)=true:=by kernel_rfl
theorem y9x :joinedFacts Tryz.prog 7 Tryz.f7 Rows.scanHoldsSpec Rows.scanHoldsRow=true:=by
 have h8:=yeo
 rw [Bool.and_eq_true] at h8
 unfold joinedFacts
 rw [h8.1,h8.2,yb1,yb2,yb3,yb4,yb5,yem,yen,yep,ydJ]
 change (_:Bool)=true
 kernel_rfl
theorem y9I :Rows.ScanHoldsSaid:=
 OpenClaim.holds_of_wide 7 Tryz.f7 rfl rfl rfl rfl rfl rfl rfl ⟨rfl,rfl,rfl,rfl,rfl⟩ rfl rfl rfl rfl rfl (by kernel_rfl) Tryz.func7 y9x
  (of_decide_eq_true (by kernel_rfl)) (by unfold Func.isWrapper;first | (rw [if_pos (by decide +kernel)];kernel_rfl) | (rw [if_neg (by decide +kernel)];exact⟨rfl,rfl⟩))
  (fun os started H enc _=>y9w os started H enc)
theorem scanHolds_k12 :false=Rows.scanHoldsRow.goesBy Tryz.prog:=by kernel_rfl
theorem scanHolds_k13 : Tryz.prog.funcNamed "overseer/overseerlaw54.ScanHolds" = some 7 := by kernel_rfl
theorem scanHolds_k14 :(Tryz.f7.params.toList.all fun u=>!(Tryz.prog.wantsStandIn u))=true:=by kernel_rfl
theorem scanHolds_k15 :Rows.scanHoldsRow.wfByText (OpenSpec.ofChange Rows.scanHoldsSpec)=true:=by kernel_rfl
theorem scanHolds_card_holds :Rows.ScanHoldsCardSaid:=
 Claim7.holds_tied_plain_at .later [] [.data,.data,.data] true _ false
  y9I (fun _ h=>by cases h) scanHolds_k15 (fun _ h=>by cases h) scanHolds_row_tie rfl ⟨rfl,rfl⟩ (by kernel_rfl) rfl
  (fun f fn hf hfn=>by
   obtain rfl:f=7:=Option.some.inj (scanHolds_k13.symm.trans hf) |>.symm
   obtain rfl:fn=Tryz.f7:=(Option.some.inj (Tryz.func7.symm.trans hfn)).symm
   exact⟨ydK,fun j t ht=>by
    have hm:t∈Tryz.f7.params:=Array.mem_of_getElem? ht
    exact(show Tryz.prog.wantsStandIn t=false by simpa using List.all_eq_true.1 scanHolds_k14 t (Array.mem_toList_iff.2 hm))⟩)
  scanHolds_k12
end Go.Proofs.YtecmobjeeonmaaaGreatDoor
