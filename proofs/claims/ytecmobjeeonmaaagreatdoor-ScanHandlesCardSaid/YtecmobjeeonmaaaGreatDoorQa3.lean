/- Parts of the proof, without what nothing here names. -/
import Derived.RangeFuncNested
import Derived.RangeFuncBound
import Derived.RangeFuncCalls
import Derived.RangeFuncLeaves
import Derived.Test.YtecmobjeeonmaaaGreatDoorProg
import Derived.Test.YtecmobjeeonmaaaGreatDoorQa2
set_option maxRecDepth 100000
set_option maxHeartbeats 8000000
namespace Go.Proofs.YtecmobjeeonmaaaGreatDoor
open Go Go.RowKit
noncomputable section
def Yd (P:Program) (l N:Nat) (enc:Nat→List Value) (J:Nat→Sig→Prop):Prop:=
 ∀k,k < N→∀s,J k s→YieldAt Fence.wide 2 P l (enc k).toArray s.w fun e W'=>e= .returned (.bool true)∧∃s',W'=s'.w∧Le s s'∧J (k + 1) s'
def FI (P:Program) (s:Sig) (v:Value) (N:Nat) (enc:Nat→List Value):Prop:=
 ∃gf lb,v= .func (.func gf) #[] lb∧Cf P gf∧∀(l:Nat) (J:Nat→Sig→Prop) (s1:Sig),Le s s1→(∀k a b,J k a→Mv No a b→J k b)→Yd P l N enc J→J 0 s1→
  Calls P gf (#[.func (.yield l) #[] #[]] ++ lb) s1.w fun e W'=>(∃v,e= .returned v)∧∃s2,W'=s2.w∧J N s2
theorem FI.mono {P:Program} {s s':Sig} {v:Value} {N:Nat} {enc:Nat→List Value} (h:FI P s v N enc) (m:Le s s'):FI P s' v N enc:=by
 obtain⟨gf,lb,e,hc,h⟩:=h
 exact⟨gf,lb,e,hc,fun l J s1 h1 h2 h3 h4=>h l J s1 (m.trans h1) h2 h3 h4⟩
def Lf (s0 s:Sig):Prop:=Le s0 s
theorem Lf.mono {s0 s s':Sig} (h:Lf s0 s) (m:Le s s'):Lf s0 s':=Le.trans h m
structure Rc (s:Sig) (t u D:Nat) (r:Loop):Prop where
 lp:s.w.heap[D + 1]? =some (.loop r)
 mark:s.w.heap[D]? =some (.deferred (some []))
 tr:s.tag (D + 1)=t
 tm:s.tag D=u
theorem Rc.mv {S:Nat→Prop} {s s':Sig} {t u D:Nat} {r:Loop} (h:Rc s t u D r) (m:Mv S s s') (hn:¬S t) (hu:¬S u):Rc s' t u D r:=by
 obtain⟨g1,g2⟩:=m.blk (D + 1) (Array.getElem?_eq_some_iff.1 h.lp).1 (by rw [h.tr];exact hn)
 obtain⟨g3,g4⟩:=m.blk D (Array.getElem?_eq_some_iff.1 h.mark).1 (by rw [h.tm];exact hu)
 exact⟨g1.trans h.lp,g3.trans h.mark,g2.trans h.tr,g4.trans h.tm⟩
structure Mk (s:Sig) (t D:Nat):Prop where
 mark:s.w.heap[D]? =some (.deferred (some []))
 tm:s.tag D=t
theorem Rc.put {s:Sig} {t u D:Nat} {r:Loop} (h:Rc s t u D r) (r':Loop):Mv (One t) s ⟨s.w.putObj (D + 1) (.loop r'),s.tag⟩∧Rc ⟨s.w.putObj (D + 1) (.loop r'),s.tag⟩ t u D r':=by
 have hl:=(Array.getElem?_eq_some_iff.1 h.lp).1
 refine⟨⟨rfl,rfl,rfl,by simp [World.putObj],fun b hb hn=>⟨World.putObj_heap_other fun e=>hn ?_,rfl⟩⟩,⟨World.putObj_heap_same hl,(World.putObj_heap_other (by omega)).trans h.mark,h.tr,h.tm⟩⟩
 subst e;exact h.tr
def Env.zp :List Nat→List Value→List (Nat×Value)→List (Nat×Value)
 | p :: ps,v :: vs,e=>Env.zp ps vs ((p,v) :: e)
 | _,_,e=>e
theorem Fits.zp {Φ:Fr} {n:Nat}:∀{ps:List Nat} {vs:List Value} {e:List (Nat×Value)} {a:Act},(∀p∈ps,p < n)→Fits Φ n e a→
  Fits Φ n (Env.zp ps vs e) { a with tmps:=(ps.zip vs).foldl (fun t (p,v)=>t.setIfInBounds p v) a.tmps }
 | [],_,_,_,_,h=>by simpa [Env.zp] using h
 | _ :: _,[],_,_,_,h=>by simpa [Env.zp] using h
 | p :: ps,v :: vs,e,a,hp,h=>by
  have:=Fits.zp (ps:=ps) (vs:=vs) (fun q hq=>hp q (List.mem_cons_of_mem _ hq)) (h.put (d:=p) (by simpa using hp p (List.mem_cons_self ..)) v)
  simpa [Env.zp,Act.put] using this
def RQ (K:Sig→Prop):Exit→Act→World→Prop
 | .normal,_,W=>∃c:Sig,W=c.w∧K c
 | _,_,_=>False
def RB (Φ:Fr) (P:Program) (l:Nat) (body:Code) (K:Sig→Prop) (a:Act) (w:World):Prop:=∃w₂,(Instr.beginRound l).run P w= .ok () w₂∧body.wpIn Φ.f 2 P (RQ K) a w₂
theorem X.beg {Φ:Fr} {P:Program} {n t u D:Nat} {r:Loop} {body:Code} {K:Sig→Prop} {e:List (Nat×Value)} {s:Sig} (h:Rc s t u D r) (hr:r.state= .ready)
  (hb:∀s',Mv (One t) s s'→Rc s' t u D { r with state:= .busy }→E Φ P (RQ K) n body e s'.w):X Φ (Exit.then (RB Φ P (D + 1) body K) (fun _ _ _=>False)) n .normal e s.w:=fun a ha=>
 ⟨_,run_beginRound h.lp hr,hb _ (h.put _).1 (h.put _).2 a ha⟩
theorem X.rnd {Φ:Fr} {n:Nat} {K:Sig→Prop} {e:List (Nat×Value)} {s:Sig} (h:K s):X Φ (RQ K) n .normal e s.w:=fun _ _=>⟨s,rfl,h⟩
theorem E.range {ds:List Deferred} {P:Program} {Q:Exit→Act→World→Prop} {n:Nat} {e:List (Nat×Value)} {s:Sig} {g:Operand} {ps:Array Tmp} {assign body:Code} {v:Value} {N:Nat} {enc:Nat→List Value} (t u:Nat) (ht:t≠0) (htu:t≠u)
  (J:Nat→Sig→Prop) (hg:Env.ev e g=some v) (hit:FI P s v N enc) (hps:∀k,(enc k).length=ps.size) (hpn:∀p∈ps.toList,p < n) (h0:J 0 s)
  (hbody:∀(k D:Nat) (r:Loop) (a b:Sig),k < N→J k a→Mv (One t) a b→Rc b t u D r→r.state= .ready→
   E ⟨some (D + 1),[]⟩ P (Exit.then (RB ⟨some (D + 1),[]⟩ P (D + 1) body (fun c=>J (k + 1) c∧Rc c t u D { r with state:= .busy }∧Le b c)) (fun _ _ _=>False)) n assign (Env.zp ps.toList (enc k) e) b.w)
  (hend:∀(D:Nat) (a b:Sig),s.w.heap.size≤D→J N a→Mv (One t) a b→Mk b u D→X ⟨none,mark D :: ds⟩ Q n .normal e b.w):E ⟨none,ds⟩ P Q n (.rangeFunc g ps assign body) e s.w:=by
 obtain⟨gf,lb,rfl,hcf,hit⟩:=hit
 intro ac ha
 refine wpIn_rangeFunc ?_
 intro fn _
 obtain⟨r0,hr0⟩:∃r0:Loop,r0= { state:= .ready,pending:=none,fn,tmps:=ac.tmps,params:=ps,assign,body,defers:=s.w.heap.size }:=⟨_,rfl⟩
 obtain⟨W1,hW1⟩:∃W1,(s.w.alloc (.deferred (some []))).alloc (.loop r0)=W1:=⟨_,rfl⟩
 have hsz:(s.w.alloc (.deferred (some []))).heap.size=s.w.heap.size + 1:=World.size_alloc _ _
 have hL1:W1.heap[s.w.heap.size + 1]? =some (.loop r0):=by
  rw [←hW1];have:=World.alloc_heap_new (s.w.alloc (.deferred (some []))) (.loop r0);rwa [World.size_alloc] at this
 have hK1:W1.heap[s.w.heap.size]? =some (.deferred (some [])):=by
  rw [←hW1];exact(Below.heap_alloc _ _ _ (by simp)).trans (World.alloc_heap_new s.w _)
 have hb1:Below s.w.heap.size s.w W1:=by
  rw [←hW1];exact((Below.refl _ s.w).alloc (Nat.le_refl _) _).alloc (by simp) _
 obtain⟨tg,htg⟩:∃tg:Nat→Nat,tg=fun b=>if b < s.w.heap.size then s.tag b else if b=s.w.heap.size then u else t:=⟨_,rfl⟩
 have hm1:Mv No s ⟨W1,tg⟩:=Below.mv hb1 fun b hb=>by rw [htg];exact if_pos hb
 have hRc1:Rc ⟨W1,tg⟩ t u s.w.heap.size r0:=⟨hL1,hK1,by rw [htg];exact(if_neg (by omega)).trans (if_neg (by omega)),by rw [htg];exact(if_neg (by omega)).trans (if_pos rfl)⟩
 have hev:ac.eval g= .func (.func gf) #[] lb:=ha.ev hg
 refine⟨s.w.heap.size + 1,[{ target:= .collected s.w.heap.size,args:= #[] }],W1,{ target:= .fn (.func gf) lb,args:= #[.func (.yield (s.w.heap.size + 1)) #[] #[]] },W1,gf,
  #[.func (.yield (s.w.heap.size + 1)) #[] #[]] ++ lb,W1,?_,?_,?_,?_,fun e=>(by cases e),?_⟩
 ·rw [←hW1,hr0];exact run_enterLoop_outer _ _ _ _ _
 ·simp only [resolve,hev]
  simp [go_sem]
 ·intro f' _;trivial
 ·have:=hcf (#[.func (.yield (s.w.heap.size + 1)) #[] #[]] ++ lb) W1
  simp [invoke,go_sem] at this ⊢
  exact this
 ·obtain ⟨J',hJ'⟩:∃J':Nat→Sig→Prop,J'=fun k b=>(∃a,J k a∧Mv (One t) a b)∧Rc b t u s.w.heap.size r0:=⟨_,rfl⟩
  have h:=hit (s.w.heap.size + 1) J' ⟨W1,tg⟩ (hm1.le no_No) (by
   intro k a b hk hm
   rw [hJ'] at hk ⊢
   obtain⟨⟨a0,h1,h2⟩,h3⟩:=hk
   exact⟨⟨a0,h1,h2.trans hm.no⟩,h3.mv hm no_No no_No⟩) (by
   intro k hkN a hk
   rw [hJ'] at hk ⊢
   obtain⟨⟨a0,h1,h2⟩,h3⟩:=hk
   have hy:=run_yield (P:=P) (args:=(enc k).toArray) h3.lp (by rw [hr0];simpa using hps k)
   rw [hr0] at hy
   refine⟨fn,_,assign,body,hy,roundIn_of_wpIn trivial ?_⟩
   have hf0:Fits ⟨some (s.w.heap.size + 1),[]⟩ n e { tmps:=ac.tmps,defers:=[] }:=⟨ha.size,rfl,ha.has⟩
   have hf:=hf0.zp (ps:=ps.toList) (vs:=enc k) hpn
   have hfold:(Array.zip ps (enc k).toArray).foldl (fun t (x:Tmp×Value)=>t.setIfInBounds x.1 x.2) ac.tmps=(ps.toList.zip (enc k)).foldl (fun t (x:Nat×Value)=>t.setIfInBounds x.1 x.2) ac.tmps:=by
    rw [←Array.foldl_toList,Array.toList_zip]
   have hb:=hbody k s.w.heap.size r0 a0 a hkN h1 h2 h3 (by rw [hr0]) _ hf
   rw [←hfold] at hb
   refine wpIn_mono hb fun ex a1 w1 hq=>?_
   cases ex <;> first | exact hq | skip
   obtain⟨w2,hq1,hq2⟩:=hq
   refine⟨w2,hq1,wpIn_mono hq2 fun ex a3 w3 hq=>?_⟩
   cases ex <;> first | exact hq.elim | skip
   obtain⟨c,rfl,hJc,hRc,hle⟩:=hq
   obtain⟨g1,g2⟩:=hRc.put r0
   have hend:=run_endRound (P:=P) none hRc.lp
   refine⟨_,_,hend,rfl,⟨c.w.putObj (s.w.heap.size + 1) (.loop r0),c.tag⟩,?_,hle.trans (g1.le (Ne.symm ht)),⟨c,hJc,g1⟩,g2⟩
   rw [hr0];rfl) (by
   rw [hJ']
   exact⟨⟨s,h0,hm1.no⟩,hRc1⟩)
  refine(callsIn_wide (n:=1)).2 (h.mono ?_)
  rintro en W2 ⟨⟨vv,rfl⟩,s2,rfl,h5⟩
  rw [hJ'] at h5
  obtain⟨⟨a0,h1,h2⟩,h3⟩:=h5
  obtain⟨g1,g2⟩:=h3.put { r0 with state:= .exhausted,pending:=none }
  have hen:=run_endLoop (P:=P) h3.lp (by rw [hr0];simp)
  rw [show r0.pending=none by rw [hr0]] at hen
  refine⟨none,_,hen,?_⟩
  refine hend s.w.heap.size a0 _ (Nat.le_refl _) h1 (h2.trans g1) ⟨g2.mark,g2.tm⟩ _ ?_
  exact⟨ha.size,by rw [←show ac.defers=ds from ha.defers];rfl,ha.has⟩
theorem L.opIn {Φ:Fr} {P:Program} {Q:Exit→Act→World→Prop} {n:Nat} {e:List (Nat×Value)} {w:World} {ops:Array Oper} {os:List Oper} {o:Oper} (hw:Wt ops e o.guard) (h:∀a,Fits Φ n e a→∀K:Act→World→Prop,(∀e' a' w',Fits Φ n e' a'→L Φ P Q n ops os e' w'→K a' w')→o.wpIn Φ.f 2 P a w K Q):L Φ P Q n ops (o :: os) e w:=fun is his a ha=>by
 cases is with
 | nil=>cases his
 | cons i rest=>
  simp only [List.map_cons,List.cons.injEq] at his
  obtain⟨h1,h2⟩:=his
  simp only [wpOpsIn,h1]
  rw [if_pos (Wt.wanted ha hw)]
  exact h a ha _ fun e' a' w' hf hl=>hl rest h2 a' hf
theorem L.yd {P:Program} {Q:Exit→Act→World→Prop} {n:Nat} {e:List (Nat×Value)} {s:Sig} {ops:Array Oper} {os:List Oper} {d:Nat} {ty:TypeId} {pos:String} {af:Array Edge} {g:Option (Nat×Bool)} {c:Call} {x:Operand} {xs:List Operand} {l N k:Nat} {enc:Nat→List Value} {J:Nat→Sig→Prop}
  (hY:Yd P l N enc J) (hk:k < N) (hJ:J k s) (hc:c.callee= .value x) (hca:c.args=xs.toArray) (hw:Wt ops e g) (hx:Env.ev e x=some (.func (.yield l) #[] #[])) (hxs:Env.evs e xs=some (enc k)) (hd:Nat.blt d n=true)
  (h:∀s',Le s s'→J (k + 1) s'→L Fr.o P Q n ops os ((d,.bool true) :: e) s'.w):L Fr.o P Q n ops (⟨some d,.call c,ty,pos,af,g⟩ :: os) e s.w:=
 L.opIn hw fun ac ha K hK=>by
  obtain⟨fn,tmps,assign,body,hy,hR⟩:=hY k hk s hJ
  refine⟨fun _ _=>trivial,?_⟩
  have h2:c.args.map ac.eval=(enc k).toArray:=by rw [hca,List.map_toArray,ha.evs hxs]
  have h3:ac.eval x= .func (.yield l) #[] #[]:=ha.ev hx
  have hrun:(Oper.semAt Fr.o.f.round ac.eval ⟨some d,.call c,ty,pos,af,g⟩).run P s.w= .ok (.round l fn tmps assign body) s.w:=by
   show(execOp ac.eval ⟨some d,.call c,ty,pos,af,g⟩).run P s.w=_
   simp [execOp,resolve,hc,h2,h3,Deferred.ofValue,invoke,hy]
  rw [hrun]
  refine⟨fun e=>(by cases e),?_⟩
  have hR1:RoundIn Fr.o.f (2 - 1) P l fn tmps assign body s.w fun e W'=>e= .returned (.bool true)∧∃s',W'=s'.w∧Le s s'∧J (k + 1) s':=⟨trivial,fun c cs hr=>hR.2 c cs (fun d hd=>by cases hd)⟩
  refine hR1.mono ?_
  rintro en W' ⟨rfl,s',rfl,hle,hJ'⟩
  exact hK _ _ _ (ha.put hd (.bool true)) (h s' hle hJ')
def rngF {S:Type} (f:Nat→S→Option S):Nat→Nat→S→Option S
 | 0,_,s=>some s
 | m + 1,k,s=>(f k s).bind (rngF f m (k + 1))
theorem yc0 {S:Type} {f:Nat→S→Option S} {N k:Nat} {s o:S} (hk:k < N) (h:rngF f (N - k) k s=some o):∃s',f k s=some s'∧rngF f (N - (k + 1)) (k + 1) s'=some o:=by
 rw [show N - k=(N - (k + 1)) + 1 by omega,rngF] at h
 exact Option.bind_eq_some_iff.1 h
theorem ycJ {S:Type} {f:Nat→S→Option S} {N:Nat} {s o:S} (h:rngF f (N - N) N s=some o):s=o:=by
 rw [Nat.sub_self,rngF] at h
 exact Option.some.inj h
def Mks (s:Sig) (t:Nat) (ds:List Deferred):Prop:=∃Ds:List Nat,ds=Ds.map mark∧Ds.Nodup∧∀D∈Ds,s.w.heap[D]? =some (.deferred (some []))∧s.tag D=t
theorem Mks.nil {s:Sig} {t:Nat}:Mks s t []:=⟨[],rfl,List.nodup_nil,fun _ h=>by cases h⟩
theorem Mks.mv {S:Nat→Prop} {s s':Sig} {t:Nat} {ds:List Deferred} (h:Mks s t ds) (m:Mv S s s') (hn:¬S t):Mks s' t ds:=by
 obtain⟨Ds,h1,h2,h3⟩:=h
 refine⟨Ds,h1,h2,fun D hD=>?_⟩
 obtain⟨g1,g2⟩:=h3 D hD
 obtain⟨g3,g4⟩:=m.blk D (Array.getElem?_eq_some_iff.1 g1).1 (by rw [g2];exact hn)
 exact⟨g3.trans g1,g4.trans g2⟩
theorem Mks.old {s:Sig} {t:Nat} {ds:List Deferred} (h:Mks s t ds):∀D,mark D∈ds→D < s.w.heap.size:=by
 obtain⟨Ds,rfl,_,h3⟩:=h
 intro D hD
 obtain⟨D',h4,h5⟩:=List.mem_map.1 hD
 cases h5
 exact(Array.getElem?_eq_some_iff.1 (h3 _ h4).1).1
theorem Mks.cons {s:Sig} {t D N:Nat} {ds:List Deferred} (h:Mks s t ds) (ho:∀D,mark D∈ds→D < N) (hD:N≤D) (hk:Mk s t D):Mks s t (mark D :: ds):=by
 obtain⟨Ds,rfl,h2,h3⟩:=h
 refine⟨D :: Ds,rfl,List.nodup_cons.2 ⟨fun hm=>?_,h2⟩,fun D' hD'=>?_⟩
 ·have:=ho D (List.mem_map.2 ⟨D,hm,rfl⟩);omega
 ·rcases List.mem_cons.1 hD' with rfl | h4
  ·exact ⟨hk.mark,hk.tm⟩
  ·exact h3 D' h4
theorem yaA {F:Fence} {n:Nat} {P:Program} {fn:Func} {tmps:Array Value} {R:Ending→World→Prop} {t:Nat}:∀(Ds:List Nat) (s:Sig),Ds.Nodup→(∀D∈Ds,s.w.heap[D]? =some (.deferred (some []))∧s.tag D=t)→
  (∀s',Mv (One t) s s'→∃v,(results fn tmps).run P s'.w= .ok v s'.w∧R (.returned v) s'.w)→LeavesInM F n P fn tmps R (Ds.map mark) .returning s.w
 | [],s,_,_,hfin=>hfin s (Mv.refl _ _)
 | D :: Ds,s,hnd,hD,hfin=>by
  obtain⟨hd,ht⟩:=hD D (List.mem_cons_self ..)
  have hm:Mv (One t) s ⟨s.w.putObj D (.deferred none),s.tag⟩:=by
   refine⟨rfl,rfl,rfl,by simp [World.putObj],fun b hb hn=>⟨World.putObj_heap_other fun e=>hn ?_,rfl⟩⟩
   subst e;exact ht
  refine⟨by simp,.inl ⟨D,_,rfl,run_takeDeferred hd,yaA Ds ⟨s.w.putObj D (.deferred none),s.tag⟩ (List.nodup_cons.1 hnd).2 (fun D' hD'=>⟨?_,(hD D' (List.mem_cons_of_mem _ hD')).2⟩) fun s' hs'=>hfin s' (hm.trans hs')⟩⟩
  show(s.w.putObj D (.deferred none)).heap[D']? =_
  rw [World.putObj_heap_other ?_]
  ·exact (hD D' (List.mem_cons_of_mem _ hD')).1
  ·rintro rfl;exact(List.nodup_cons.1 hnd).1 hD'
theorem X.lv {P:Program} {fn:Func} {R:Ending→World→Prop} {n t:Nat} {e:List (Nat×Value)} {s:Sig} {ds:List Deferred} {x:Exit} (hx:x= .ret∨x= .normal) (hk:Mks s t ds) (h:∀s',Mv (One t) s s'→X Fr.o (bodyPost P fn R) n x e s'.w):
  X ⟨none,ds⟩ (bodyPostM Fence.wide 4 P fn R) n x e s.w:=fun a ha=>by
 obtain⟨Ds,rfl,h2,h3⟩:=hk
 have hl:LeavesInM Fence.wide 4 P fn a.tmps R (Ds.map mark) .returning s.w:=yaA Ds s h2 h3 fun s' hs'=>by
  have:=h s' hs' { a with defers:=[] } ⟨ha.size,rfl,ha.has⟩
  rcases hx with rfl | rfl
  ·exact this.2
  ·exact this.2
 obtain⟨tmps,dd⟩:=a
 obtain rfl:dd=Ds.map mark:=ha.defers
 rcases hx with rfl | rfl
 ·exact hl
 ·exact hl
theorem E.entryM {P:Program} {f:FuncId} {fn:Func} {c:Code} {vs:List Value} {w:World} {R:Ending→World→Prop} {n:Nat} {e:List (Nat×Value)} (hf:P.funcs[f]? =some fn) (hb:fn.body=some c) (hn:fn.ntmps=n) (hv:Nat.ble vs.length n=true) (he:Env.ofArgs 0 vs=e)
  (h:E Fr.o P (bodyPostM Fence.wide 4 P fn R) n c e w):Calls P f vs.toArray w R:=by
 subst hn
 subst he
 have hv':vs.length≤fn.ntmps:=Nat.le_of_ble_eq_true hv
 refine y9d hf hb ((wpIn_wide (n:=2)).1 (h _ ⟨by simp;omega,rfl,fun d v hg=>?_⟩))
 obtain⟨_,h2⟩:=Env.get_ofArgs hg
 have hl:=(List.getElem?_eq_some_iff.1 h2).1
 rw [Nat.sub_zero] at h2 hl
 rw [Array.getElem?_append_left (by simpa using hl)]
 simpa using h2
theorem vlNi :NAg Tryz.prog 32:=NAg.mk' Tryz.underlying32 rfl (by kernel_rfl)
theorem vlNn :NAg Tryz.prog 3:=NAg.mk' Tryz.underlying3 rfl (by kernel_rfl)
theorem vlSi :Sl Tryz.prog 32 3 1:=Sl.mk' Tryz.underlying32 (by kernel_rfl)
theorem vlCf :Cf Tryz.prog 207:=Cf.mk Tryz.func207 (by kernel_rfl) (by kernel_rfl)
def y3G (p0:List Int):Option (List Int):=if p0.length≤4294967296 then some p0 else none
theorem yaS {s:Sig} {q0:List Int} {a1:Option Addr} {c1:Nat} {b2:Nat} (h1:RdL (rK .i64) s a1 c1 q0) (bx2:Bx s 0 b2 #[.slice a1 q0.length c1] 32) (hlen:q0.length≤4294967296):
    FI Tryz.prog s (.func (.func 207) #[] #[.pointer (some ⟨b2,0,none⟩)]) q0.length (fun k=>encI (q0.getD k 0)):=by
 refine⟨207,#[.pointer (some ⟨b2,0,none⟩)],rfl,vlCf,fun l J s1 hle hcl hY h0=>?_⟩
 replace h1:=h1.mono hle
 replace bx2:=bx2.le hle
 have hW:∀i:Nat,i < 4294967296→W ((i:Int) + 1)=((i + 1:Nat):Int):=fun i hi=>by rw [show W ((i:Int) + 1)=(i:Int) + 1 from IntWalk.i64_in _ (by omega)];rfl
 obtain⟨f,hf⟩:∃f:Int→Option (Int ⊕ Unit),f=fun i=>if decide (i < (q0.length:Int)) then some (.inl (W (i + 1))) else some (.inr ()):=⟨_,rfl⟩
 have hit:iter f 0=some ():=by
  refine ybQ (fun i=>(i:Int)) q0.length (by omega) (fun i hi=>?_) ?_
  · rw [hf]
    show(if decide ((i:Int) < (q0.length:Int)) then some (Sum.inl (W ((i:Int) + 1))) else some (Sum.inr ()))=some (Sum.inl (((i + 1:Nat):Int)))
    rw [if_pos (by simpa using hi),hW i (by omega)]
  · rw [hf]
    show(if decide ((q0.length:Int) < (q0.length:Int)) then some (Sum.inl (W ((q0.length:Int) + 1))) else some (Sum.inr ()))=some (Sum.inr ())
    rw [if_neg (by simp)]
 refine E.entry (vs:=[.func (.yield l) #[] #[],.pointer (some ⟨b2,0,none⟩)]) Tryz.func207 rfl Tryz.ntmps207 rfl rfl (E.seq (E.reg (L.ld (j:=0) bx2.mem vlNi Wt.no rfl rfl rfl rfl (L.len vlSi Wt.no rfl rfl (L.mv Wt.no rfl rfl (L.nil (X.seqN (E.block ?_))))))))
 refine E.cut (x:= .exit 0) (fun e w=>∃(s46:Sig),J q0.length s46∧e= []∧w=s46.w) ?_ ?_
 · rintro _ _ ⟨s46,hJ,rfl,rfl⟩
   refine X.blkE ?_
   exact X.rt (.inr rfl) Tryz.results207 Rs.nil rfl ⟨⟨_,rfl⟩,s46,rfl,hJ⟩
 intro K47
 refine E.iter (fun (st43:Int) (e:List (Nat×Value)) (w:World)=>∃(k:Nat) (s44:Sig),st43=(k:Int)∧k≤q0.length∧J k s44∧RdL (rK .i64) s44 a1 c1 q0∧e= [(7,.int .i64 st43),(6,.int .i64 (q0.length:Int)),(5,.slice a1 q0.length c1),(0,.func (.yield l) #[] #[])]∧w=s44.w) hit ⟨0,s1,rfl,Nat.zero_le _,h0,h1,rfl,rfl⟩ (Sub.rf rfl) ?_
 rintro st43 res43 hm ih43 ho43 _ _ ⟨k,s44,rfl,hk,hJ,h1,rfl,rfl⟩
 rw [hf] at hm
 refine E.seq (E.reg (L.bi Wt.no rfl rfl rfl rfl (L.nil (X.seqN (E.seq ?_)))))
 rcases ifS hm with ⟨hc,hm⟩ | ⟨hc,hm⟩
 · refine E.cT rfl hc (E.skip (X.seqN (E.seq (E.block (E.seq (E.reg ?_))))))
   have hk2:k < q0.length:=by simpa using hc
   have ex18:idx q0 (k:Int)=some q0[k]:=by unfold idx;rw [if_pos (by omega),Int.toNat_natCast,yGe hk2]
   have henc: [Value.int .i64 q0[k]]=encI (q0.getD k 0):=by rw [List.getD_eq_getElem?_getD,yGe hk2];rfl
   generalize q0[k]=x18 at ex18 henc
   refine L.ix (r:=(rK .i64)) vlSi h1 Wt.no rfl rfl ex18 rfl fun b19 o19 cc19 me19 rd19=>?_
   obtain rfl:=rd19
   refine L.ld (j:=0) me19 vlNn Wt.no rfl rfl rfl rfl (L.as Wt.no rfl rfl (L.nil (X.seqN (E.seq (E.reg (L.mv Wt.no rfl rfl (L.mv Wt.no rfl rfl ?_)))))))
   refine L.yd (x:= .tmp 11) (xs:=[.tmp 12]) hY hk2 hJ rfl rfl Wt.no rfl (by rw [←henc];rfl) rfl fun s59 hle59 hJ=>?_
   have h1:=h1.mono hle59
   refine L.not Wt.no rfl rfl (L.nil (X.seqN (E.cF rfl rfl (E.skip (X.blkN (X.seqN (E.reg (L.bi Wt.no rfl rfl rfl rfl (L.mv Wt.no rfl rfl (L.nil (X.sub (ih43 _ (Option.some.inj hm).symm _ _ ⟨k + 1,s59,?_,hk2,hJ,h1,rfl,rfl⟩) (Sub.rf rfl))))))))))))
   exact hW k (by omega)
 refine E.cF rfl hc (E.exit (X.seqX (X.seqX ?_)))
 have hkl:k=q0.length:=by simp at hc;omega
 subst hkl
 exact X.sub (K47 _ _ ⟨s44,hJ,rfl,rfl⟩) Sub.nil
theorem y6L {s:Sig} {p0:List Int} {a1:Option Addr} {c1:Nat} {r:List Int} (h1:RdL (rK .i64) s a1 c1 p0) (hm:y3G p0=some r):
    Calls Tryz.prog 157 #[.slice a1 p0.length c1] s.w (RetS No s fun v s'=>FI Tryz.prog s' v r.length (fun k=>encI (r.getD k 0))):=by
 obtain⟨hlen,rfl⟩:p0.length≤4294967296∧p0=r:=by
  unfold y3G at hm
  split at hm
  · exact⟨by assumption,Option.some.inj hm⟩
  · cases hm
 obtain⟨N,hN,hNb⟩:=s.fresh
 have m0:Mv (Up N No) s s:=Mv.refl _ _
 refine E.entry (vs:=[.slice a1 p0.length c1]) Tryz.func157 rfl Tryz.ntmps157 rfl rfl (E.seq (E.reg (L.box (N + 0) Wt.no rfl rfl rfl fun b1 s2 m3 bx1=>?_)))
 replace m0:=m0.trans m3.no
 replace h1:=h1.mono (m3.le no_No)
 refine L.as Wt.no rfl rfl (L.nil (X.seqN (E.seq (E.reg (L.mf Wt.no rfl rfl rfl (L.as Wt.no rfl rfl (L.nil (X.seqN (E.ret ?_)))))))))
 refine X.rt (.inl rfl) Tryz.results157 (Rs.tmp rfl Rs.nil) rfl ⟨_,s2.ren N (fun _=>0),rfl,rfl,m0.ren hNb,?_⟩
 have hr:∀{k b:Nat} {cs:Array Value} {T:TypeId},Bx s2 (N + k) b cs T→Bx (s2.ren N (fun _=>0)) 0 b cs T:=fun h=>⟨h.heap,by simp [Sig.ren,h.htag]⟩
 exact yaS (h1.ren hN) (hr bx1) hlen
theorem bs32 :Bs Tryz.prog 32 3 1 [.int .i64 0]:=Bs.mk' Tryz.underlying32 (by kernel_rfl) (by kernel_rfl) rfl
theorem el3 :El Tryz.prog 3 1 8:=El.mk' (z:= .int .i64 0) (by kernel_rfl) (by kernel_rfl) (by kernel_rfl) rfl
theorem nag32 :NAg Tryz.prog 32:=NAg.mk' Tryz.underlying32 rfl (by kernel_rfl)
def y2P (x22:Int) (st20:List Int):Option (List Int):=
 (app st20 ([x22]:List Int)).bind fun x32=>
 some x32
def y3S (p0:List Int) (p1:List (Int)):Option (List Int):=
 (rngF (fun k=>y2P (p1.getD k 0)) p1.length 0 p0).bind fun o20=>
 some o20
theorem y6b {s:Sig} {p0:List Int} {p1:List (Int)} {t0:Nat} {a1:Option Addr} {c1:Nat} {vp1:Value} {r:List Int} (zt0:0 < t0) (h1:RowT (rK .i64) s t0 3 a1 c1 p0) (hp1:FI Tryz.prog s vp1 p1.length (fun k=>encI (p1.getD k 0))) (hm:y3S p0 p1=some r):
  Calls Tryz.prog 235 #[.slice a1 p0.length c1,vp1] s.w (RetS (One t0) s fun v s'=>∃(a2:Option Addr) (c2:Nat),v= .slice a2 r.length c2∧RowT (rK .i64) s' t0 3 a2 c2 r):=by
 unfold y3S at hm
 obtain⟨N,hN,hNb,lt0,-⟩:=s.freshL [t0]
 have m0:Mv (Up N (One t0)) s s:=Mv.refl _ _
 have mk0:Mks s (N + 0) []:=Mks.nil
 refine E.entryM (vs:=[.slice a1 p0.length c1,vp1]) (e:=[(0,.slice a1 p0.length c1),(1,vp1)]) Tryz.func235 rfl Tryz.ntmps235 rfl rfl ?_
 refine E.seq ?_
 refine E.reg ?_
 refine L.box (N + 1) Wt.no rfl rfl rfl ?_
 intro b3 s4 m5 bx3
 replace m0:=m0.trans m5.no
 replace hp1:=hp1.mono (m5.le no_No)
 replace mk0:=mk0.mv m5 no_No
 replace h1:=h1.mv m5 no_No no_No
 refine L.as Wt.no rfl rfl ?_
 refine L.nil ?_
 refine X.seqN ?_
 refine E.seq ?_
 refine E.seq ?_
 refine E.reg ?_
 refine L.mv Wt.no rfl rfl ?_
 refine L.nil ?_
 refine X.seqN ?_
 refine E.block ?_
 obtain⟨o20,eo20,hm⟩:=bindS hm
 have mko20:=mk0.old
 refine E.range (N + 2) (N + 0) (tgn hN) (by omega) (fun (k:Nat) (s21:Sig)=>∃(st20:List Int) (a7:Option Addr) (c7:Nat),rngF (fun k=>y2P (p1.getD k 0)) (p1.length - k) k st20=some o20∧Mv (Up N (One t0)) s s21∧RowT (rK .i64) s21 t0 3 a7 c7 st20∧Mks s21 (N + 0) []∧Bx s21 (N + 1) b3 #[.slice a7 st20.length c7] 32) rfl hp1 (fun _=>rfl) (by decide) ⟨p0,a1,c1,eo20,m0,h1,mk0,bx3⟩ ?_ ?_
 ·rintro k20 D20 r20 s21 s23 hk20 ⟨st20,a7,c7,hj20,m0,h7,mk0,bx3⟩ m24 rc25 hr20
  obtain⟨res20,hm,hj20⟩:=yc0 hk20 hj20
  have hm:y2P (p1.getD k20 0) st20=some res20:=hm
  show E _ _ _ _ _ (Env.zp _ (encI (p1.getD k20 0)) _) _
  generalize p1.getD k20 0=x22 at hm ⊢
  refine E.sub (e':=[(2,.pointer (some ⟨b3,0,none⟩)),(7,.int .i64 x22)]) (Sub.rf rfl) ?_
  unfold y2P at hm
  replace m0:=m0.trans (m24.one up)
  replace mk0:=mk0.mv m24 (tgN (by decide))
  replace bx3:=bx3.mv m24 (tgN (by decide))
  replace h7:=h7.mv m24 (tgV lt0) (tg0 hN)
  have h26:Lf s23 s23:=Le.refl _
  refine E.reg ?_
  refine L.as Wt.no rfl rfl ?_
  refine L.nil ?_
  refine X.beg rc25 hr20 fun s27 m28 rc25=>?_
  replace m0:=m0.trans (m28.one up)
  replace mk0:=mk0.mv m28 (tgN (by decide))
  replace h26:=h26.mono (m28.le (tg0 hN))
  replace bx3:=bx3.mv m28 (tgN (by decide))
  replace h7:=h7.mv m28 (tgV lt0) (tg0 hN)
  refine E.block ?_
  refine E.reg ?_
  refine L.ld (j:=0) bx3.mem nag32 Wt.no rfl rfl rfl rfl ?_
  refine L.mv Wt.no rfl rfl ?_
  refine L.bsE (k:=1) (cs:=[.int .i64 x22]) 0 bs32 (Nat.le_of_ble_eq_true rfl) Wt.no rfl rfl rfl rfl ?_
  intro b29 s30 m31 bx29
  replace m0:=m0.trans m31.no
  replace h7:=h7.mv m31 no_No no_No
  replace mk0:=mk0.mv m31 no_No
  replace h26:=h26.mono (m31.le no_No)
  replace rc25:=rc25.mv m31 no_No no_No
  replace bx3:=bx3.mv m31 no_No
  have h29:=Bx.rdL (r:=(rK .i64)) (xs:=([x22]:List Int)) bx29 ⟨[.int .i64 x22],_,rfl,rfl,rfl⟩ (Nat.le_of_ble_eq_true rfl)
  obtain⟨x32,ex32,hm⟩:=bindS hm
  refine L.ap (r:=(rK .i64)) Tryz.underlying32 el3 rfl (tgpV zt0) h7 h29.wk Wt.no rfl rfl ex32 rfl ?_
  intro a33 c33 s34 m35 h33
  replace m0:=m0.trans (m35.one (.inr rfl))
  replace mk0:=mk0.mv m35 (tgW lt0)
  replace h26:=h26.mono (m35.le (tgz zt0))
  replace rc25:=rc25.mv m35 (tgW lt0) (tgW lt0)
  replace bx3:=bx3.mv m35 (tgW lt0)
  refine L.st (c:=[.slice a33 x32.length c33]) (cs':= #[.slice a33 x32.length c33]) bx3 nag32.sz Wt.no rfl rfl rfl rfl rfl (Nat.le_of_ble_eq_true rfl) rfl ?_
  intro s36 m37 bx3
  replace m0:=m0.trans (m37.one up)
  replace mk0:=mk0.mv m37 (tgN (by decide))
  replace h26:=h26.mono (m37.le (tg0 hN))
  replace rc25:=rc25.mv m37 (tgN (by decide)) (tgN (by decide))
  replace h33:=h33.mv m37 (tgV lt0) (tg0 hN)
  refine L.nil ?_
  refine X.blkN ?_
  obtain rfl:=Option.some.inj hm
  exact X.rnd ⟨⟨x32,a33,c33,hj20,m0,h33,mk0,bx3⟩,rc25,h26⟩
 ·rintro D20 s21 s23 hD20 ⟨st20,a7,c7,hj20,m0,h7,mk0,bx3⟩ m24 mk20
  have hx:=(ycJ hj20).symm
  subst hx
  replace m0:=m0.trans (m24.one up)
  replace mk0:=mk0.mv m24 (tgN (by decide))
  replace bx3:=bx3.mv m24 (tgN (by decide))
  replace h7:=h7.mv m24 (tgV lt0) (tg0 hN)
  replace mk0:=mk0.cons mko20 hD20 mk20
  refine X.blkN ?_
  refine X.seqN ?_
  refine E.seq ?_
  refine E.reg ?_
  refine L.ld (j:=0) bx3.mem nag32 Wt.no rfl rfl rfl rfl ?_
  refine L.as Wt.no rfl rfl ?_
  refine L.nil ?_
  refine X.seqN ?_
  refine E.ret ?_
  refine X.lv (.inl rfl) mk0 fun s38 m39=>?_
  replace m0:=m0.trans (m39.one up)
  replace h7:=h7.mv m39 (tgV lt0) (tg0 hN)
  obtain rfl:=Option.some.inj hm
  exact X.rt (.inl rfl) Tryz.results235 (Rs.tmp rfl Rs.nil) rfl ⟨_,(s38).ren N (fun _=>0),rfl,rfl,m0.ren hNb,⟨a7,c7,rfl,(h7.renV hN lt0)⟩⟩
theorem cf235 :Cf Tryz.prog 235:=Cf.mk Tryz.func235 (by kernel_rfl) (by kernel_rfl)
def y4d (p0:List (Int)):Option (List Int):=
 (y3S ([]:List Int) p0).bind fun r2=>
 some r2
theorem y6v {s:Sig} {p0:List (Int)} {vp0:Value} {u0:Nat} {r:List Int} (hp0:FI Tryz.prog s vp0 p0.length (fun k=>encI (p0.getD k 0))) (hm:y4d p0=some r):
  Calls Tryz.prog 205 #[vp0] s.w (RetS No s fun v s'=>∃(a1:Option Addr) (c1:Nat),v= .slice a1 r.length c1∧RowT (rK .i64) s' u0 3 a1 c1 r):=by
 unfold y4d at hm
 obtain⟨N,hN,hNb⟩:=s.fresh
 have m0:Mv (Up N No) s s:=Mv.refl _ _
 refine E.entry (vs:=[vp0]) (e:=[(0,vp0)]) Tryz.func205 rfl Tryz.ntmps205 rfl rfl ?_
 refine E.seq ?_
 refine E.reg ?_
 refine L.as Wt.no rfl rfl ?_
 refine L.nil ?_
 refine X.seqN ?_
 refine E.seq ?_
 refine E.reg ?_
 refine L.mv Wt.no rfl rfl ?_
 obtain⟨r2,er2,hm⟩:=bindS hm
 refine L.ca (vs:=[.slice none 0 0,vp0]) cf235 rfl rfl Wt.no rfl (y6b (s:=s) (p0:=([]:List Int)) (p1:=p0) (t0:=(N + 0)) (tpos hN) RowT.nil hp0 er2) rfl ?_
 rintro _ s3 m4 ⟨a5,c5,rfl,h5⟩
 replace m0:=m0.trans (m4.one up)
 refine L.as Wt.no rfl rfl ?_
 refine L.nil ?_
 refine X.seqN ?_
 refine E.ret ?_
 obtain rfl:=Option.some.inj hm
 exact X.rt (.inl rfl) Tryz.results205 (Rs.tmp rfl Rs.nil) rfl ⟨_,(s3).ren N (fun k=>cond (Nat.beq k 0) u0 (0)),rfl,rfl,m0.ren hNb,⟨a5,c5,rfl,(h5.ren hN)⟩⟩
theorem cf205 :Cf Tryz.prog 205:=Cf.mk Tryz.func205 (by kernel_rfl) (by kernel_rfl)
theorem cf206 :Cf Tryz.prog 206:=Cf.mk Tryz.func206 (by kernel_rfl) (by kernel_rfl)
def y3H (p0:List (Int)):Option (List Int):=
 (y4d p0).bind fun r2=>
 (y4I r2).bind fun r6=>
 (lenEq r6 r2).bind fun _=>
 some r6
theorem y6M {s:Sig} {p0:List (Int)} {vp0:Value} {u0:Nat} {r:List Int} (hp0:FI Tryz.prog s vp0 p0.length (fun k=>encI (p0.getD k 0))) (hm:y3H p0=some r):
  Calls Tryz.prog 156 #[vp0] s.w (RetS No s fun v s'=>∃(a1:Option Addr) (c1:Nat),v= .slice a1 r.length c1∧RowT (rK .i64) s' u0 3 a1 c1 r):=by
 unfold y3H at hm
 obtain⟨N,hN,hNb⟩:=s.fresh
 have m0:Mv (Up N No) s s:=Mv.refl _ _
 refine E.entry (vs:=[vp0]) (e:=[(0,vp0)]) Tryz.func156 rfl Tryz.ntmps156 rfl rfl ?_
 refine E.seq ?_
 refine E.reg ?_
 refine L.as Wt.no rfl rfl ?_
 refine L.nil ?_
 refine X.seqN ?_
 refine E.seq ?_
 refine E.reg ?_
 refine L.mv Wt.no rfl rfl ?_
 obtain⟨r2,er2,hm⟩:=bindS hm
 refine L.ca (vs:=[vp0]) cf205 rfl rfl Wt.no rfl (y6v (s:=s) (p0:=p0) (u0:=(N + 0)) hp0 er2) rfl ?_
 rintro _ s3 m4 ⟨a5,c5,rfl,h5⟩
 replace m0:=m0.trans m4.no
 refine L.as Wt.no rfl rfl ?_
 refine L.nil ?_
 refine X.seqN ?_
 refine E.seq ?_
 refine E.reg ?_
 refine L.mv Wt.no rfl rfl ?_
 obtain⟨r6,er6,hm⟩:=bindS hm
 refine L.ca (vs:=[.slice a5 r2.length c5]) cf206 rfl rfl Wt.no rfl (y7r (s:=s3) (p0:=r2) (t0:=(N + 0)) (tpos hN) h5 er6) rfl ?_
 rintro _ s7 m8 ⟨rfl,h5⟩
 obtain⟨_,qz9,hm⟩:=bindS hm
 have elz9:=ybS qz9
 replace m0:=m0.trans (m8.one up)
 refine L.reval (d:=3) rfl elz9 ?_
 refine L.nil ?_
 refine X.seqN ?_
 refine E.seq ?_
 refine E.reg ?_
 refine L.mv Wt.no rfl rfl ?_
 refine L.as Wt.no rfl rfl ?_
 refine L.nil ?_
 refine X.seqN ?_
 refine E.ret ?_
 obtain rfl:=Option.some.inj hm
 exact X.rt (.inl rfl) Tryz.results156 (Rs.tmp rfl Rs.nil) rfl ⟨_,(s7).ren N (fun k=>cond (Nat.beq k 0) u0 (0)),rfl,rfl,m0.ren hNb,⟨a5,c5,rfl,(h5.ren hN)⟩⟩
def lT (P:Program) (xs:List Int):LV:=⟨fun _ s v=>FI P s v xs.length (fun k=>encI (xs.getD k 0)),[],none,none,fun _ hl h=>h.mono hl,nofun,nofun,fun⟨_,_,e,_⟩=>by rw [e];rfl⟩
theorem y5j {p0:List Int} {r:ByteArray} (hm:y3d p0=some r):Fw Tryz.prog 98 ⟨0,[]⟩ [.f qI p0] [] (.o (lV (.string r))) []:=
 ⟨fun ts β s vs _ _ _ _ ⟨v,us,⟨a,c,e,h⟩,hu,e2⟩ _=>by
  have hu:us= []:=hu
  subst hu;subst e;subst e2
  exact Calls.mono (y8B h hm) fun en w' ⟨v,s',e1,e2,m,hv⟩=>⟨v,s',e1,e2,m.no,β,fun _ _=>rfl,⟨hv,rfl⟩,fun i o ho=>by simp at ho⟩⟩
theorem y6N {p0:List Int} {r:List Int} (hm:y3G p0=some r):Fw Tryz.prog 157 ⟨0,[]⟩ [.f qI p0] [] (.o (lT Tryz.prog r)) []:=
 ⟨fun ts β s vs _ _ _ _ ⟨v,us,⟨a,c,e,h⟩,hu,e2⟩ _=>by
  have hu:us= []:=hu
  subst hu;subst e;subst e2
  exact Calls.mono (y6L h hm) fun en w' ⟨v,s',e1,e2,m,hv⟩=>⟨v,s',e1,e2,m.no,β,fun _ _=>rfl,hv,fun i o ho=>by simp at ho⟩⟩
theorem y6O {p0:List Int} {r:List Int} (hm:y3H p0=some r):Fw Tryz.prog 156 ⟨0,[]⟩ [.o (lT Tryz.prog p0)] [] (.h 0) [ROW qI 3 r]:=
 ⟨fun ts β s vs ht _ _ _ ⟨v,us,h,hu,e2⟩ _=>by
  have hu:us= []:=hu
  subst hu;subst e2
  obtain⟨t,rfl⟩:∃t,ts= [t]:=by
   match ts,ht with
   | [t],_=>exact⟨t,rfl⟩
  exact Calls.mono (y6M (u0:=t) h hm) fun en w' ⟨v,s',e1,e2,m,a,c,hv,hr⟩=>⟨v,s',e1,e2,m.no,fun _=>v,fun i hi=>(by cases hi),⟨rfl,by rw [hv];rfl⟩,fun i o ho=>by
   match i,ho with
   | 0,ho=>cases ho;exact⟨a,c,hv,hr⟩⟩⟩
theorem y6w {p0:List Int} {r:List Int} (hm:y2V p0=some r):Fw Tryz.prog 142 ⟨1,[0]⟩ [.h 0] [ROW qI 3 p0] (.tp []) [ROW qI 3 r]:=
 ⟨fun ts β s vs ht _ _ hp ⟨v,us,h,hu,e2⟩ ho=>by
  have hu:us= []:=hu
  subst hu;subst e2
  obtain⟨t,rfl⟩:∃t,ts= [t]:=by
   match ts,ht with
   | [t],_=>exact⟨t,rfl⟩
  obtain⟨a,c,e,h2⟩:=ho 0 _ rfl
  have hv:v= .slice a p0.length c:=h.1.trans e
  subst hv
  have hl:r.length=p0.length:=by
   unfold y2V at hm
   split at hm
   ·cases hm;exact List.length_reverse
   ·cases hm
  exact Calls.mono (y6u (hp t (.head _)) h2 hm) fun en w' ⟨v,s',e1,e2,m,hv,hr⟩=>⟨v,s',e1,e2,m.weak fun t' ht'=>⟨0,.head _,by rw [show t'=t from ht'];rfl⟩,β,fun _ _=>rfl,⟨[],rfl,hv⟩,fun i o ho=>by
   match i,ho with
   | 0,ho=>cases ho;exact⟨a,c,by rw [e,hl],hr⟩⟩⟩
end
end Go.Proofs.YtecmobjeeonmaaaGreatDoor
set_option maxRecDepth 100000
set_option maxHeartbeats 8000000
namespace Go.Proofs.YtecmobjeeonmaaaGreatDoor
open Go Go.RowKit
noncomputable section
abbrev Arr55 :=(Int×Int×Int×Int×Int)×(Int×Int×Int×Int×Int)×(Int×Int×Int×Int×Int)×(Int×Int×Int×Int×Int)×(Int×Int×Int×Int×Int)
abbrev y1O :=Int×Int×Arr55
abbrev EdgL :=List (Int×Int×Int)
abbrev KeyT :=(Int×Int)×Int
theorem ag35 :Ag Tryz.prog 35 4:=Ag.mk' Tryz.underlying35 rfl (by kernel_rfl)
theorem ag37 :Ag Tryz.prog 37 9:=Ag.mk' Tryz.underlying37 rfl (by kernel_rfl)
theorem bs33 :Bs Tryz.prog 33 124 3 [.int .i64 0,.int .i64 0,.int .i64 0]:=Bs.mk' Tryz.underlying33 (by kernel_rfl) (by kernel_rfl) rfl
theorem pl124 :Pl Tryz.prog 124 [(0,1),(1,1),(2,1)] [.int .i64 0,.int .i64 0,.int .i64 0]:=Pl.str Tryz.underlying124 (by kernel_rfl) (by kernel_rfl)
theorem pl35 :Pl Tryz.prog 35 [(0,1),(1,1),(2,1),(3,1)] [.slice none 0 0,.int .i64 0,.slice none 0 0,.slice none 0 0]:=Pl.str Tryz.underlying35 (by kernel_rfl) (by kernel_rfl)
theorem pl37 :Pl Tryz.prog 37 [(0,4),(4,4),(8,1)] [.slice none 0 0,.int .i64 0,.slice none 0 0,.slice none 0 0,.slice none 0 0,.int .i64 0,.slice none 0 0,.slice none 0 0,.slice none 0 0]:=Pl.str Tryz.underlying37 (by kernel_rfl) (by kernel_rfl)
theorem zz35 :(Tryz.prog.info? 35).bind (·.zero)=some (.agg #[.slice none 0 0,.int .i64 0,.slice none 0 0,.slice none 0 0]):=by kernel_rfl
theorem zz37 :(Tryz.prog.info? 37).bind (·.zero)=some (.agg #[.slice none 0 0,.int .i64 0,.slice none 0 0,.slice none 0 0,.slice none 0 0,.int .i64 0,.slice none 0 0,.slice none 0 0,.slice none 0 0]):=by kernel_rfl
theorem nag3 :NAg Tryz.prog 3:=NAg.mk' Tryz.underlying3 rfl (by kernel_rfl)
theorem sl32 :Sl Tryz.prog 32 3 1:=Sl.mk' Tryz.underlying32 (by kernel_rfl)
theorem lv3 {y:Int}:Lv qI y [lI y]:= .k
theorem cf169 :Cf Tryz.prog 169:=Cf.mk Tryz.func169 (by kernel_rfl) (by kernel_rfl)
theorem ag124 :Ag Tryz.prog 124 3:=Ag.mk' Tryz.underlying124 rfl (by kernel_rfl)
theorem cf104 :Cf Tryz.prog 104:=Cf.mk Tryz.func104 (by kernel_rfl) (by kernel_rfl)
theorem y2j :FA Tryz.prog 124 0 0:=FA.mk Tryz.underlying124 rfl rfl ⟨1,by decide,by kernel_rfl⟩
theorem y3Z :FA Tryz.prog 124 1 1:=FA.mk Tryz.underlying124 rfl rfl ⟨1,by decide,by kernel_rfl⟩
theorem y3g :FA Tryz.prog 124 2 2:=FA.mk Tryz.underlying124 rfl rfl ⟨1,by decide,by kernel_rfl⟩
theorem y1S :FA Tryz.prog 35 0 0:=FA.mk Tryz.underlying35 rfl rfl ⟨1,by decide,by kernel_rfl⟩
theorem y1T :FA Tryz.prog 35 1 1:=FA.mk Tryz.underlying35 rfl rfl ⟨1,by decide,by kernel_rfl⟩
theorem y1h :FA Tryz.prog 35 3 3:=FA.mk Tryz.underlying35 rfl rfl ⟨1,by decide,by kernel_rfl⟩
theorem nag33 :NAg Tryz.prog 33:=NAg.mk' Tryz.underlying33 rfl (by kernel_rfl)
theorem sl33 :Sl Tryz.prog 33 124 3:=Sl.mk' Tryz.underlying33 (by kernel_rfl)
theorem zz124 :(Tryz.prog.info? 124).bind (·.zero)=some (.agg #[.int .i64 0,.int .i64 0,.int .i64 0]):=by kernel_rfl
theorem lv124 {y:Int×Int×Int}:Lv qT y [lI y.1,lI y.2.1,lI y.2.2]:=(.p .k (.p .k .k))
theorem cf164 :Cf Tryz.prog 164:=Cf.mk Tryz.func164 (by kernel_rfl) (by kernel_rfl)
theorem cf165 :Cf Tryz.prog 165:=Cf.mk Tryz.func165 (by kernel_rfl) (by kernel_rfl)
theorem y3l :FA Tryz.prog 35 2 2:=FA.mk Tryz.underlying35 rfl rfl ⟨1,by decide,by kernel_rfl⟩
theorem cf75 :Cf Tryz.prog 75:=Cf.mk Tryz.func75 (by kernel_rfl) (by kernel_rfl)
theorem cf76 :Cf Tryz.prog 76:=Cf.mk Tryz.func76 (by kernel_rfl) (by kernel_rfl)
theorem cf17 :Cf Tryz.prog 17:=Cf.mk Tryz.func17 (by kernel_rfl) (by kernel_rfl)
theorem cf101 :Cf Tryz.prog 101:=Cf.mk Tryz.func101 (by kernel_rfl) (by kernel_rfl)
theorem sl66 :Sl Tryz.prog 66 35 4:=Sl.mk' Tryz.underlying66 (by kernel_rfl)
abbrev rE35 :Rep AutT:=(rP (rL qI) (rP qI (rP (rL qI) (rL qT))))
theorem lv35 {y:AutT}:Lv rE35 y [lF qI y.1,lI y.2.1,lF qI y.2.2.1,lF qT y.2.2.2]:=(.p .l (.p .k (.p .l .l)))
theorem cf237 :Cf Tryz.prog 237:=Cf.mk Tryz.func237 (by kernel_rfl) (by kernel_rfl)
theorem cf210 :Cf Tryz.prog 210:=Cf.mk Tryz.func210 (by kernel_rfl) (by kernel_rfl)
theorem flr3 :FlatR (rK .i64):=fun _ _ _ _ h=>h
theorem ag162 :Ag Tryz.prog 162 3:=Ag.mk' Tryz.underlying162 rfl (by kernel_rfl)
theorem bs160 :Bs Tryz.prog 160 139 1 [.map none]:=Bs.mk' Tryz.underlying160 (by kernel_rfl) (by kernel_rfl) rfl
theorem cf159 :Cf Tryz.prog 159:=Cf.mk Tryz.func159 (by kernel_rfl) (by kernel_rfl)
theorem el139 :El Tryz.prog 139 1 8:=El.mk' (z:= .map none) (by kernel_rfl) (by kernel_rfl) (by kernel_rfl) rfl
theorem y9e :FA Tryz.prog 162 2 2:=FA.mk Tryz.underlying162 rfl rfl ⟨1,by decide,by kernel_rfl⟩
theorem md139 :Md Tryz.prog 139 241 3 kvP (rK .i64) 0 (.int .i64 0):=Md.mk' Tryz.underlying139 (KE.pair' Tryz.underlying241 (by kernel_rfl) Tryz.underlying3 (by kernel_rfl) (NAg.mk' Tryz.underlying3 rfl (by kernel_rfl)).agg) (by kernel_rfl) (fun _=>rfl)
theorem ya2 :NAg Tryz.prog 160:=NAg.mk' Tryz.underlying160 rfl (by kernel_rfl)
theorem pl162 :Pl Tryz.prog 162 [(0,1),(1,1),(2,1)] [.slice none 0 0,.slice none 0 0,.slice none 0 0]:=Pl.str Tryz.underlying162 (by kernel_rfl) (by kernel_rfl)
theorem pl241 :Pl Tryz.prog 241 (plK 1 2 0) [.int .i64 0,.int .i64 0]:=Pl.arr Tryz.underlying241 (by kernel_rfl) (by kernel_rfl)
theorem zz162 :(Tryz.prog.info? 162).bind (·.zero)=some (.agg #[.slice none 0 0,.slice none 0 0,.slice none 0 0]):=by kernel_rfl
theorem y7O :FA Tryz.prog 162 0 0:=FA.mk Tryz.underlying162 rfl rfl ⟨1,by decide,by kernel_rfl⟩
theorem nag66 :NAg Tryz.prog 66:=NAg.mk' Tryz.underlying66 rfl (by kernel_rfl)
theorem zr3 :Zr Tryz.prog (rK .i64) 3 8 (0:Int):=Zr.mk' (v:= .int .i64 0) (by kernel_rfl) (by kernel_rfl) (by kernel_rfl) (fun _=>rfl)
theorem cf214 :Cf Tryz.prog 214:=Cf.mk Tryz.func214 (by kernel_rfl) (by kernel_rfl)
theorem cf208 :Cf Tryz.prog 208:=Cf.mk Tryz.func208 (by kernel_rfl) (by kernel_rfl)
theorem cf209 :Cf Tryz.prog 209:=Cf.mk Tryz.func209 (by kernel_rfl) (by kernel_rfl)
theorem cf158 :Cf Tryz.prog 158:=Cf.mk Tryz.func158 (by kernel_rfl) (by kernel_rfl)
theorem cf94 :Cf Tryz.prog 94:=Cf.mk Tryz.func94 (by kernel_rfl) (by kernel_rfl)
theorem cf103 :Cf Tryz.prog 103:=Cf.mk Tryz.func103 (by kernel_rfl) (by kernel_rfl)
theorem ya3 :NAg Tryz.prog 139:=NAg.mk' Tryz.underlying139 rfl (by kernel_rfl)
theorem sl160 :Sl Tryz.prog 160 139 1:=Sl.mk' Tryz.underlying160 (by kernel_rfl)
theorem lv139 {y:List KeyT}:Lv (rM kvP qI) y [lM kvP qI y]:= .m
theorem bs53 :Bs Tryz.prog 53 32 1 [.slice none 0 0]:=Bs.mk' Tryz.underlying53 (by kernel_rfl) (by kernel_rfl) rfl
theorem cf100 :Cf Tryz.prog 100:=Cf.mk Tryz.func100 (by kernel_rfl) (by kernel_rfl)
theorem cf95 :Cf Tryz.prog 95:=Cf.mk Tryz.func95 (by kernel_rfl) (by kernel_rfl)
theorem cf96 :Cf Tryz.prog 96:=Cf.mk Tryz.func96 (by kernel_rfl) (by kernel_rfl)
theorem cf97 :Cf Tryz.prog 97:=Cf.mk Tryz.func97 (by kernel_rfl) (by kernel_rfl)
theorem cf98 :Cf Tryz.prog 98:=Cf.mk Tryz.func98 (by kernel_rfl) (by kernel_rfl)
theorem cf99 :Cf Tryz.prog 99:=Cf.mk Tryz.func99 (by kernel_rfl) (by kernel_rfl)
theorem el124 :El Tryz.prog 124 3 24:=El.mk' (z:= .agg #[.int .i64 0,.int .i64 0,.int .i64 0]) (by kernel_rfl) (by kernel_rfl) (by kernel_rfl) rfl
theorem el32 :El Tryz.prog 32 1 24:=El.mk' (z:= .slice none 0 0) (by kernel_rfl) (by kernel_rfl) (by kernel_rfl) rfl
theorem yaB :FA Tryz.prog 162 1 1:=FA.mk Tryz.underlying162 rfl rfl ⟨1,by decide,by kernel_rfl⟩
theorem md167 :Md Tryz.prog 167 9 3 kvS (rK .i64) 0 (.int .i64 0):=Md.mk' Tryz.underlying167 (KE.string Tryz.underlying9) (by kernel_rfl) (fun _=>rfl)
theorem sl53 :Sl Tryz.prog 53 32 1:=Sl.mk' Tryz.underlying53 (by kernel_rfl)
theorem lv32 {y:List Int}:Lv (rL qI) y [lF qI y]:= .l
theorem cf196 :Cf Tryz.prog 196:=Cf.mk Tryz.func196 (by kernel_rfl) (by kernel_rfl)
theorem ag141 :Ag Tryz.prog 141 5:=Ag.mk' Tryz.underlying141 rfl (by kernel_rfl)
theorem yaC :FA Tryz.prog 141 1 4:=FA.mk Tryz.underlying141 rfl rfl ⟨1,by decide,by kernel_rfl⟩
theorem pl141 :Pl Tryz.prog 141 [(0,4),(4,1)] [.slice none 0 0,.int .i64 0,.slice none 0 0,.slice none 0 0,.map none]:=Pl.str Tryz.underlying141 (by kernel_rfl) (by kernel_rfl)
theorem zz141 :(Tryz.prog.info? 141).bind (·.zero)=some (.agg #[.slice none 0 0,.int .i64 0,.slice none 0 0,.slice none 0 0,.map none]):=by kernel_rfl
theorem bs66 :Bs Tryz.prog 66 35 4 [.slice none 0 0,.int .i64 0,.slice none 0 0,.slice none 0 0]:=Bs.mk' Tryz.underlying66 (by kernel_rfl) (by kernel_rfl) rfl
theorem cf145 :Cf Tryz.prog 145:=Cf.mk Tryz.func145 (by kernel_rfl) (by kernel_rfl)
theorem cf151 :Cf Tryz.prog 151:=Cf.mk Tryz.func151 (by kernel_rfl) (by kernel_rfl)
theorem cf25 :Cf Tryz.prog 25:=Cf.mk Tryz.func25 (by kernel_rfl) (by kernel_rfl)
theorem cf26 :Cf Tryz.prog 26:=Cf.mk Tryz.func26 (by kernel_rfl) (by kernel_rfl)
theorem cf32 :Cf Tryz.prog 32:=Cf.mk Tryz.func32 (by kernel_rfl) (by kernel_rfl)
theorem y6c :FA Tryz.prog 37 0 0:=FA.mk Tryz.underlying37 rfl rfl ⟨4,by decide,by kernel_rfl⟩
theorem y5y :FA Tryz.prog 37 1 4:=FA.mk Tryz.underlying37 rfl rfl ⟨4,by decide,by kernel_rfl⟩
theorem ybk :FA Tryz.prog 37 2 8:=FA.mk Tryz.underlying37 rfl rfl ⟨1,by decide,by kernel_rfl⟩
theorem pl155 :Pl Tryz.prog 155 [(0,5),(5,5),(10,5),(15,1),(16,1),(17,1)] [.slice none 0 0,.int .i64 0,.slice none 0 0,.slice none 0 0,.map none,.slice none 0 0,.int .i64 0,.slice none 0 0,.slice none 0 0,.map none,.slice none 0 0,.int .i64 0,.slice none 0 0,.slice none 0 0,.map none,.slice none 0 0,.slice none 0 0,.slice none 0 0]:=Pl.str Tryz.underlying155 (by kernel_rfl) (by kernel_rfl)
abbrev rE141 :Rep (AutT×(List KeyT)):=(rP rE35 (rM kvP qI))
abbrev rE155 :Rep ((AutT×(List KeyT))×(AutT×(List KeyT))×(AutT×(List KeyT))×List (List Int)×List Int×List Int):=(rP rE141 (rP rE141 (rP rE141 (rP (rL (rL qI)) (rP (rL qI) (rL qI))))))
theorem bs258 :Bs Tryz.prog 258 257 2 [.int .i64 0,.slice none 0 0]:=Bs.mk' Tryz.underlying258 (by kernel_rfl) (by kernel_rfl) rfl
theorem cf150 :Cf Tryz.prog 150:=Cf.mk Tryz.func150 (by kernel_rfl) (by kernel_rfl)
theorem el257 :El Tryz.prog 257 2 32:=El.mk' (z:= .agg #[.int .i64 0,.slice none 0 0]) (by kernel_rfl) (by kernel_rfl) (by kernel_rfl) rfl
theorem y9f :FA Tryz.prog 155 0 0:=FA.mk Tryz.underlying155 rfl rfl ⟨5,by decide,by kernel_rfl⟩
theorem y9g :FA Tryz.prog 155 3 15:=FA.mk Tryz.underlying155 rfl rfl ⟨1,by decide,by kernel_rfl⟩
theorem y9h :FA Tryz.prog 155 4 16:=FA.mk Tryz.underlying155 rfl rfl ⟨1,by decide,by kernel_rfl⟩
theorem ycK :FA Tryz.prog 257 0 0:=FA.mk Tryz.underlying257 rfl rfl ⟨1,by decide,by kernel_rfl⟩
theorem y6P :FA Tryz.prog 257 1 1:=FA.mk Tryz.underlying257 rfl rfl ⟨1,by decide,by kernel_rfl⟩
theorem nag53 :NAg Tryz.prog 53:=NAg.mk' Tryz.underlying53 rfl (by kernel_rfl)
theorem pl257 :Pl Tryz.prog 257 [(0,1),(1,1)] [.int .i64 0,.slice none 0 0]:=Pl.str Tryz.underlying257 (by kernel_rfl) (by kernel_rfl)
theorem sl258 :Sl Tryz.prog 258 257 2:=Sl.mk' Tryz.underlying258 (by kernel_rfl)
abbrev rE257 :Rep (Int×List Int):=(rP qI (rL qI))
theorem lv257 {y:Int×List Int}:Lv rE257 y [lI y.1,lF qI y.2]:=(.p .k .l)
abbrev lx155 (y:(AutT×(List KeyT))×(AutT×(List KeyT))×(AutT×(List KeyT))×List (List Int)×List Int×List Int):List LV:=[lF qI y.1.1.1,lI y.1.1.2.1,lF qI y.1.1.2.2.1,lF qT y.1.1.2.2.2,lM kvP qI y.1.2,lF qI y.2.1.1.1,lI y.2.1.1.2.1,lF qI y.2.1.1.2.2.1,lF qT y.2.1.1.2.2.2,lM kvP qI y.2.1.2,lF qI y.2.2.1.1.1,lI y.2.2.1.1.2.1,lF qI y.2.2.1.1.2.2.1,lF qT y.2.2.1.1.2.2.2,lM kvP qI y.2.2.1.2,lF (rL qI) y.2.2.2.1,lF qI y.2.2.2.2.1,lF qI y.2.2.2.2.2]
theorem y3B :FA Tryz.prog 141 0 0:=FA.mk Tryz.underlying141 rfl rfl ⟨4,by decide,by kernel_rfl⟩
theorem y9i :FA Tryz.prog 155 1 5:=FA.mk Tryz.underlying155 rfl rfl ⟨5,by decide,by kernel_rfl⟩
theorem cf156 :Cf Tryz.prog 156:=Cf.mk Tryz.func156 (by kernel_rfl) (by kernel_rfl)
theorem cf157 :Cf Tryz.prog 157:=Cf.mk Tryz.func157 (by kernel_rfl) (by kernel_rfl)
theorem cf87 :Cf Tryz.prog 87:=Cf.mk Tryz.func87 (by kernel_rfl) (by kernel_rfl)
theorem cf140 :Cf Tryz.prog 140:=Cf.mk Tryz.func140 (by kernel_rfl) (by kernel_rfl)
theorem cf142 :Cf Tryz.prog 142:=Cf.mk Tryz.func142 (by kernel_rfl) (by kernel_rfl)
theorem cf152 :Cf Tryz.prog 152:=Cf.mk Tryz.func152 (by kernel_rfl) (by kernel_rfl)
theorem ag44 :Ag Tryz.prog 44 3:=Ag.mk' Tryz.underlying44 rfl (by kernel_rfl)
theorem cf109 :Cf Tryz.prog 109:=Cf.mk Tryz.func109 (by kernel_rfl) (by kernel_rfl)
theorem cf81 :Cf Tryz.prog 81:=Cf.mk Tryz.func81 (by kernel_rfl) (by kernel_rfl)
theorem cf85 :Cf Tryz.prog 85:=Cf.mk Tryz.func85 (by kernel_rfl) (by kernel_rfl)
theorem cf93 :Cf Tryz.prog 93:=Cf.mk Tryz.func93 (by kernel_rfl) (by kernel_rfl)
theorem y5V :FA Tryz.prog 155 2 10:=FA.mk Tryz.underlying155 rfl rfl ⟨5,by decide,by kernel_rfl⟩
theorem pl44 :Pl Tryz.prog 44 [(0,1),(1,1),(2,1)] [.int .i64 0,.slice none 0 0,.slice none 0 0]:=Pl.str Tryz.underlying44 (by kernel_rfl) (by kernel_rfl)
theorem zz44 :(Tryz.prog.info? 44).bind (·.zero)=some (.agg #[.int .i64 0,.slice none 0 0,.slice none 0 0]):=by kernel_rfl
theorem lv155 {y:(AutT×(List KeyT))×(AutT×(List KeyT))×(AutT×(List KeyT))×List (List Int)×List Int×List Int}:Lv rE155 y [lF qI y.1.1.1,lI y.1.1.2.1,lF qI y.1.1.2.2.1,lF qT y.1.1.2.2.2,lM kvP qI y.1.2,lF qI y.2.1.1.1,lI y.2.1.1.2.1,lF qI y.2.1.1.2.2.1,lF qT y.2.1.1.2.2.2,lM kvP qI y.2.1.2,lF qI y.2.2.1.1.1,lI y.2.2.1.1.2.1,lF qI y.2.2.1.1.2.2.1,lF qT y.2.2.1.1.2.2.2,lM kvP qI y.2.2.1.2,lF (rL qI) y.2.2.2.1,lF qI y.2.2.2.2.1,lF qI y.2.2.2.2.2]:=(.p (.p (.p .l (.p .k (.p .l .l))) .m) (.p (.p (.p .l (.p .k (.p .l .l))) .m) (.p (.p (.p .l (.p .k (.p .l .l))) .m) (.p .l (.p .l .l)))))
theorem cf148 :Cf Tryz.prog 148:=Cf.mk Tryz.func148 (by kernel_rfl) (by kernel_rfl)
theorem y7C :NAg Tryz.prog 136:=NAg.mk' Tryz.underlying136 rfl (by kernel_rfl)
theorem cf136 :Cf Tryz.prog 136:=Cf.mk Tryz.func136 (by kernel_rfl) (by kernel_rfl)
theorem cf203 :Cf Tryz.prog 203:=Cf.mk Tryz.func203 (by kernel_rfl) (by kernel_rfl)
theorem cf149 :Cf Tryz.prog 149:=Cf.mk Tryz.func149 (by kernel_rfl) (by kernel_rfl)
theorem md229 :Md Tryz.prog 229 3 3 kvI (rK .i64) 0 (.int .i64 0):=Md.mk' Tryz.underlying229 (KE.int Tryz.underlying3) (by kernel_rfl) (fun _=>rfl)
theorem nag4 :NAg Tryz.prog 4:=NAg.mk' Tryz.underlying4 rfl (by kernel_rfl)
theorem sl144 :Sl Tryz.prog 144 4 1:=Sl.mk' Tryz.underlying144 (by kernel_rfl)
theorem zr4 :Zr Tryz.prog rB 4 1 false:=Zr.mk' (v:= .bool false) (by kernel_rfl) (by kernel_rfl) (by kernel_rfl) (fun _=>rfl)
theorem lv4 {y:Bool}:Lv rB y [lB y]:= .b
theorem cf77 :Cf Tryz.prog 77:=Cf.mk Tryz.func77 (by kernel_rfl) (by kernel_rfl)
theorem cf78 :Cf Tryz.prog 78:=Cf.mk Tryz.func78 (by kernel_rfl) (by kernel_rfl)
theorem cf79 :Cf Tryz.prog 79:=Cf.mk Tryz.func79 (by kernel_rfl) (by kernel_rfl)
theorem cf80 :Cf Tryz.prog 80:=Cf.mk Tryz.func80 (by kernel_rfl) (by kernel_rfl)
theorem cf82 :Cf Tryz.prog 82:=Cf.mk Tryz.func82 (by kernel_rfl) (by kernel_rfl)
theorem cf19 :Cf Tryz.prog 19:=Cf.mk Tryz.func19 (by kernel_rfl) (by kernel_rfl)
theorem cf29 :Cf Tryz.prog 29:=Cf.mk Tryz.func29 (by kernel_rfl) (by kernel_rfl)
theorem cf36 :Cf Tryz.prog 36:=Cf.mk Tryz.func36 (by kernel_rfl) (by kernel_rfl)
theorem cf71 :Cf Tryz.prog 71:=Cf.mk Tryz.func71 (by kernel_rfl) (by kernel_rfl)
theorem ybl :FA Tryz.prog 44 0 0:=FA.mk Tryz.underlying44 rfl rfl ⟨1,by decide,by kernel_rfl⟩
theorem ybm :FA Tryz.prog 44 1 1:=FA.mk Tryz.underlying44 rfl rfl ⟨1,by decide,by kernel_rfl⟩
theorem ybn :FA Tryz.prog 44 2 2:=FA.mk Tryz.underlying44 rfl rfl ⟨1,by decide,by kernel_rfl⟩
theorem cf229 :Cf Tryz.prog 229:=Cf.mk Tryz.func229 (by kernel_rfl) (by kernel_rfl)
theorem cf55 :Cf Tryz.prog 55:=Cf.mk Tryz.func55 (by kernel_rfl) (by kernel_rfl)
theorem cf194 :Cf Tryz.prog 194:=Cf.mk Tryz.func194 (by kernel_rfl) (by kernel_rfl)
theorem cf228 :Cf Tryz.prog 228:=Cf.mk Tryz.func228 (by kernel_rfl) (by kernel_rfl)
theorem cf230 :Cf Tryz.prog 230:=Cf.mk Tryz.func230 (by kernel_rfl) (by kernel_rfl)
theorem cf195 :Cf Tryz.prog 195:=Cf.mk Tryz.func195 (by kernel_rfl) (by kernel_rfl)
theorem ybo :FA Tryz.prog 26 0 0:=FA.mk Tryz.underlying26 rfl rfl ⟨1,by decide,by kernel_rfl⟩
theorem yd8 :FA Tryz.prog 26 1 1:=FA.mk Tryz.underlying26 rfl rfl ⟨1,by decide,by kernel_rfl⟩
theorem yd9 :FA Tryz.prog 26 2 2:=FA.mk Tryz.underlying26 rfl rfl ⟨25,by decide,by kernel_rfl⟩
theorem y4a :FlatR (rP (rK .i64) (rP (rK .i64) (rK .i64))):=fun _ _ _ _ h=>h
theorem ia23 :IA Tryz.prog 23 5 1:=IA.mk Tryz.underlying23 (by kernel_rfl)
theorem ia24 :IA Tryz.prog 24 5 5:=IA.mk Tryz.underlying24 (by kernel_rfl)
theorem nag5 :NAg Tryz.prog 5:=NAg.mk' Tryz.underlying5 rfl (by kernel_rfl)
abbrev lx26 (y:y1O):List LV:=[lV (.int .u8 y.1),lV (.int .u8 y.2.1),lV (.int .u8 y.2.2.1.1),lV (.int .u8 y.2.2.1.2.1),lV (.int .u8 y.2.2.1.2.2.1),lV (.int .u8 y.2.2.1.2.2.2.1),lV (.int .u8 y.2.2.1.2.2.2.2),lV (.int .u8 y.2.2.2.1.1),lV (.int .u8 y.2.2.2.1.2.1),lV (.int .u8 y.2.2.2.1.2.2.1),lV (.int .u8 y.2.2.2.1.2.2.2.1),lV (.int .u8 y.2.2.2.1.2.2.2.2),lV (.int .u8 y.2.2.2.2.1.1),lV (.int .u8 y.2.2.2.2.1.2.1),lV (.int .u8 y.2.2.2.2.1.2.2.1),lV (.int .u8 y.2.2.2.2.1.2.2.2.1),lV (.int .u8 y.2.2.2.2.1.2.2.2.2),lV (.int .u8 y.2.2.2.2.2.1.1),lV (.int .u8 y.2.2.2.2.2.1.2.1),lV (.int .u8 y.2.2.2.2.2.1.2.2.1),lV (.int .u8 y.2.2.2.2.2.1.2.2.2.1),lV (.int .u8 y.2.2.2.2.2.1.2.2.2.2),lV (.int .u8 y.2.2.2.2.2.2.1),lV (.int .u8 y.2.2.2.2.2.2.2.1),lV (.int .u8 y.2.2.2.2.2.2.2.2.1),lV (.int .u8 y.2.2.2.2.2.2.2.2.2.1),lV (.int .u8 y.2.2.2.2.2.2.2.2.2.2)]
theorem ag26 :Ag Tryz.prog 26 27:=Ag.mk' Tryz.underlying26 rfl (by kernel_rfl)
theorem cf143 :Cf Tryz.prog 143:=Cf.mk Tryz.func143 (by kernel_rfl) (by kernel_rfl)
theorem cf144 :Cf Tryz.prog 144:=Cf.mk Tryz.func144 (by kernel_rfl) (by kernel_rfl)
theorem ybp :FA Tryz.prog 28 0 0:=FA.mk Tryz.underlying28 rfl rfl ⟨1,by decide,by kernel_rfl⟩
theorem ybq :FA Tryz.prog 28 1 1:=FA.mk Tryz.underlying28 rfl rfl ⟨27,by decide,by kernel_rfl⟩
theorem ybr :FA Tryz.prog 30 0 0:=FA.mk Tryz.underlying30 rfl rfl ⟨28,by decide,by kernel_rfl⟩
theorem ybs :FA Tryz.prog 30 1 28:=FA.mk Tryz.underlying30 rfl rfl ⟨28,by decide,by kernel_rfl⟩
theorem yda :FA Tryz.prog 30 2 56:=FA.mk Tryz.underlying30 rfl rfl ⟨1,by decide,by kernel_rfl⟩
theorem nag22 :NAg Tryz.prog 22:=NAg.mk' Tryz.underlying22 rfl (by kernel_rfl)
abbrev lx30 (y:(Int×y1O)×(Int×y1O)×Int):List LV:=[lV (.int .u8 y.1.1),lV (.int .u8 y.1.2.1),lV (.int .u8 y.1.2.2.1),lV (.int .u8 y.1.2.2.2.1.1),lV (.int .u8 y.1.2.2.2.1.2.1),lV (.int .u8 y.1.2.2.2.1.2.2.1),lV (.int .u8 y.1.2.2.2.1.2.2.2.1),lV (.int .u8 y.1.2.2.2.1.2.2.2.2),lV (.int .u8 y.1.2.2.2.2.1.1),lV (.int .u8 y.1.2.2.2.2.1.2.1),lV (.int .u8 y.1.2.2.2.2.1.2.2.1),lV (.int .u8 y.1.2.2.2.2.1.2.2.2.1),lV (.int .u8 y.1.2.2.2.2.1.2.2.2.2),lV (.int .u8 y.1.2.2.2.2.2.1.1),lV (.int .u8 y.1.2.2.2.2.2.1.2.1),lV (.int .u8 y.1.2.2.2.2.2.1.2.2.1),lV (.int .u8 y.1.2.2.2.2.2.1.2.2.2.1),lV (.int .u8 y.1.2.2.2.2.2.1.2.2.2.2),lV (.int .u8 y.1.2.2.2.2.2.2.1.1),lV (.int .u8 y.1.2.2.2.2.2.2.1.2.1),lV (.int .u8 y.1.2.2.2.2.2.2.1.2.2.1),lV (.int .u8 y.1.2.2.2.2.2.2.1.2.2.2.1),lV (.int .u8 y.1.2.2.2.2.2.2.1.2.2.2.2),lV (.int .u8 y.1.2.2.2.2.2.2.2.1),lV (.int .u8 y.1.2.2.2.2.2.2.2.2.1),lV (.int .u8 y.1.2.2.2.2.2.2.2.2.2.1),lV (.int .u8 y.1.2.2.2.2.2.2.2.2.2.2.1),lV (.int .u8 y.1.2.2.2.2.2.2.2.2.2.2.2),lV (.int .u8 y.2.1.1),lV (.int .u8 y.2.1.2.1),lV (.int .u8 y.2.1.2.2.1),lV (.int .u8 y.2.1.2.2.2.1.1),lV (.int .u8 y.2.1.2.2.2.1.2.1),lV (.int .u8 y.2.1.2.2.2.1.2.2.1),lV (.int .u8 y.2.1.2.2.2.1.2.2.2.1),lV (.int .u8 y.2.1.2.2.2.1.2.2.2.2),lV (.int .u8 y.2.1.2.2.2.2.1.1),lV (.int .u8 y.2.1.2.2.2.2.1.2.1),lV (.int .u8 y.2.1.2.2.2.2.1.2.2.1),lV (.int .u8 y.2.1.2.2.2.2.1.2.2.2.1),lV (.int .u8 y.2.1.2.2.2.2.1.2.2.2.2),lV (.int .u8 y.2.1.2.2.2.2.2.1.1),lV (.int .u8 y.2.1.2.2.2.2.2.1.2.1),lV (.int .u8 y.2.1.2.2.2.2.2.1.2.2.1),lV (.int .u8 y.2.1.2.2.2.2.2.1.2.2.2.1),lV (.int .u8 y.2.1.2.2.2.2.2.1.2.2.2.2),lV (.int .u8 y.2.1.2.2.2.2.2.2.1.1),lV (.int .u8 y.2.1.2.2.2.2.2.2.1.2.1),lV (.int .u8 y.2.1.2.2.2.2.2.2.1.2.2.1),lV (.int .u8 y.2.1.2.2.2.2.2.2.1.2.2.2.1),lV (.int .u8 y.2.1.2.2.2.2.2.2.1.2.2.2.2),lV (.int .u8 y.2.1.2.2.2.2.2.2.2.1),lV (.int .u8 y.2.1.2.2.2.2.2.2.2.2.1),lV (.int .u8 y.2.1.2.2.2.2.2.2.2.2.2.1),lV (.int .u8 y.2.1.2.2.2.2.2.2.2.2.2.2.1),lV (.int .u8 y.2.1.2.2.2.2.2.2.2.2.2.2.2),lV (.int .u8 y.2.2)]
theorem y9j :FA Tryz.prog 289 2 5:=FA.mk Tryz.underlying289 rfl rfl ⟨1,by decide,by kernel_rfl⟩
theorem y3L :FA Tryz.prog 289 3 6:=FA.mk Tryz.underlying289 rfl rfl ⟨1,by decide,by kernel_rfl⟩
theorem y4g :NAg Tryz.prog 144:=NAg.mk' Tryz.underlying144 rfl (by kernel_rfl)
theorem ya4 :NAg Tryz.prog 271:=NAg.mk' Tryz.underlying271 rfl (by kernel_rfl)
theorem pl289 :Pl Tryz.prog 289 [(0,4),(4,1),(5,1),(6,1)] [.slice none 0 0,.int .i64 0,.slice none 0 0,.slice none 0 0,.slice none 0 0,.map none,.slice none 0 0]:=Pl.str Tryz.underlying289 (by kernel_rfl) (by kernel_rfl)
theorem ybt :Md Tryz.prog 271 3 32 kvI rVal (.slice none 0 0) (.slice none 0 0):=Md.mk' Tryz.underlying271 (KE.int Tryz.underlying3) (by kernel_rfl) (fun _=>⟨rfl,rfl⟩)
theorem bs127 :Bs Tryz.prog 127 286 4 [.int .i64 0,.int .i64 0,.int .i64 0,.int .i64 0]:=Bs.mk' Tryz.underlying127 (by kernel_rfl) (by kernel_rfl) rfl
theorem el286 :El Tryz.prog 286 4 32:=El.mk' (z:= .agg #[.int .i64 0,.int .i64 0,.int .i64 0,.int .i64 0]) (by kernel_rfl) (by kernel_rfl) (by kernel_rfl) rfl
theorem yaD :FA Tryz.prog 286 0 0:=FA.mk Tryz.underlying286 rfl rfl ⟨1,by decide,by kernel_rfl⟩
theorem y4Z :FA Tryz.prog 289 0 0:=FA.mk Tryz.underlying289 rfl rfl ⟨4,by decide,by kernel_rfl⟩
theorem ycL :FA Tryz.prog 289 1 4:=FA.mk Tryz.underlying289 rfl rfl ⟨1,by decide,by kernel_rfl⟩
theorem pl286 :Pl Tryz.prog 286 [(0,1),(1,1),(2,1),(3,1)] [.int .i64 0,.int .i64 0,.int .i64 0,.int .i64 0]:=Pl.str Tryz.underlying286 (by kernel_rfl) (by kernel_rfl)
theorem sl127 :Sl Tryz.prog 127 286 4:=Sl.mk' Tryz.underlying127 (by kernel_rfl)
abbrev rE286 :Rep (Int×Int×Int×Int):=(rP qI (rP qI (rP qI qI)))
theorem lv286 {y:Int×Int×Int×Int}:Lv rE286 y [lI y.1,lI y.2.1,lI y.2.2.1,lI y.2.2.2]:=(.p .k (.p .k (.p .k .k)))
theorem ydb :Md Tryz.prog 271 3 32 kvI (rL qI) [] (.slice none 0 0):=Md.mk' Tryz.underlying271 (KE.int Tryz.underlying3) (by kernel_rfl) (fun _=>⟨none,0,rfl,RdL.nil⟩)
theorem cf201 :Cf Tryz.prog 201:=Cf.mk Tryz.func201 (by kernel_rfl) (by kernel_rfl)
theorem cf231 :Cf Tryz.prog 231:=Cf.mk Tryz.func231 (by kernel_rfl) (by kernel_rfl)
theorem cf232 :Cf Tryz.prog 232:=Cf.mk Tryz.func232 (by kernel_rfl) (by kernel_rfl)
theorem sl314 :Sl Tryz.prog 314 33 1:=Sl.mk' Tryz.underlying314 (by kernel_rfl)
theorem zv33 :Zr Tryz.prog rVal 33 24 (.slice none 0 0):=Zr.mk' (v:= .slice none 0 0) (by kernel_rfl) (by kernel_rfl) (by kernel_rfl) (fun _=>⟨rfl,rfl⟩)
theorem lv33 {y:List (Int×Int×Int)}:Lv (rL qT) y [lF qT y]:= .l
theorem ag131 :Ag Tryz.prog 131 9:=Ag.mk' Tryz.underlying131 rfl (by kernel_rfl)
theorem ag286 :Ag Tryz.prog 286 4:=Ag.mk' Tryz.underlying286 rfl (by kernel_rfl)
theorem cf197 :Cf Tryz.prog 197:=Cf.mk Tryz.func197 (by kernel_rfl) (by kernel_rfl)
theorem cf198 :Cf Tryz.prog 198:=Cf.mk Tryz.func198 (by kernel_rfl) (by kernel_rfl)
theorem cf199 :Cf Tryz.prog 199:=Cf.mk Tryz.func199 (by kernel_rfl) (by kernel_rfl)
theorem cf202 :Cf Tryz.prog 202:=Cf.mk Tryz.func202 (by kernel_rfl) (by kernel_rfl)
theorem yaE :FA Tryz.prog 129 0 0:=FA.mk Tryz.underlying129 rfl rfl ⟨1,by decide,by kernel_rfl⟩
theorem yaF :FA Tryz.prog 129 1 1:=FA.mk Tryz.underlying129 rfl rfl ⟨1,by decide,by kernel_rfl⟩
theorem y6Q :FA Tryz.prog 129 2 2:=FA.mk Tryz.underlying129 rfl rfl ⟨1,by decide,by kernel_rfl⟩
theorem y4D :FA Tryz.prog 131 0 0:=FA.mk Tryz.underlying131 rfl rfl ⟨3,by decide,by kernel_rfl⟩
theorem yaG :FA Tryz.prog 131 1 3:=FA.mk Tryz.underlying131 rfl rfl ⟨1,by decide,by kernel_rfl⟩
theorem yaH :FA Tryz.prog 131 2 4:=FA.mk Tryz.underlying131 rfl rfl ⟨4,by decide,by kernel_rfl⟩
theorem ycM :FA Tryz.prog 131 3 8:=FA.mk Tryz.underlying131 rfl rfl ⟨1,by decide,by kernel_rfl⟩
theorem ybu :FlatR (rP (rK .i64) (rP (rK .i64) (rP (rK .i64) (rK .i64)))):=fun _ _ _ _ h=>h
theorem y7D :NAg Tryz.prog 127:=NAg.mk' Tryz.underlying127 rfl (by kernel_rfl)
theorem zz131 :(Tryz.prog.info? 131).bind (·.zero)=some (.agg #[.slice none 0 0,.slice none 0 0,.slice none 0 0,.int .i64 0,.slice none 0 0,.int .i64 0,.slice none 0 0,.slice none 0 0,.slice none 0 0]):=by kernel_rfl
theorem zz286 :(Tryz.prog.info? 286).bind (·.zero)=some (.agg #[.int .i64 0,.int .i64 0,.int .i64 0,.int .i64 0]):=by kernel_rfl
theorem cf146 :Cf Tryz.prog 146:=Cf.mk Tryz.func146 (by kernel_rfl) (by kernel_rfl)
theorem cf147 :Cf Tryz.prog 147:=Cf.mk Tryz.func147 (by kernel_rfl) (by kernel_rfl)
theorem pl131 :Pl Tryz.prog 131 [(0,3),(3,1),(4,4),(8,1)] [.slice none 0 0,.slice none 0 0,.slice none 0 0,.int .i64 0,.slice none 0 0,.int .i64 0,.slice none 0 0,.slice none 0 0,.slice none 0 0]:=Pl.str Tryz.underlying131 (by kernel_rfl) (by kernel_rfl)
theorem ag30 :Ag Tryz.prog 30 57:=Ag.mk' Tryz.underlying30 rfl (by kernel_rfl)
theorem cf72 :Cf Tryz.prog 72:=Cf.mk Tryz.func72 (by kernel_rfl) (by kernel_rfl)
theorem cf73 :Cf Tryz.prog 73:=Cf.mk Tryz.func73 (by kernel_rfl) (by kernel_rfl)
theorem cf74 :Cf Tryz.prog 74:=Cf.mk Tryz.func74 (by kernel_rfl) (by kernel_rfl)
theorem cf15 :Cf Tryz.prog 15:=Cf.mk Tryz.func15 (by kernel_rfl) (by kernel_rfl)
theorem cf16 :Cf Tryz.prog 16:=Cf.mk Tryz.func16 (by kernel_rfl) (by kernel_rfl)
theorem cf86 :Cf Tryz.prog 86:=Cf.mk Tryz.func86 (by kernel_rfl) (by kernel_rfl)
theorem cf153 :Cf Tryz.prog 153:=Cf.mk Tryz.func153 (by kernel_rfl) (by kernel_rfl)
theorem cf88 :Cf Tryz.prog 88:=Cf.mk Tryz.func88 (by kernel_rfl) (by kernel_rfl)
theorem cf89 :Cf Tryz.prog 89:=Cf.mk Tryz.func89 (by kernel_rfl) (by kernel_rfl)
theorem zz136 :(Tryz.prog.info? 136).bind (·.zero)=some (.pointer none):=by kernel_rfl
theorem zz3 :(Tryz.prog.info? 3).bind (·.zero)=some (.int .i64 0):=by kernel_rfl
theorem zz53 :(Tryz.prog.info? 53).bind (·.zero)=some (.slice none 0 0):=by kernel_rfl
theorem cf44 :Cf Tryz.prog 44:=Cf.mk Tryz.func44 (by kernel_rfl) (by kernel_rfl)
theorem cf28 :Cf Tryz.prog 28:=Cf.mk Tryz.func28 (by kernel_rfl) (by kernel_rfl)
theorem cf23 :Cf Tryz.prog 23:=Cf.mk Tryz.func23 (by kernel_rfl) (by kernel_rfl)
theorem cf24 :Cf Tryz.prog 24:=Cf.mk Tryz.func24 (by kernel_rfl) (by kernel_rfl)
theorem cf27 :Cf Tryz.prog 27:=Cf.mk Tryz.func27 (by kernel_rfl) (by kernel_rfl)
def y4e :Option (AutT×AutT×List Int):=
 some ((([0,1]:List Int),4,([3]:List Int),([(0,0,1),(0,1,2),(1,1,3),(2,0,3)]:List (Int×Int×Int))),(([0,1]:List Int),5,([3,4]:List Int),([(0,0,1),(0,1,2),(1,1,3),(2,0,4)]:List (Int×Int×Int))),([0,1]:List Int))
theorem y6x {r:(AutT×AutT×List Int)} (hm:y4e=some r):
  Fw Tryz.prog 71 ⟨0,[]⟩ [] [] (.g [lF qI r.1.1,lI r.1.2.1,lF qI r.1.2.2.1,lF qT r.1.2.2.2,lF qI r.2.1.1,lI r.2.1.2.1,lF qI r.2.1.2.2.1,lF qT r.2.1.2.2.2,lF qI r.2.2]) []:=by
 unfold y4e at hm
 refine Fw.mk' Tryz.func71 R Tryz.ntmps71 R R (fun C=>?_) R R
 refine .seq (.reg (.op (O.al 0 R zz37 R Z R) R (.nil (.seqN (.seq (.reg (.op (O.bsF (r:=qI) (zs:=([0,1]:List Int)) bs32 R R Z R R R (.c .k (.c .k .n)) R R R) R (.op (O.bsF (r:=qI) (zs:=([3]:List Int)) bs32 R R Z R R R (.c .k .n) R R R) R (.op (O.bu (l:=[lI 0,lI 0,lI 1]) pl124 R Z R R R) R (.op (O.bu (l:=[lI 0,lI 1,lI 2]) pl124 R Z R R R) R (.op (O.bu (l:=[lI 1,lI 1,lI 3]) pl124 R Z R R R) R (.op (O.bu (l:=[lI 2,lI 0,lI 3]) pl124 R Z R R R) R (.op (O.bsF (r:=qT) (zs:=([(0,0,1),(0,1,2),(1,1,3),(2,0,3)]:List (Int×Int×Int))) bs33 R R Z R R R (.c (.p .k (.p .k .k)) (.c (.p .k (.p .k .k)) (.c (.p .k (.p .k .k)) (.c (.p .k (.p .k .k)) .n)))) R R R) R (.op (O.bu (l:=[lF qI ([0,1]:List Int),lI 4,lF qI ([3]:List Int),lF qT ([(0,0,1),(0,1,2),(1,1,3),(2,0,3)]:List (Int×Int×Int))]) pl35 R Z R R R) R (.op (O.al 1 R zz35 R Z R) R (.op (O.st ag35.sz Z R R R R R) R (.nil (.seqN (.seq (.reg (.op (O.bsF (r:=qI) (zs:=([0,1]:List Int)) bs32 R R Z R R R (.c .k (.c .k .n)) R R R) R (.op (O.bsF (r:=qI) (zs:=([3,4]:List Int)) bs32 R R Z R R R (.c .k (.c .k .n)) R R R) R (.op (O.bu (l:=[lI 0,lI 0,lI 1]) pl124 R Z R R R) R (.op (O.bu (l:=[lI 0,lI 1,lI 2]) pl124 R Z R R R) R (.op (O.bu (l:=[lI 1,lI 1,lI 3]) pl124 R Z R R R) R (.op (O.bu (l:=[lI 2,lI 0,lI 4]) pl124 R Z R R R) R (.op (O.bsF (r:=qT) (zs:=([(0,0,1),(0,1,2),(1,1,3),(2,0,4)]:List (Int×Int×Int))) bs33 R R Z R R R (.c (.p .k (.p .k .k)) (.c (.p .k (.p .k .k)) (.c (.p .k (.p .k .k)) (.c (.p .k (.p .k .k)) .n)))) R R R) R (.op (O.bu (l:=[lF qI ([0,1]:List Int),lI 5,lF qI ([3,4]:List Int),lF qT ([(0,0,1),(0,1,2),(1,1,3),(2,0,4)]:List (Int×Int×Int))]) pl35 R Z R R R) R (.op (O.al 2 R zz35 R Z R) R (.op (O.st ag35.sz Z R R R R R) R (.nil (.seqN (.seq (.reg (.op (O.lg (l':=[lF qI ([0,1]:List Int),lI 4,lF qI ([3]:List Int),lF qT ([(0,0,1),(0,1,2),(1,1,3),(2,0,3)]:List (Int×Int×Int))]) ag35 Z R (.B R) R R R) R (.op (O.lg (l':=[lF qI ([0,1]:List Int),lI 5,lF qI ([3,4]:List Int),lF qT ([(0,0,1),(0,1,2),(1,1,3),(2,0,4)]:List (Int×Int×Int))]) ag35 Z R (.B R) R R R) R (.op (O.bsF (r:=qI) (zs:=([0,1]:List Int)) bs32 R R Z R R R (.c .k (.c .k .n)) R R R) R (.op (O.bu (l:=[lF qI ([0,1]:List Int),lI 4,lF qI ([3]:List Int),lF qT ([(0,0,1),(0,1,2),(1,1,3),(2,0,3)]:List (Int×Int×Int)),lF qI ([0,1]:List Int),lI 5,lF qI ([3,4]:List Int),lF qT ([(0,0,1),(0,1,2),(1,1,3),(2,0,4)]:List (Int×Int×Int)),lF qI ([0,1]:List Int)]) pl37 R Z R R R) R (.op (O.st ag37.sz Z R R R R R) R ?_)))))))))))))))))))))))))))))))))))))))
 refine .nil (.seqN (.ret ?_))
 obtain rfl:=oi hm
 exact WX.rt [] (.inl R) Tryz.results71 (.cell R R ag37 R .nil) R (fun _ _ _ h=>h) trivial
def y1J (p0:List Int) (p1:Int) (st10:Int):Option (Int ⊕ (Unit ⊕ Int)):=
 if decide (st10 < (p0.length:Int)) then
  (idx p0 st10).bind fun x16=>
  if((decide (x16 < 0)) || (decide (x16≥p1))) then
   some (.inr (.inr (2)))
  else
   (if decide (st10 > 0) then
    (idx p0 (W (st10 - 1))).bind fun x22=>
    some (decide (x16≤x22))
   else
    some false).bind fun b19=>
   if b19 then
    some (.inr (.inr (5)))
   else
    some (.inl (W (st10 + 1)))
 else
  some (.inr (.inl ()))
def y1i (p0:List Int) (p1:Int):Option Int:=
 (iter (y1J p0 p1) 0).bind fun o10=>
 match o10 with
 | .inl u12=>
  some 0
 | .inr (u14)=>
  some u14
theorem y4M {p0:List Int} {p1:Int} {r:Int} (hm:y1i p0 p1=some r):
  Fw Tryz.prog 164 ⟨0,[]⟩ [.f qI p0,.i p1] [] (.i r) []:=by
 unfold y1i at hm
 refine Fw.mk' Tryz.func164 R Tryz.ntmps164 R R (fun C=>?_) R R
 refine .seq (.reg (.sa R (.nil (.seqN (.seq (.seq (.reg (.mv R (.op (O.len sl32 Z R R) R (.mv R (.nil (.seqN (.block (bS hm fun o10 eo10 hm=>?_))))))))))))))
 refine .cutU (z:= .exit 0) (fun u12=> .inl u12=o10) (fun (u12:Unit)=>⟨[],[],0⟩) ?_ fun K13=>?_
 ·rintro u12 rfl
  dsimp only at hm
  refine .blkE (.seqN (.seq (.reg (.sa R (.nil (.seqN (.ret ?_)))))))
  obtain rfl:=oi hm
  exact WX.rt [] (.inl R) Tryz.results164 (.tmp R .nil) R (fun _ _ _ h=>h) trivial
 refine .cutU (z:= .ret) (fun u14=> .inr (u14)=o10) (fun (u14:Int)=>⟨[(4,.i u14)],[],0⟩) ?_ fun K15=>?_
 ·rintro u14 rfl
  dsimp only at hm
  refine .blkR (.seqR ?_)
  obtain rfl:=oi hm
  exact WX.rt [] (.inl R) Tryz.results164 (.tmp R .nil) R (fun _ _ _ h=>h) trivial
 refine .iter (fun (st10:Int)=>⟨[(9,.i st10),(8,.i (p0.length:Int)),(7,.f qI p0),(0,.f qI p0),(1,.i p1)],[],0⟩) eo10 [] R ?_
 intro st10 res10 hm ih10 ho10
 unfold y1J at hm
 refine .seq (.reg (.bi R (.nil (.seqN (.seq ?_)))))
 rcases ifS hm with ⟨hc,hm⟩ | ⟨hc,hm⟩
 ·refine .cT R hc ?_
  refine .skip (.seqN (.seq (.block (.seq (.reg (.mv R (bS hm fun x16 ex16 hm=> .op (O.ix sl32 Z R R ex16 R) R (.op (O.ld nag3 Z R (.E lv3) R R) R (.sa R (.sa R (.nil (.seqN (.block (.seq (.reg (.mv R (.bi R (.mv R ?_))))))))))))))))))
  refine .cut 4 (fun (v17:Bool)=>((decide (x16 < 0)) || (decide (x16≥p1)))=v17) (fun v17=>⟨[(21,.b v17),(6,.i x16),(5,.i st10),(9,.i st10),(8,.i (p0.length:Int)),(7,.f qI p0),(0,.f qI p0),(1,.i p1)],[],0⟩) ?_ ?_
  ·rintro _ rfl
   refine .sa R (.nil (.seqN ?_))
   rcases ifS hm with ⟨hc,hm⟩ | ⟨hc,hm⟩
   ·refine .cT R hc ?_
    exact .seq (.reg (.sa R (.nil (.seqN (.ret (.blkR (.blkR (.seqR (.seqR ((K15 _ (ho10 _ (oi hm).symm)).sub [] R))))))))))
   ·refine .cF R hc ?_
    refine .seq (.reg (.mv R (.bi R (.mv R (bS hm fun b19 eb19 hm=>?_)))))
    refine .cut 8 (fun (v20:Bool)=>b19=v20) (fun v20=>⟨[(33,.b v20),(9,.i st10),(8,.i (p0.length:Int)),(7,.f qI p0),(0,.f qI p0),(1,.i p1)],[],0⟩) ?_ ?_
    ·rintro _ rfl
     refine .sa R (.nil (.seqN ?_))
     rcases ifS hm with ⟨hc,hm⟩ | ⟨hc,hm⟩
     ·refine .cT R hc ?_
      exact .seq (.reg (.sa R (.nil (.seqN (.ret (.blkR (.blkR (.seqR (.seqR ((K15 _ (ho10 _ (oi hm).symm)).sub [] R))))))))))
     ·refine .cF R hc ?_
      exact .skip (.blkN (.blkN (.seqN (.reg (.bi R (.mv R (.nil ((ih10 _ (oi hm).symm).sub [] R))))))))
    ·intro J21
     rcases ifS eb19 with ⟨hc,hm⟩ | ⟨hc,hm⟩
     ·refine .know (d:=25) R hc ?_
      exact .op (O.mv (Gu.mk R R) R R) R (.op (O.mv (Gu.mk R R) R R) R (.op (O.mv (Gu.mk R R) R R) R (.op (O.bi (Gu.mk R R) R R R R) R (bS hm fun x22 ex22 hm=> .op (O.ix sl32 (Gu.mk R R) R R ex22 R) R (.op (O.ld nag3 (Gu.mk R R) R (.E lv3) R R) R (.op (O.bi (Gu.mk R R) R R R R) R (.op (O.pkT Z R R R R) R ((J21 (decide (x16≤x22)) (oi hm).symm).sub [] R))))))))
     ·refine .know (d:=25) R hc ?_
      exact .sk R (.sk R (.sk R (.sk R (.sk R (.sk R (.sk R (.op (O.pkF Z R R R R) R ((J21 false (oi hm).symm).sub [] R))))))))
  ·intro J18
   rcases Bool.eq_false_or_eq_true (decide (x16 < 0)) with hc | hc
   ·refine .know (d:=17) R hc ?_
    exact .sk R (.sk R (.sk R (.op (O.pkT Z R R R R) R ((J18 true (orT hc).symm).sub [] R))))
   ·refine .know (d:=17) R hc ?_
    exact .op (O.mv (Gu.mk R R) R R) R (.op (O.mv (Gu.mk R R) R R) R (.op (O.bi (Gu.mk R R) R R R R) R (.op (O.pkF Z R R R R) R ((J18 (decide (x16≥p1)) (orF hc).symm).sub [] R))))
 ·refine .cF R hc ?_
  exact .exit (.seqX (.seqX ((K13 _ (ho10 _ (oi hm).symm)).sub [] R)))
def y1X (p0:List Int) (p1:Int) (st4:Int):Option (Int ⊕ (Unit ⊕ Int)):=
 if decide (st4 < (p0.length:Int)) then
  (idx p0 st4).bind fun x10=>
  if(p1 == x10) then
   some (.inr (.inr (st4)))
  else
   some (.inl (W (st4 + 1)))
 else
  some (.inr (.inl ()))
def y3O (p0:List Int) (p1:Int):Option Int:=
 (iter (y1X p0 p1) 0).bind fun o4=>
 match o4 with
 | .inl u6=>
  some (-1)
 | .inr (u8)=>
  some u8
theorem y7f {p0:List Int} {p1:Int} {r:Int} (hm:y3O p0 p1=some r):
  Fw Tryz.prog 169 ⟨0,[]⟩ [.f qI p0,.i p1] [] (.i r) []:=by
 unfold y3O at hm
 refine Fw.mk' Tryz.func169 R Tryz.ntmps169 R R (fun C=>?_) R R
 refine .seq (.reg (.sa R (.nil (.seqN (.seq (.seq (.reg (.mv R (.op (O.len sl32 Z R R) R (.mv R (.nil (.seqN (.block (bS hm fun o4 eo4 hm=>?_))))))))))))))
 refine .cutU (z:= .exit 0) (fun u6=> .inl u6=o4) (fun (u6:Unit)=>⟨[],[],0⟩) ?_ fun K7=>?_
 ·rintro u6 rfl
  dsimp only at hm
  refine .blkE (.seqN (.seq (.reg (.sa R (.nil (.seqN (.ret ?_)))))))
  obtain rfl:=oi hm
  exact WX.rt [] (.inl R) Tryz.results169 (.tmp R .nil) R (fun _ _ _ h=>h) trivial
 refine .cutU (z:= .ret) (fun u8=> .inr (u8)=o4) (fun (u8:Int)=>⟨[(4,.i u8)],[],0⟩) ?_ fun K9=>?_
 ·rintro u8 rfl
  dsimp only at hm
  refine .blkR (.seqR ?_)
  obtain rfl:=oi hm
  exact WX.rt [] (.inl R) Tryz.results169 (.tmp R .nil) R (fun _ _ _ h=>h) trivial
 refine .iter (fun (st4:Int)=>⟨[(8,.i st4),(7,.i (p0.length:Int)),(0,.f qI p0),(1,.i p1)],[],0⟩) eo4 [] R ?_
 intro st4 res4 hm ih4 ho4
 unfold y1X at hm
 refine .seq (.reg (.bi R (.nil (.seqN (.seq ?_)))))
 rcases ifS hm with ⟨hc,hm⟩ | ⟨hc,hm⟩
 ·refine .cT R hc ?_
  refine .skip (.seqN (.seq (.block (.seq (.reg (.mv R (.sa R (.nil (.seqN (.seq (.reg (.mv R (.mv R (.mv R (bS hm fun x10 ex10 hm=> .op (O.ix sl32 Z R R ex10 R) R (.op (O.ld nag3 Z R (.E lv3) R R) R (.bi R (.nil (.seqN ?_)))))))))))))))))))
  rcases ifS hm with ⟨hc,hm⟩ | ⟨hc,hm⟩
  ·refine .cT R hc ?_
   exact .seq (.reg (.mv R (.sa R (.nil (.seqN (.ret (.blkR (.seqR (.seqR ((K9 _ (ho4 _ (oi hm).symm)).sub [] R))))))))))
  ·refine .cF R hc ?_
   exact .skip (.blkN (.seqN (.reg (.bi R (.mv R (.nil ((ih4 _ (oi hm).symm).sub [] R)))))))
 ·refine .cF R hc ?_
  exact .exit (.seqX (.seqX ((K7 _ (ho4 _ (oi hm).symm)).sub [] R)))
def yx (p0:List Int) (p1:Int):Option Bool:=
 (y3O p0 p1).bind fun r1=>
 some (decide (r1≥0))
theorem y2p {p0:List Int} {p1:Int} {r:Bool} (hm:yx p0 p1=some r):
  Fw Tryz.prog 104 ⟨0,[]⟩ [.f qI p0,.i p1] [] (.b r) []:=by
 unfold yx at hm
 refine Fw.mk' Tryz.func104 R Tryz.ntmps104 R R (fun C=>?_) R R
 refine .seq (.reg (.sa R (.nil (.seqN (.seq (.reg (.mv R (.mv R (bS hm fun r1 er1 hm=> .op (O.ca0 (y7f er1) cf169 R R Z R R R) R (.bi R (.sa R (.nil (.seqN (.ret ?_))))))))))))))
 obtain rfl:=oi hm
 exact WX.rt [] (.inl R) Tryz.results104 (.tmp R .nil) R (fun _ _ _ h=>h) trivial
def y1n (st17:Int):Option (Int ⊕ (Unit ⊕ Int)):=
 some (.inl (W (st17 + 1)))
def y1o (p0:AutT) (st17:Int):Option (Int ⊕ (Unit ⊕ Int)):=
 if decide (st17 < (p0.2.2.2.length:Int)) then
  (idx p0.2.2.2 st17).bind fun x24=>
  if((((decide (x24.1 < 0)) || (decide (x24.1≥p0.2.1))) || (decide (x24.2.2 < 0))) || (decide (x24.2.2≥p0.2.1))) then
   some (.inr (.inr (2)))
  else
   (yx p0.1 x24.2.1).bind fun r31=>
   if(!r31) then
    some (.inr (.inr (9)))
   else
    if(st17 == 0) then
     y1n st17
    else
     (idx p0.2.2.2 (W (st17 - 1))).bind fun x32=>
     if((decide (x24.1 < x32.1)) || ((x24.1 == x32.1) && (decide (x24.2.1≤x32.2.1)))) then
      some (.inr (.inr (5)))
     else
      y1n st17
 else
  some (.inr (.inl ()))
def y2z (p0:AutT):Option Int:=
 (iter (y1o p0) 0).bind fun o17=>
 match o17 with
 | .inl u19=>
  some 0
 | .inr (u21)=>
  some u21
theorem y6d {p0:AutT} {r:Int} (hm:y2z p0=some r):
  Fw Tryz.prog 165 ⟨0,[]⟩ [.a [lF qI p0.1,lI p0.2.1,lF qI p0.2.2.1,lF qT p0.2.2.2]] [] (.i r) []:=by
 unfold y2z at hm
 refine Fw.mk' Tryz.func165 R Tryz.ntmps165 R R (fun C=>?_) R R
 refine .seq (.reg (.op (O.box 0 R Z R R R) R (.sa R (.nil (.seqN (.seq (.seq (.reg (.op (O.faP y1h Z R R) R (.op (O.ld nag33 Z R (.B R) R R) R (.op (O.len sl33 Z R R) R (.mv R (.nil (.seqN (.block (bS hm fun o17 eo17 hm=>?_))))))))))))))))
 refine .cutU (z:= .exit 0) (fun u19=> .inl u19=o17) (fun (u19:Unit)=>⟨[],[],0⟩) ?_ fun K20=>?_
 ·rintro u19 rfl
  dsimp only at hm
  refine .blkE (.seqN (.seq (.reg (.sa R (.nil (.seqN (.ret ?_)))))))
  obtain rfl:=oi hm
  exact WX.rt [] (.inl R) Tryz.results165 (.tmp R .nil) R (fun _ _ _ h=>h) trivial
 refine .cutU (z:= .ret) (fun u21=> .inr (u21)=o17) (fun (u21:Int)=>⟨[(2,.i u21)],[],0⟩) ?_ fun K22=>?_
 ·rintro u21 rfl
  dsimp only at hm
  refine .blkR (.seqR ?_)
  obtain rfl:=oi hm
  exact WX.rt [] (.inl R) Tryz.results165 (.tmp R .nil) R (fun _ _ _ h=>h) trivial
 refine .iter (fun (st17:Int)=>⟨[(9,.i st17),(8,.i (p0.2.2.2.length:Int)),(7,.f qT p0.2.2.2),(1,.q 0 0)],[(0,.bx 35 [lF qI p0.1,lI p0.2.1,lF qI p0.2.2.1,lF qT p0.2.2.2])],1⟩) eo17 [] R ?_
 intro st17 res17 hm ih17 ho17
 unfold y1o at hm
 refine .seq (.reg (.bi R (.nil (.seqN (.seq ?_)))))
 rcases ifS hm with ⟨hc,hm⟩ | ⟨hc,hm⟩
 ·refine .cT R hc ?_
  refine .skip (.seqN ?_)
  refine .join0 (y1n st17=some res17) (⟨[(9,.i st17),(8,.i (p0.2.2.2.length:Int)),(7,.f qT p0.2.2.2),(1,.q 0 0)],[(0,.bx 35 [lF qI p0.1,lI p0.2.1,lF qI p0.2.2.1,lF qT p0.2.2.2])],1⟩) ?_ ?_
  ·intro hm
   unfold y1n at hm
   exact .reg (.bi R (.mv R (.nil ((ih17 _ (oi hm).symm).sub [] R))))
  ·intro Jj23
   refine .block (.seq (.reg (.mv R (bS hm fun x24 ex24 hm=> .op (O.ix sl33 Z R R ex24 R) R (.op (O.lg (l':=[lI x24.1,lI x24.2.1,lI x24.2.2]) ag124 Z R (.E lv124) R R R) R (.op (O.al 1 R zz124 R Z R) R (.sa R (.op (O.st ag124.sz Z R R R R R) R (.nil (.seqN (.seq (.block (.seq (.reg (.op (O.faP y2j Z R R) R (.op (O.ld nag3 Z R (.B R) R R) R (.bi R (.mv R ?_))))))))))))))))))
   refine .cut 6 (fun (v25:Bool)=>((decide (x24.1 < 0)) || (decide (x24.1≥p0.2.1)))=v25) (fun v25=>⟨[(24,.b v25),(3,.i st17),(4,.q 1 0),(9,.i st17),(8,.i (p0.2.2.2.length:Int)),(7,.f qT p0.2.2.2),(1,.q 0 0)],[(1,.bx 124 [lI x24.1,lI x24.2.1,lI x24.2.2]),(0,.bx 35 [lF qI p0.1,lI p0.2.1,lF qI p0.2.2.1,lF qT p0.2.2.2])],2⟩) ?_ ?_
   ·rintro _ rfl
    refine .mv R ?_
    refine .cut 4 (fun (v27:Bool)=>(((decide (x24.1 < 0)) || (decide (x24.1≥p0.2.1))) || (decide (x24.2.2 < 0)))=v27) (fun v27=>⟨[(29,.b v27),(3,.i st17),(4,.q 1 0),(9,.i st17),(8,.i (p0.2.2.2.length:Int)),(7,.f qT p0.2.2.2),(1,.q 0 0)],[(1,.bx 124 [lI x24.1,lI x24.2.1,lI x24.2.2]),(0,.bx 35 [lF qI p0.1,lI p0.2.1,lF qI p0.2.2.1,lF qT p0.2.2.2])],2⟩) ?_ ?_
    ·rintro _ rfl
     refine .mv R ?_
     refine .cut 6 (fun (v29:Bool)=>((((decide (x24.1 < 0)) || (decide (x24.1≥p0.2.1))) || (decide (x24.2.2 < 0))) || (decide (x24.2.2≥p0.2.1)))=v29) (fun v29=>⟨[(36,.b v29),(3,.i st17),(4,.q 1 0),(9,.i st17),(8,.i (p0.2.2.2.length:Int)),(7,.f qT p0.2.2.2),(1,.q 0 0)],[(1,.bx 124 [lI x24.1,lI x24.2.1,lI x24.2.2]),(0,.bx 35 [lF qI p0.1,lI p0.2.1,lF qI p0.2.2.1,lF qT p0.2.2.2])],2⟩) ?_ ?_
     ·rintro _ rfl
      refine .sa R (.nil (.seqN ?_))
      rcases ifS hm with ⟨hc,hm⟩ | ⟨hc,hm⟩
      ·refine .cT R hc ?_
       exact .seq (.reg (.sa R (.nil (.seqN (.ret (.blkR (.seqR (.blkR (.seqR (.seqR ((K22 _ (ho17 _ (oi hm).symm)).sub [] R)))))))))))
      ·refine .cF R hc ?_
       refine .seq (.reg (.op (O.faP y1S Z R R) R (.op (O.ld nag32 Z R (.B R) R R) R (.op (O.faP y3Z Z R R) R (.op (O.ld nag3 Z R (.B R) R R) R (bS hm fun r31 er31 hm=> .op (O.ca0 (y2p er31) cf104 R R Z R R R) R (.op (O.not Z R R) R (.sa R (.nil (.seqN ?_))))))))))
       rcases ifS hm with ⟨hc,hm⟩ | ⟨hc,hm⟩
       ·refine .cT R hc ?_
        exact .seq (.reg (.sa R (.nil (.seqN (.ret (.blkR (.seqR (.blkR (.seqR (.seqR ((K22 _ (ho17 _ (oi hm).symm)).sub [] R)))))))))))
       ·refine .cF R hc ?_
        refine .skip (.blkN (.seqN (.seq (.seq (.reg (.mv R (.bi R (.nil (.seqN ?_)))))))))
        rcases ifS hm with ⟨hc,hm⟩ | ⟨hc,hm⟩
        ·refine .cT R hc ?_
         exact .exit (.seqX (.blkE ((Jj23 hm).sub [] R)))
        ·refine .cF R hc ?_
         refine .skip (.seqN (.seq (.reg (.op (O.faP y1h Z R R) R (.op (O.ld nag33 Z R (.B R) R R) R (.mv R (.bi R (bS hm fun x32 ex32 hm=> .op (O.ix sl33 Z R R ex32 R) R (.op (O.lg (l':=[lI x32.1,lI x32.2.1,lI x32.2.2]) ag124 Z R (.E lv124) R R R) R (.op (O.al 2 R zz124 R Z R) R (.op (O.st ag124.sz Z R R R R R) R (.nil (.seqN (.seq (.reg (.op (O.faP y2j Z R R) R (.op (O.ld nag3 Z R (.B R) R R) R (.op (O.faP y2j Z R R) R (.op (O.ld nag3 Z R (.B R) R R) R (.bi R (.mv R ?_)))))))))))))))))))))
         refine .cut 13 (fun (v33:Bool)=>((decide (x24.1 < x32.1)) || ((x24.1 == x32.1) && (decide (x24.2.1≤x32.2.1))))=v33) (fun v33=>⟨[(70,.b v33),(9,.i st17),(8,.i (p0.2.2.2.length:Int)),(7,.f qT p0.2.2.2),(1,.q 0 0)],[(0,.bx 35 [lF qI p0.1,lI p0.2.1,lF qI p0.2.2.1,lF qT p0.2.2.2])],3⟩) ?_ ?_
         ·rintro _ rfl
          refine .nil (.seqN ?_)
          rcases ifS hm with ⟨hc,hm⟩ | ⟨hc,hm⟩
          ·refine .cT R hc ?_
           exact .seq (.reg (.sa R (.nil (.seqN (.ret (.blkR (.seqR (.seqR ((K22 _ (ho17 _ (oi hm).symm)).sub [] R)))))))))
          ·refine .cF R hc ?_
           exact .skip (.blkN ((Jj23 hm).sub [] R))
         ·intro J34
          rcases Bool.eq_false_or_eq_true (decide (x24.1 < x32.1)) with hc | hc
          ·refine .know (d:=57) R hc ?_
           exact .sk R (.sk R (.sk R (.sk R (.sk R (.sk R (.op (O.skipU R R R) R (.op (O.skipU R R R) R (.op (O.skipU R R R) R (.op (O.skipU R R R) R (.op (O.skipU R R R) R (.sk R (.op (O.pkT Z R R R R) R ((J34 true (orT hc).symm).sub [] R)))))))))))))
          ·refine .know (d:=57) R hc ?_
           refine .op (O.faP y2j (Gu.mk R R) R R) R (.op (O.ld nag3 (Gu.mk R R) R (.B R) R R) R (.op (O.faP y2j (Gu.mk R R) R R) R (.op (O.ld nag3 (Gu.mk R R) R (.B R) R R) R (.op (O.bi (Gu.mk R R) R R R R) R (.op (O.mv (Gu.mk R R) R R) R ?_)))))
           refine .cut 6 (fun (v35:Bool)=>((x24.1 == x32.1) && (decide (x24.2.1≤x32.2.1)))=v35) (fun v35=>⟨[(69,.b v35),(57,.b false),(9,.i st17),(8,.i (p0.2.2.2.length:Int)),(7,.f qT p0.2.2.2),(1,.q 0 0)],[(0,.bx 35 [lF qI p0.1,lI p0.2.1,lF qI p0.2.2.1,lF qT p0.2.2.2])],3⟩) ?_ ?_
           ·rintro _ rfl
            exact .op (O.pkF Z R R R R) R ((J34 ((x24.1 == x32.1) && (decide (x24.2.1≤x32.2.1))) (orF hc).symm).sub [] R)
           ·intro J36
            rcases Bool.eq_false_or_eq_true (x24.1 == x32.1) with hc | hc
            ·refine .know (d:=63) R hc ?_
             exact .op (O.faP y3Z (Gu.mk R R) R R) R (.op (O.ld nag3 (Gu.mk R R) R (.B R) R R) R (.op (O.faP y3Z (Gu.mk R R) R R) R (.op (O.ld nag3 (Gu.mk R R) R (.B R) R R) R (.op (O.bi (Gu.mk R R) R R R R) R (.op (O.pkT (Gu.mk R R) R R R R) R ((J36 (decide (x24.2.1≤x32.2.1)) (andT hc).symm).sub [] R))))))
            ·refine .know (d:=63) R hc ?_
             exact .sk R (.sk R (.sk R (.sk R (.sk R (.op (O.pkF (Gu.mk R R) R R R R) R ((J36 false (andF hc).symm).sub [] R))))))
     ·intro J30
      rcases Bool.eq_false_or_eq_true (((decide (x24.1 < 0)) || (decide (x24.1≥p0.2.1))) || (decide (x24.2.2 < 0))) with hc | hc
      ·refine .know (d:=30) R hc ?_
       exact .sk R (.sk R (.sk R (.sk R (.sk R (.op (O.pkT Z R R R R) R ((J30 true (orT hc).symm).sub [] R))))))
      ·refine .know (d:=30) R hc ?_
       exact .op (O.faP y3g (Gu.mk R R) R R) R (.op (O.ld nag3 (Gu.mk R R) R (.B R) R R) R (.op (O.faP y1T (Gu.mk R R) R R) R (.op (O.ld nag3 (Gu.mk R R) R (.B R) R R) R (.op (O.bi (Gu.mk R R) R R R R) R (.op (O.pkF Z R R R R) R ((J30 (decide (x24.2.2≥p0.2.1)) (orF hc).symm).sub [] R))))))
    ·intro J28
     rcases Bool.eq_false_or_eq_true ((decide (x24.1 < 0)) || (decide (x24.1≥p0.2.1))) with hc | hc
     ·refine .know (d:=25) R hc ?_
      exact .sk R (.sk R (.sk R (.op (O.pkT Z R R R R) R ((J28 true (orT hc).symm).sub [] R))))
     ·refine .know (d:=25) R hc ?_
      exact .op (O.faP y3g (Gu.mk R R) R R) R (.op (O.ld nag3 (Gu.mk R R) R (.B R) R R) R (.op (O.bi (Gu.mk R R) R R R R) R (.op (O.pkF Z R R R R) R ((J28 (decide (x24.2.2 < 0)) (orF hc).symm).sub [] R))))
   ·intro J26
    rcases Bool.eq_false_or_eq_true (decide (x24.1 < 0)) with hc | hc
    ·refine .know (d:=18) R hc ?_
     exact .sk R (.sk R (.sk R (.sk R (.sk R (.op (O.pkT Z R R R R) R ((J26 true (orT hc).symm).sub [] R))))))
    ·refine .know (d:=18) R hc ?_
     exact .op (O.faP y2j (Gu.mk R R) R R) R (.op (O.ld nag3 (Gu.mk R R) R (.B R) R R) R (.op (O.faP y1T (Gu.mk R R) R R) R (.op (O.ld nag3 (Gu.mk R R) R (.B R) R R) R (.op (O.bi (Gu.mk R R) R R R R) R (.op (O.pkF Z R R R R) R ((J26 (decide (x24.1≥p0.2.1)) (orF hc).symm).sub [] R))))))
 ·refine .cF R hc ?_
  exact .exit (.seqX (.seqX ((K20 _ (ho17 _ (oi hm).symm)).sub [] R)))
def y1t (p0:AutT):Option Int:=
 (y1i p0.1 32).bind fun r1=>
 if(r1 != 0) then
  some r1
 else
  if decide (p0.2.1 < 0) then
   some 2
  else
   if decide (p0.2.1 > 4096) then
    some 3
   else
    (y1i p0.2.2.1 p0.2.1).bind fun r2=>
    if(r2 != 0) then
     some r2
    else
     (y2z p0).bind fun r3=>
     some r3
theorem y4k {p0:AutT} {r:Int} (hm:y1t p0=some r):
  Fw Tryz.prog 101 ⟨0,[]⟩ [.a [lF qI p0.1,lI p0.2.1,lF qI p0.2.2.1,lF qT p0.2.2.2]] [] (.i r) []:=by
 unfold y1t at hm
 refine Fw.mk' Tryz.func101 R Tryz.ntmps101 R R (fun C=>?_) R R
 refine .seq (.reg (.op (O.box 0 R Z R R R) R (.sa R (.nil (.seqN (.seq (.seq (.reg (.op (O.faP y1S Z R R) R (.op (O.ld nag32 Z R (.B R) R R) R (bS hm fun r1 er1 hm=> .op (O.ca0 (y4M er1) cf164 R R Z R R R) R (.sa R (.nil (.seqN (.seq (.reg (.mv R (.bi R (.nil (.seqN ?_))))))))))))))))))))
 rcases ifS hm with ⟨hc,hm⟩ | ⟨hc,hm⟩
 ·refine .cT R hc ?_
  refine .seq (.reg (.mv R (.sa R (.nil (.seqN (.ret (.seqR ?_)))))))
  obtain rfl:=oi hm
  exact WX.rt [] (.inl R) Tryz.results101 (.tmp R .nil) R (fun _ _ _ h=>h) trivial
 ·refine .cF R hc ?_
  refine .skip (.seqN (.seq (.block (.seq (.reg (.op (O.faP y1T Z R R) R (.op (O.ld nag3 Z R (.B R) R R) R (.bi R (.sa R (.nil (.seqN ?_)))))))))))
  rcases ifS hm with ⟨hc,hm⟩ | ⟨hc,hm⟩
  ·refine .cT R hc ?_
   refine .seq (.reg (.sa R (.nil (.seqN (.ret (.blkR (.seqR ?_)))))))
   obtain rfl:=oi hm
   exact WX.rt [] (.inl R) Tryz.results101 (.tmp R .nil) R (fun _ _ _ h=>h) trivial
  ·refine .cF R hc ?_
   refine .seq (.reg (.op (O.faP y1T Z R R) R (.op (O.ld nag3 Z R (.B R) R R) R (.bi R (.sa R (.nil (.seqN ?_)))))))
   rcases ifS hm with ⟨hc,hm⟩ | ⟨hc,hm⟩
   ·refine .cT R hc ?_
    refine .seq (.reg (.sa R (.nil (.seqN (.ret (.blkR (.seqR ?_)))))))
    obtain rfl:=oi hm
    exact WX.rt [] (.inl R) Tryz.results101 (.tmp R .nil) R (fun _ _ _ h=>h) trivial
   ·refine .cF R hc ?_
    refine .skip (.blkN (.seqN (.seq (.seq (.reg (.op (O.faP y3l Z R R) R (.op (O.ld nag32 Z R (.B R) R R) R (.op (O.faP y1T Z R R) R (.op (O.ld nag3 Z R (.B R) R R) R (bS hm fun r2 er2 hm=> .op (O.ca0 (y4M er2) cf164 R R Z R R R) R (.sa R (.nil (.seqN (.seq (.reg (.mv R (.bi R (.nil (.seqN ?_)))))))))))))))))))
    rcases ifS hm with ⟨hc,hm⟩ | ⟨hc,hm⟩
    ·refine .cT R hc ?_
     refine .seq (.reg (.mv R (.sa R (.nil (.seqN (.ret (.seqR ?_)))))))
     obtain rfl:=oi hm
     exact WX.rt [] (.inl R) Tryz.results101 (.tmp R .nil) R (fun _ _ _ h=>h) trivial
    ·refine .cF R hc ?_
     refine .skip (.seqN (.seq (.reg (.op (O.lg (l':=[lF qI p0.1,lI p0.2.1,lF qI p0.2.2.1,lF qT p0.2.2.2]) ag35 Z R (.B R) R R R) R (bS hm fun r3 er3 hm=> .op (O.ca0 (y6d er3) cf165 R R Z R R R) R (.sa R (.nil (.seqN (.ret ?_)))))))))
     obtain rfl:=oi hm
     exact WX.rt [] (.inl R) Tryz.results101 (.tmp R .nil) R (fun _ _ _ h=>h) trivial
def yF (p2:Bool→Bool→Option Bool) (st37:List Int×List Int×List Int) (b42:Bool) (b44:Bool) (l46:List Int) (l49:List Int) (n50:Int):Option ((List Int×List Int×List Int) ⊕ (List Int)):=
 (p2 b42 b44).bind fun r52=>
 if r52 then
  (app st37.1 ([n50]:List Int)).bind fun x53=>
  some (.inl (x53,l46,l49))
 else
  some (.inl (st37.1,l46,l49))
def ym (p2:Bool→Bool→Option Bool) (st37:List Int×List Int×List Int) (b42:Bool) (b44:Bool) (l46:List Int) (n47:Int):Option ((List Int×List Int×List Int) ⊕ (List Int)):=
 if b44 then
  (idx st37.2.2 0).bind fun x54=>
  (slc st37.2.2 1 (st37.2.2.length:Int)).bind fun x55=>
  yF p2 st37 b42 b44 l46 x55 x54
 else
  yF p2 st37 b42 b44 l46 st37.2.2 n47
def yr (p2:Bool→Bool→Option Bool) (st37:List Int×List Int×List Int) (b42:Bool) (b44:Bool):Option ((List Int×List Int×List Int) ⊕ (List Int)):=
 if b42 then
  (idx st37.2.1 0).bind fun x56=>
  (slc st37.2.1 1 (st37.2.1.length:Int)).bind fun x57=>
  ym p2 st37 b42 b44 x57 x56
 else
  ym p2 st37 b42 b44 st37.2.1 0
def yG (p2:Bool→Bool→Option Bool) (st37:List Int×List Int×List Int) (b42:Bool):Option ((List Int×List Int×List Int) ⊕ (List Int)):=
 if decide ((st37.2.2.length:Int) > 0) then
  if((st37.2.1.length:Int) == 0) then
   yr p2 st37 b42 true
  else
   (idx st37.2.2 0).bind fun x62=>
   (idx st37.2.1 0).bind fun x63=>
   yr p2 st37 b42 (decide (x62≤x63))
 else
  yr p2 st37 b42 false
def yn (p2:Bool→Bool→Option Bool) (st37:List Int×List Int×List Int):Option ((List Int×List Int×List Int) ⊕ (List Int)):=
 if((decide ((st37.2.1.length:Int) > 0)) || (decide ((st37.2.2.length:Int) > 0))) then
  if decide ((st37.2.1.length:Int) > 0) then
   if((st37.2.2.length:Int) == 0) then
    yG p2 st37 true
   else
    (idx st37.2.1 0).bind fun x68=>
    (idx st37.2.2 0).bind fun x69=>
    yG p2 st37 (decide (x68≤x69))
  else
   yG p2 st37 false
 else
  some (.inr st37.1)
def y2d (p0:List Int) (p1:List Int) (p2:Bool→Bool→Option Bool):Option (List Int):=
 (iter (yn p2) (([]:List Int),p0,p1)).bind fun o37=>
 some o37
theorem y4u {p0:List Int} {p1:List Int} {p2:Bool→Bool→Option Bool} {r:List Int} (hm:y2d p0 p1 p2=some r):
  Fw Tryz.prog 75 ⟨0,[]⟩ [.f qI p0,.f qI p1,.o (lW Tryz.prog (fun (x:Bool×Bool)=> [.b x.1,.b x.2]) (fun (r:Bool)=> .b r) (fun x=>p2 x.1 x.2))] [] (.h 0) [ROW qI 3 r]:=by
 unfold y2d at hm
 refine Fw.mk' Tryz.func75 R Tryz.ntmps75 R R (fun C=>?_) R R
 refine .seq (.reg (.sa R (.nil (.seqN (.seq (.reg (.sa R (.nil (.seqN (.seq (.block (bS hm fun o37 eo37 hm=>?_))))))))))))
 refine .cut1 (z:= .exit 0) o37 (fun (o37:List Int)=>⟨[(7,.h 0)],[(0,ROW qI 3 o37)],1⟩) ?_ fun K39=>?_
 ·skip
  refine .blkE (.seqN (.seq (.reg (.mv R (.sa R (.nil (.seqN (.ret ?_))))))))
  obtain rfl:=oi hm
  exact WX.rt [0] (.inl R) Tryz.results75 (.tmp R .nil) R (fun _ _ _ h=>h) ⟨⟨_,R,fun _ _ _ _ h=>h⟩,trivial⟩
 refine .nlg qI 3 7 0 R R (.iter (fun (st37:List Int×List Int×List Int)=>⟨[(7,.h 0),(0,.f qI st37.2.1),(1,.f qI st37.2.2),(2,.o (lW Tryz.prog (fun (x:Bool×Bool)=> [.b x.1,.b x.2]) (fun (r:Bool)=> .b r) (fun x=>p2 x.1 x.2)))],[(0,ROW qI 3 st37.1)],1⟩) eo37 [] R ?_)
 intro st37 res37 hm ih37 ho37
 unfold yn at hm
 refine .seq (.seq (.reg (.mv R (.op (O.len sl32 Z R R) R (.bi R (.mv R ?_))))))
 refine .cut 4 (fun (v40:Bool)=>((decide ((st37.2.1.length:Int) > 0)) || (decide ((st37.2.2.length:Int) > 0)))=v40) (fun v40=>⟨[(18,.b v40),(7,.h 0),(0,.f qI st37.2.1),(1,.f qI st37.2.2),(2,.o (lW Tryz.prog (fun (x:Bool×Bool)=> [.b x.1,.b x.2]) (fun (r:Bool)=> .b r) (fun x=>p2 x.1 x.2)))],[(0,ROW qI 3 st37.1)],1⟩) ?_ ?_
 ·rintro _ rfl
  refine .nil (.seqN ?_)
  rcases ifS hm with ⟨hc,hm⟩ | ⟨hc,hm⟩
  ·refine .cT R hc ?_
   refine .skip (.seqN (.block ?_))
   refine .join1 (fun (b42:Bool)=>yG p2 st37 b42=some res37) (fun b42=>⟨[(8,.b b42),(7,.h 0),(0,.f qI st37.2.1),(1,.f qI st37.2.2),(2,.o (lW Tryz.prog (fun (x:Bool×Bool)=> [.b x.1,.b x.2]) (fun (r:Bool)=> .b r) (fun x=>p2 x.1 x.2)))],[(0,ROW qI 3 st37.1)],1⟩) ?_ ?_
   ·intro b42 hm
    unfold yG at hm
    refine .join1 (fun (b44:Bool)=>yr p2 st37 b42 b44=some res37) (fun b44=>⟨[(9,.b b44),(8,.b b42),(7,.h 0),(0,.f qI st37.2.1),(1,.f qI st37.2.2),(2,.o (lW Tryz.prog (fun (x:Bool×Bool)=> [.b x.1,.b x.2]) (fun (r:Bool)=> .b r) (fun x=>p2 x.1 x.2)))],[(0,ROW qI 3 st37.1)],1⟩) ?_ ?_
    ·intro b44 hm
     unfold yr at hm
     refine .seq (.reg (.sa R (.nil (.seqN ?_))))
     refine .join2 (fun (l46:List Int) (n47:Int)=>ym p2 st37 b42 b44 l46 n47=some res37) (fun l46 n47=>⟨[(0,.f qI l46),(10,.i n47),(9,.b b44),(8,.b b42),(7,.h 0),(1,.f qI st37.2.2),(2,.o (lW Tryz.prog (fun (x:Bool×Bool)=> [.b x.1,.b x.2]) (fun (r:Bool)=> .b r) (fun x=>p2 x.1 x.2)))],[(0,ROW qI 3 st37.1)],1⟩) ?_ ?_
     ·intro l46 n47 hm
      unfold ym at hm
      refine .join2 (fun (l49:List Int) (n50:Int)=>yF p2 st37 b42 b44 l46 l49 n50=some res37) (fun l49 n50=>⟨[(1,.f qI l49),(10,.i n50),(0,.f qI l46),(9,.b b44),(8,.b b42),(7,.h 0),(2,.o (lW Tryz.prog (fun (x:Bool×Bool)=> [.b x.1,.b x.2]) (fun (r:Bool)=> .b r) (fun x=>p2 x.1 x.2)))],[(0,ROW qI 3 st37.1)],1⟩) ?_ ?_
      ·intro l49 n50 hm
       unfold yF at hm
       refine .seq (.reg (.mv R (.mv R (.mv R (bS hm fun r52 er52 hm=>?_)))))
       refine .op (O.fv (y:=(b42,b44)) R R R Z R er52 R R) R ?_
       refine .nil (.seqN ?_)
       rcases ifS hm with ⟨hc,hm⟩ | ⟨hc,hm⟩
       ·refine .cT R hc ?_
        exact .reg (.mv R (.mv R (.op (O.bsF (r:=qI) (zs:=([n50]:List Int)) bs32 R R Z R R R (.c .k .n) R R R) R (bS hm fun x53 ex53 hm=> .op (O.ap 1 Tryz.underlying32 el3 R R Z R R (.fr R) ex53 R) R (.sa R (.nil (.blkN ((ih37 _ (oi hm).symm).sub [(0,1)] R))))))))
       ·refine .cF R hc ?_
        exact .skip (.blkN ((ih37 _ (oi hm).symm).sub [] R))
      ·intro Jj51
       refine .seq (.reg (.mv R (.nil (.seqN ?_))))
       rcases ifS hm with ⟨hc,hm⟩ | ⟨hc,hm⟩
       ·refine .cT R hc ?_
        refine .sub (τ:=⟨[(0,.f qI l46),(9,.b b44),(8,.b b42),(7,.h 0),(1,.f qI st37.2.2),(2,.o (lW Tryz.prog (fun (x:Bool×Bool)=> [.b x.1,.b x.2]) (fun (r:Bool)=> .b r) (fun x=>p2 x.1 x.2)))],[(0,ROW qI 3 st37.1)],1⟩) ?_ [] R
        refine bS hm fun x54 ex54 hm=>bS hm fun x55 ex55 hm=>?_
        refine .drg 1 [(1,[]),(1,[oT]),(1,[oT,oT]),(1,[]),(1,[oF,oF,oF,oT]),(1,tT 3),(1,tT 6)] [_,_,_,_,_,_,_] ⟨[(1,.f qI x55),(10,.i x54),(0,.f qI l46),(9,.b b44),(8,.b b42),(7,.h 0),(2,.o (lW Tryz.prog (fun (x:Bool×Bool)=> [.b x.1,.b x.2]) (fun (r:Bool)=> .b r) (fun x=>p2 x.1 x.2)))],[(0,ROW qI 3 st37.1)],1⟩ ⟨O.mv Z R R,O.ix sl32 Z R R ex54 R,O.ld nag3 Z R (.E lv3) R R,O.mv Z R R,O.sf sl32 Z R R ex55 R,O.as Z R R,O.as Z R R,trivial⟩ (by kernel_rfl) R ?_
        exact(Jj51 _ _ hm).sub [] R
       ·refine .cF R hc ?_
        exact .skip ((Jj51 _ _ hm).sub [] R)
     ·intro Jj48
      refine .seq (.reg (.mv R (.nil (.seqN ?_))))
      rcases ifS hm with ⟨hc,hm⟩ | ⟨hc,hm⟩
      ·refine .cT R hc ?_
       refine .sub (τ:=⟨[(9,.b b44),(8,.b b42),(7,.h 0),(0,.f qI st37.2.1),(1,.f qI st37.2.2),(2,.o (lW Tryz.prog (fun (x:Bool×Bool)=> [.b x.1,.b x.2]) (fun (r:Bool)=> .b r) (fun x=>p2 x.1 x.2)))],[(0,ROW qI 3 st37.1)],1⟩) ?_ [] R
       refine bS hm fun x56 ex56 hm=>bS hm fun x57 ex57 hm=>?_
       refine .drg 1 [(1,[]),(1,[oT]),(1,[oT,oT]),(1,[]),(1,[oF,oF,oF,oT]),(1,tT 3),(1,tT 6)] [_,_,_,_,_,_,_] ⟨[(0,.f qI x57),(10,.i x56),(9,.b b44),(8,.b b42),(7,.h 0),(1,.f qI st37.2.2),(2,.o (lW Tryz.prog (fun (x:Bool×Bool)=> [.b x.1,.b x.2]) (fun (r:Bool)=> .b r) (fun x=>p2 x.1 x.2)))],[(0,ROW qI 3 st37.1)],1⟩ ⟨O.mv Z R R,O.ix sl32 Z R R ex56 R,O.ld nag3 Z R (.E lv3) R R,O.mv Z R R,O.sf sl32 Z R R ex57 R,O.as Z R R,O.as Z R R,trivial⟩ (by kernel_rfl) R ?_
       exact(Jj48 _ _ hm).sub [] R
      ·refine .cF R hc ?_
       exact .skip ((Jj48 _ _ hm).sub [] R)
    ·intro Jj45
     refine .sub (τ:=⟨[(8,.b b42),(7,.h 0),(0,.f qI st37.2.1),(1,.f qI st37.2.2),(2,.o (lW Tryz.prog (fun (x:Bool×Bool)=> [.b x.1,.b x.2]) (fun (r:Bool)=> .b r) (fun x=>p2 x.1 x.2)))],[(0,ROW qI 3 st37.1)],1⟩) ?_ [] R
     refine .drP 3 [(1,[]),(1,[oT]),(1,[oT,oT])] [_,_,_] ⟨O.mv Z R R,O.len sl32 Z R R,O.bi Z R R R R,trivial⟩ fun hp58=>?_
     rcases ifS hm with ⟨hc59,hm⟩ | ⟨hc59,hm⟩
     ·skip
      refine .drX hp58 7 [(1,tT 3),(1,tT 4),(1,tT 5),(1,tT 6)] [_,_,_,_] ⟨O.kn (O.mv Z R R) hc59,O.mv (Gu.mk R R) R R,O.len sl32 (Gu.mk R R) R R,O.bi (Gu.mk R R) R R R R,trivial⟩ (by kernel_rfl) fun hp60=>?_
      rcases ifS hm with ⟨hc61,hm⟩ | ⟨hc61,hm⟩
      ·skip
       exact .drF hp60 [(1,tT 7),(1,tT 8),(1,tT 9),(1,tT 10),(1,tT 8),(1,tA 8 (fA 3 (tT 1))),(1,tA 8 (fA 3 (tT 2))),(1,tT 14),(1,tT 15),(1,tT 16),(1,tT 17)] [_,_,_,_,_,_,_,_,_,_,_] ⟨[(9,.b true),(8,.b b42),(7,.h 0),(0,.f qI st37.2.1),(1,.f qI st37.2.2),(2,.o (lW Tryz.prog (fun (x:Bool×Bool)=> [.b x.1,.b x.2]) (fun (r:Bool)=> .b r) (fun x=>p2 x.1 x.2)))],[(0,ROW qI 3 st37.1)],1⟩ ⟨O.kn (O.mv (Gu.mk R R) R R) hc61,O.skip R R R R,O.skip R R R R,O.skip R R R R,O.skip R R R R,O.skip R R R R,O.skip R R R R,O.skip R R R R,O.pkT (Gu.mk R R) R R R R,O.pkT Z R R R R,O.as Z R R,trivial⟩ (by kernel_rfl) R ((Jj45 _ hm).sub [] R)
      ·skip
       exact bS hm fun x62 ex62 hm=>bS hm fun x63 ex63 hm=> .drF hp60 [(1,tT 7),(1,tT 8),(1,tT 9),(1,tT 10),(1,tT 8),(1,tA 8 (fA 3 (tT 1))),(1,tA 8 (fA 3 (tT 2))),(1,tT 14),(1,tT 15),(1,tT 16),(1,tT 17)] [_,_,_,_,_,_,_,_,_,_,_] ⟨[(9,.b (decide (x62≤x63))),(8,.b b42),(7,.h 0),(0,.f qI st37.2.1),(1,.f qI st37.2.2),(2,.o (lW Tryz.prog (fun (x:Bool×Bool)=> [.b x.1,.b x.2]) (fun (r:Bool)=> .b r) (fun x=>p2 x.1 x.2)))],[(0,ROW qI 3 st37.1)],1⟩ ⟨O.kn (O.mv (Gu.mk R R) R R) hc61,O.mv (Gu.mk R R) R R,O.ix sl32 (Gu.mk R R) R R ex62 R,O.ld nag3 (Gu.mk R R) R (.E lv3) R R,O.mv (Gu.mk R R) R R,O.ix sl32 (Gu.mk R R) R R ex63 R,O.ld nag3 (Gu.mk R R) R (.E lv3) R R,O.bi (Gu.mk R R) R R R R,O.pkF (Gu.mk R R) R R R R,O.pkT Z R R R R,O.as Z R R,trivial⟩ (by kernel_rfl) R ((Jj45 _ hm).sub [] R)
     ·skip
      exact .drF hp58 [(1,tT 3),(1,tT 4),(1,tT 5),(1,tT 6),(1,tT 7),(1,tT 8),(1,tT 9),(1,tT 10),(1,tT 8),(1,tA 8 (fA 3 (tT 1))),(1,tA 8 (fA 3 (tT 2))),(1,tT 14),(1,tT 15),(1,tT 16),(1,tT 17)] [_,_,_,_,_,_,_,_,_,_,_,_,_,_,_] ⟨[(9,.b false),(8,.b b42),(7,.h 0),(0,.f qI st37.2.1),(1,.f qI st37.2.2),(2,.o (lW Tryz.prog (fun (x:Bool×Bool)=> [.b x.1,.b x.2]) (fun (r:Bool)=> .b r) (fun x=>p2 x.1 x.2)))],[(0,ROW qI 3 st37.1)],1⟩ ⟨O.kn (O.mv Z R R) hc59,O.skip R R R R,O.skip R R R R,O.skip R R R R,O.skip R R R R,O.skipU R R R,O.skipU R R R,O.skipU R R R,O.skipU R R R,O.skipU R R R,O.skipU R R R,O.skipU R R R,O.skip R R R R,O.pkF Z R R R R,O.as Z R R,trivial⟩ (by kernel_rfl) R ((Jj45 _ hm).sub [] R)
   ·intro Jj43
    refine .sub (τ:=⟨[(7,.h 0),(0,.f qI st37.2.1),(1,.f qI st37.2.2),(2,.o (lW Tryz.prog (fun (x:Bool×Bool)=> [.b x.1,.b x.2]) (fun (r:Bool)=> .b r) (fun x=>p2 x.1 x.2)))],[(0,ROW qI 3 st37.1)],1⟩) ?_ [] R
    refine .drP 3 [(1,[]),(1,[oT]),(1,[oT,oT])] [_,_,_] ⟨O.mv Z R R,O.len sl32 Z R R,O.bi Z R R R R,trivial⟩ fun hp64=>?_
    rcases ifS hm with ⟨hc65,hm⟩ | ⟨hc65,hm⟩
    ·skip
     refine .drX hp64 7 [(1,tT 3),(1,tT 4),(1,tT 5),(1,tT 6)] [_,_,_,_] ⟨O.kn (O.mv Z R R) hc65,O.mv (Gu.mk R R) R R,O.len sl32 (Gu.mk R R) R R,O.bi (Gu.mk R R) R R R R,trivial⟩ (by kernel_rfl) fun hp66=>?_
     rcases ifS hm with ⟨hc67,hm⟩ | ⟨hc67,hm⟩
     ·skip
      exact .drF hp66 [(1,tT 7),(1,tT 8),(1,tT 9),(1,tT 10),(1,tT 8),(1,tA 8 (fA 3 (tT 1))),(1,tA 8 (fA 3 (tT 2))),(1,tT 14),(1,tT 15),(1,tT 16),(1,tT 17)] [_,_,_,_,_,_,_,_,_,_,_] ⟨[(8,.b true),(7,.h 0),(0,.f qI st37.2.1),(1,.f qI st37.2.2),(2,.o (lW Tryz.prog (fun (x:Bool×Bool)=> [.b x.1,.b x.2]) (fun (r:Bool)=> .b r) (fun x=>p2 x.1 x.2)))],[(0,ROW qI 3 st37.1)],1⟩ ⟨O.kn (O.mv (Gu.mk R R) R R) hc67,O.skip R R R R,O.skip R R R R,O.skip R R R R,O.skip R R R R,O.skip R R R R,O.skip R R R R,O.skip R R R R,O.pkT (Gu.mk R R) R R R R,O.pkT Z R R R R,O.as Z R R,trivial⟩ (by kernel_rfl) R ((Jj43 _ hm).sub [] R)
     ·skip
      exact bS hm fun x68 ex68 hm=>bS hm fun x69 ex69 hm=> .drF hp66 [(1,tT 7),(1,tT 8),(1,tT 9),(1,tT 10),(1,tT 8),(1,tA 8 (fA 3 (tT 1))),(1,tA 8 (fA 3 (tT 2))),(1,tT 14),(1,tT 15),(1,tT 16),(1,tT 17)] [_,_,_,_,_,_,_,_,_,_,_] ⟨[(8,.b (decide (x68≤x69))),(7,.h 0),(0,.f qI st37.2.1),(1,.f qI st37.2.2),(2,.o (lW Tryz.prog (fun (x:Bool×Bool)=> [.b x.1,.b x.2]) (fun (r:Bool)=> .b r) (fun x=>p2 x.1 x.2)))],[(0,ROW qI 3 st37.1)],1⟩ ⟨O.kn (O.mv (Gu.mk R R) R R) hc67,O.mv (Gu.mk R R) R R,O.ix sl32 (Gu.mk R R) R R ex68 R,O.ld nag3 (Gu.mk R R) R (.E lv3) R R,O.mv (Gu.mk R R) R R,O.ix sl32 (Gu.mk R R) R R ex69 R,O.ld nag3 (Gu.mk R R) R (.E lv3) R R,O.bi (Gu.mk R R) R R R R,O.pkF (Gu.mk R R) R R R R,O.pkT Z R R R R,O.as Z R R,trivial⟩ (by kernel_rfl) R ((Jj43 _ hm).sub [] R)
    ·skip
     exact .drF hp64 [(1,tT 3),(1,tT 4),(1,tT 5),(1,tT 6),(1,tT 7),(1,tT 8),(1,tT 9),(1,tT 10),(1,tT 8),(1,tA 8 (fA 3 (tT 1))),(1,tA 8 (fA 3 (tT 2))),(1,tT 14),(1,tT 15),(1,tT 16),(1,tT 17)] [_,_,_,_,_,_,_,_,_,_,_,_,_,_,_] ⟨[(8,.b false),(7,.h 0),(0,.f qI st37.2.1),(1,.f qI st37.2.2),(2,.o (lW Tryz.prog (fun (x:Bool×Bool)=> [.b x.1,.b x.2]) (fun (r:Bool)=> .b r) (fun x=>p2 x.1 x.2)))],[(0,ROW qI 3 st37.1)],1⟩ ⟨O.kn (O.mv Z R R) hc65,O.skip R R R R,O.skip R R R R,O.skip R R R R,O.skip R R R R,O.skipU R R R,O.skipU R R R,O.skipU R R R,O.skipU R R R,O.skipU R R R,O.skipU R R R,O.skipU R R R,O.skip R R R R,O.pkF Z R R R R,O.as Z R R,trivial⟩ (by kernel_rfl) R ((Jj43 _ hm).sub [] R)
  ·refine .cF R hc ?_
   exact .exit (.seqX (.seqX ((K39 _ (ho37 _ (oi hm).symm)).sub [] R)))
 ·intro J41
  rcases Bool.eq_false_or_eq_true (decide ((st37.2.1.length:Int) > 0)) with hc | hc
  ·refine .know (d:=14) R hc ?_
   exact .sk R (.sk R (.sk R (.op (O.pkT Z R R R R) R ((J41 true (orT hc).symm).sub [] R))))
  ·refine .know (d:=14) R hc ?_
   exact .op (O.mv (Gu.mk R R) R R) R (.op (O.len sl32 (Gu.mk R R) R R) R (.op (O.bi (Gu.mk R R) R R R R) R (.op (O.pkF Z R R R R) R ((J41 (decide ((st37.2.2.length:Int) > 0)) (orF hc).symm).sub [] R))))
def y3P (p0:Bool) (p1:Bool):Option Bool:=
 some (p0 && (!p1))
theorem y7g {p0:Bool} {p1:Bool} {r:Bool} (hm:y3P p0 p1=some r):
  Fw Tryz.prog 76 ⟨0,[]⟩ [.b p0,.b p1] [] (.b r) []:=by
 unfold y3P at hm
 refine Fw.mk' Tryz.func76 R Tryz.ntmps76 R R (fun C=>?_) R R
 refine .seq (.reg (.sa R (.nil (.seqN (.seq (.reg (.mv R (.mv R ?_))))))))
 refine .cut 3 (fun (v1:Bool)=>(p0 && (!p1))=v1) (fun v1=>⟨[(9,.b v1)],[],0⟩) ?_ ?_
 ·rintro _ rfl
  refine .sa R (.nil (.seqN (.ret ?_)))
  obtain rfl:=oi hm
  exact WX.rt [] (.inl R) Tryz.results76 (.tmp R .nil) R (fun _ _ _ h=>h) trivial
 ·intro J2
  rcases Bool.eq_false_or_eq_true p0 with hc | hc
  ·refine .know (d:=6) R hc ?_
   exact .op (O.mv (Gu.mk R R) R R) R (.op (O.not (Gu.mk R R) R R) R (.op (O.pkT Z R R R R) R ((J2 (!p1) (andT hc).symm).sub [] R)))
  ·refine .know (d:=6) R hc ?_
   exact .sk R (.sk R (.op (O.pkF Z R R R R) R ((J2 false (andF hc).symm).sub [] R)))
def y3h (p0:List Int) (p1:List Int):Option (List Int):=
 (y2d p0 p1 y3P).bind fun r1=>
 some r1
theorem y5z {p0:List Int} {p1:List Int} {r:List Int} (hm:y3h p0 p1=some r):
  Fw Tryz.prog 17 ⟨0,[]⟩ [.f qI p0,.f qI p1] [] (.h 0) [ROW qI 3 r]:=by
 unfold y3h at hm
 refine Fw.mk' Tryz.func17 R Tryz.ntmps17 R R (fun C=>?_) R R
 refine .seq (.reg (.sa R (.nil (.seqN (.seq (.reg (.mv R (.mv R (bS hm fun r1 er1 hm=> .op (O.cac (r':= .h 0) [0] [(0,ROW qI 3 r1)] (some 1) (y4u er1) cf75 R R Z R R ⟨⟨R,.rf⟩,⟨R,.rf⟩,⟨R,(.c (.fn cf76 (fun x r h=>y7g h) (fun _=>R)) .n)⟩,trivial⟩ R ⟨⟨_,R,fun _ _ _ _ h=>h⟩,trivial⟩ (fun _ _ _ h=>h) R) R (.sa R (.nil (.seqN (.ret ?_)))))))))))))
 obtain rfl:=oi hm
 exact WX.rt [0] (.inl R) Tryz.results17 (.tmp R .nil) R (fun _ _ _ h=>h) ⟨⟨_,R,fun _ _ _ _ h=>h⟩,trivial⟩
def y2u (p0:List Int) (p1:List Int):Option Bool:=
 (y3h p0 p1).bind fun r1=>
 some ((r1.length:Int) == 0)
theorem y4l {p0:List Int} {p1:List Int} {r:Bool} (hm:y2u p0 p1=some r):
  Fw Tryz.prog 26 ⟨0,[]⟩ [.f qI p0,.f qI p1] [] (.b r) []:=by
 unfold y2u at hm
 refine Fw.mk' Tryz.func26 R Tryz.ntmps26 R R (fun C=>?_) R R
 refine .seq (.reg (.sa R (.nil (.seqN (.seq (.reg (.mv R (.mv R (bS hm fun r1 er1 hm=> .op (O.ca (r':= .h 0) [0] [(0,ROW qI 3 r1)] (some 1) (y5z er1) cf17 R R Z R R R R ⟨⟨_,R,fun _ _ _ _ h=>h⟩,trivial⟩ (fun _ _ _ h=>h) R) R (.op (O.lenH sl32 Z R R R) R (.bi R (.sa R (.nil (.seqN (.ret ?_)))))))))))))))
 obtain rfl:=oi hm
 exact WX.rt [] (.inl R) Tryz.results26 (.tmp R .nil) R (fun _ _ _ h=>h) trivial
def y4N (p0:List Int) (p1:Int) (st10:Int):Option (Int ⊕ (Unit ⊕ Int)):=
 if decide (st10 < (p0.length:Int)) then
  (idx p0 st10).bind fun x16=>
  if((decide (x16 < 0)) || (decide (x16≥p1))) then
   some (.inr (.inr (2)))
  else
   (if decide (st10 > 0) then
    (idx p0 (W (st10 - 1))).bind fun x22=>
    some (decide (x16≤x22))
   else
    some false).bind fun b19=>
   if b19 then
    some (.inr (.inr (5)))
   else
    some (.inl (W (st10 + 1)))
 else
  some (.inr (.inl ()))
def yT (p0:List Int) (p1:Int):Option Int:=
 (iter (y4N p0 p1) 0).bind fun o10=>
 match o10 with
 | .inl u12=>
  some 0
 | .inr (u14)=>
  some u14
theorem y2F {p0:List Int} {p1:Int} {r:Int} (hm:yT p0 p1=some r):
  Fw Tryz.prog 25 ⟨0,[]⟩ [.f qI p0,.i p1] [] (.i r) []:=by
 unfold yT at hm
 refine Fw.mk' Tryz.func25 R Tryz.ntmps25 R R (fun C=>?_) R R
 refine .seq (.reg (.sa R (.nil (.seqN (.seq (.seq (.reg (.mv R (.op (O.len sl32 Z R R) R (.mv R (.nil (.seqN (.block (bS hm fun o10 eo10 hm=>?_))))))))))))))
 refine .cutU (z:= .exit 0) (fun u12=> .inl u12=o10) (fun (u12:Unit)=>⟨[],[],0⟩) ?_ fun K13=>?_
 ·rintro u12 rfl
  dsimp only at hm
  refine .blkE (.seqN (.seq (.reg (.sa R (.nil (.seqN (.ret ?_)))))))
  obtain rfl:=oi hm
  exact WX.rt [] (.inl R) Tryz.results25 (.tmp R .nil) R (fun _ _ _ h=>h) trivial
 refine .cutU (z:= .ret) (fun u14=> .inr (u14)=o10) (fun (u14:Int)=>⟨[(4,.i u14)],[],0⟩) ?_ fun K15=>?_
 ·rintro u14 rfl
  dsimp only at hm
  refine .blkR (.seqR ?_)
  obtain rfl:=oi hm
  exact WX.rt [] (.inl R) Tryz.results25 (.tmp R .nil) R (fun _ _ _ h=>h) trivial
 refine .iter (fun (st10:Int)=>⟨[(9,.i st10),(8,.i (p0.length:Int)),(7,.f qI p0),(0,.f qI p0),(1,.i p1)],[],0⟩) eo10 [] R ?_
 intro st10 res10 hm ih10 ho10
 unfold y4N at hm
 refine .seq (.reg (.bi R (.nil (.seqN (.seq ?_)))))
 rcases ifS hm with ⟨hc,hm⟩ | ⟨hc,hm⟩
 ·refine .cT R hc ?_
  refine .skip (.seqN (.seq (.block (.seq (.reg (.mv R (bS hm fun x16 ex16 hm=> .op (O.ix sl32 Z R R ex16 R) R (.op (O.ld nag3 Z R (.E lv3) R R) R (.sa R (.sa R (.nil (.seqN (.seq (.seq (.reg (.mv R (.bi R (.mv R ?_))))))))))))))))))
  refine .cut 4 (fun (v17:Bool)=>((decide (x16 < 0)) || (decide (x16≥p1)))=v17) (fun v17=>⟨[(20,.b v17),(6,.i x16),(5,.i st10),(9,.i st10),(8,.i (p0.length:Int)),(7,.f qI p0),(0,.f qI p0),(1,.i p1)],[],0⟩) ?_ ?_
  ·rintro _ rfl
   refine .nil (.seqN ?_)
   rcases ifS hm with ⟨hc,hm⟩ | ⟨hc,hm⟩
   ·refine .cT R hc ?_
    exact .seq (.reg (.sa R (.nil (.seqN (.ret (.seqR (.blkR (.seqR (.seqR ((K15 _ (ho10 _ (oi hm).symm)).sub [] R))))))))))
   ·refine .cF R hc ?_
    refine .skip (.seqN (.seq (.reg (.mv R (.bi R (.mv R (bS hm fun b19 eb19 hm=>?_)))))))
    refine .cut 8 (fun (v20:Bool)=>b19=v20) (fun v20=>⟨[(31,.b v20),(9,.i st10),(8,.i (p0.length:Int)),(7,.f qI p0),(0,.f qI p0),(1,.i p1)],[],0⟩) ?_ ?_
    ·rintro _ rfl
     refine .nil (.seqN ?_)
     rcases ifS hm with ⟨hc,hm⟩ | ⟨hc,hm⟩
     ·refine .cT R hc ?_
      exact .seq (.reg (.sa R (.nil (.seqN (.ret (.blkR (.seqR (.seqR ((K15 _ (ho10 _ (oi hm).symm)).sub [] R)))))))))
     ·refine .cF R hc ?_
      exact .skip (.blkN (.seqN (.reg (.bi R (.mv R (.nil ((ih10 _ (oi hm).symm).sub [] R)))))))
    ·intro J21
     rcases ifS eb19 with ⟨hc,hm⟩ | ⟨hc,hm⟩
     ·refine .know (d:=23) R hc ?_
      exact .op (O.mv (Gu.mk R R) R R) R (.op (O.mv (Gu.mk R R) R R) R (.op (O.mv (Gu.mk R R) R R) R (.op (O.bi (Gu.mk R R) R R R R) R (bS hm fun x22 ex22 hm=> .op (O.ix sl32 (Gu.mk R R) R R ex22 R) R (.op (O.ld nag3 (Gu.mk R R) R (.E lv3) R R) R (.op (O.bi (Gu.mk R R) R R R R) R (.op (O.pkT Z R R R R) R ((J21 (decide (x16≤x22)) (oi hm).symm).sub [] R))))))))
     ·refine .know (d:=23) R hc ?_
      exact .sk R (.sk R (.sk R (.sk R (.sk R (.sk R (.sk R (.op (O.pkF Z R R R R) R ((J21 false (oi hm).symm).sub [] R))))))))
  ·intro J18
   rcases Bool.eq_false_or_eq_true (decide (x16 < 0)) with hc | hc
   ·refine .know (d:=16) R hc ?_
    exact .sk R (.sk R (.sk R (.op (O.pkT Z R R R R) R ((J18 true (orT hc).symm).sub [] R))))
   ·refine .know (d:=16) R hc ?_
    exact .op (O.mv (Gu.mk R R) R R) R (.op (O.mv (Gu.mk R R) R R) R (.op (O.bi (Gu.mk R R) R R R R) R (.op (O.pkF Z R R R R) R ((J18 (decide (x16≥p1)) (orF hc).symm).sub [] R))))
 ·refine .cF R hc ?_
  exact .exit (.seqX (.seqX ((K13 _ (ho10 _ (oi hm).symm)).sub [] R)))
def y1j (p0:List AutT) (st5:Int):Option (Int ⊕ (Unit ⊕ Int)):=
 if decide (st5 < (p0.length:Int)) then
  (idx p0 st5).bind fun x11=>
  (y1t x11).bind fun r12=>
  if(r12 != 0) then
   some (.inr (.inr (r12)))
  else
   some (.inl (W (st5 + 1)))
 else
  some (.inr (.inl ()))
def y2W (p0:List AutT):Option Int:=
 if decide ((p0.length:Int) > 12) then
  some 3
 else
  (iter (y1j p0) 0).bind fun o5=>
  match o5 with
  | .inl u7=>
   some 0
  | .inr (u9)=>
   some u9
theorem y7T {p0:List AutT} {r:Int} (hm:y2W p0=some r):
  Fw Tryz.prog 95 ⟨0,[]⟩ [.f rE35 p0] [] (.i r) []:=by
 unfold y2W at hm
 refine Fw.mk' Tryz.func95 R Tryz.ntmps95 R R (fun C=>?_) R R
 refine .seq (.reg (.sa R (.nil (.seqN (.seq (.seq (.reg (.mv R (.op (O.len sl66 Z R R) R (.bi R (.nil (.seqN ?_))))))))))))
 rcases ifS hm with ⟨hc,hm⟩ | ⟨hc,hm⟩
 ·refine .cT R hc ?_
  refine .seq (.reg (.sa R (.nil (.seqN (.ret (.seqR ?_))))))
  obtain rfl:=oi hm
  exact WX.rt [] (.inl R) Tryz.results95 (.tmp R .nil) R (fun _ _ _ h=>h) trivial
 ·refine .cF R hc ?_
  refine .skip (.seqN (.seq (.seq (.reg (.mv R (.op (O.len sl66 Z R R) R (.mv R (.nil (.seqN (.block (bS hm fun o5 eo5 hm=>?_)))))))))))
  refine .cutU (z:= .exit 0) (fun u7=> .inl u7=o5) (fun (u7:Unit)=>⟨[],[],0⟩) ?_ fun K8=>?_
  ·rintro u7 rfl
   dsimp only at hm
   refine .blkE (.seqN (.seq (.reg (.sa R (.nil (.seqN (.ret ?_)))))))
   obtain rfl:=oi hm
   exact WX.rt [] (.inl R) Tryz.results95 (.tmp R .nil) R (fun _ _ _ h=>h) trivial
  refine .cutU (z:= .ret) (fun u9=> .inr (u9)=o5) (fun (u9:Int)=>⟨[(2,.i u9)],[],0⟩) ?_ fun K10=>?_
  ·rintro u9 rfl
   dsimp only at hm
   refine .blkR (.seqR ?_)
   obtain rfl:=oi hm
   exact WX.rt [] (.inl R) Tryz.results95 (.tmp R .nil) R (fun _ _ _ h=>h) trivial
  refine .iter (fun (st5:Int)=>⟨[(11,.i st5),(10,.i (p0.length:Int)),(9,.f rE35 p0)],[],0⟩) eo5 [] R ?_
  intro st5 res5 hm ih5 ho5
  unfold y1j at hm
  refine .seq (.reg (.bi R (.nil (.seqN (.seq ?_)))))
  rcases ifS hm with ⟨hc,hm⟩ | ⟨hc,hm⟩
  ·refine .cT R hc ?_
   refine .skip (.seqN (.seq (.block (.seq (.reg (bS hm fun x11 ex11 hm=> .op (O.ix sl66 Z R R ex11 R) R (.op (O.lg (l':=[lF qI x11.1,lI x11.2.1,lF qI x11.2.2.1,lF qT x11.2.2.2]) ag35 Z R (.E lv35) R R R) R (.op (O.al 0 R zz35 R Z R) R (.op (O.st ag35.sz Z R R R R R) R (.nil (.seqN (.seq (.reg (.op (O.lg (l':=[lF qI x11.1,lI x11.2.1,lF qI x11.2.2.1,lF qT x11.2.2.2]) ag35 Z R (.B R) R R R) R (bS hm fun r12 er12 hm=> .op (O.ca0 (y4k er12) cf101 R R Z R R R) R (.sa R (.nil (.seqN (.seq (.reg (.mv R (.bi R (.nil (.seqN ?_))))))))))))))))))))))))
   rcases ifS hm with ⟨hc,hm⟩ | ⟨hc,hm⟩
   ·refine .cT R hc ?_
    exact .seq (.reg (.mv R (.sa R (.nil (.seqN (.ret (.blkR (.seqR (.seqR ((K10 _ (ho5 _ (oi hm).symm)).sub [] R))))))))))
   ·refine .cF R hc ?_
    exact .skip (.blkN (.seqN (.reg (.bi R (.mv R (.nil ((ih5 _ (oi hm).symm).sub [] R)))))))
  ·refine .cF R hc ?_
   exact .exit (.seqX (.seqX ((K8 _ (ho5 _ (oi hm).symm)).sub [] R)))
def yt (p0:Bool) (p1:Bool):Option Bool:=
 some (p0 || p1)
theorem y7h {p0:Bool} {p1:Bool} {r:Bool} (hm:yt p0 p1=some r):
  Fw Tryz.prog 237 ⟨0,[]⟩ [.b p0,.b p1] [] (.b r) []:=by
 unfold yt at hm
 refine Fw.mk' Tryz.func237 R Tryz.ntmps237 R R (fun C=>?_) R R
 refine .seq (.reg (.sa R (.nil (.seqN (.seq (.reg (.mv R (.mv R ?_))))))))
 refine .cut 2 (fun (v1:Bool)=>(p0 || p1)=v1) (fun v1=>⟨[(8,.b v1)],[],0⟩) ?_ ?_
 ·rintro _ rfl
  refine .sa R (.nil (.seqN (.ret ?_)))
  obtain rfl:=oi hm
  exact WX.rt [] (.inl R) Tryz.results237 (.tmp R .nil) R (fun _ _ _ h=>h) trivial
 ·intro J2
  rcases Bool.eq_false_or_eq_true p0 with hc | hc
  ·refine .know (d:=6) R hc ?_
   exact .sk R (.op (O.pkT Z R R R R) R ((J2 true (orT hc).symm).sub [] R))
  ·refine .know (d:=6) R hc ?_
   exact .op (O.mv (Gu.mk R R) R R) R (.op (O.pkF Z R R R R) R ((J2 p1 (orF hc).symm).sub [] R))
def y2D (p0:List Int) (p1:List Int):Option (List Int):=
 (y2d p0 p1 yt).bind fun r1=>
 some r1
theorem y7E {p0:List Int} {p1:List Int} {r:List Int} (hm:y2D p0 p1=some r):
  Fw Tryz.prog 210 ⟨0,[]⟩ [.f qI p0,.f qI p1] [] (.h 0) [ROW qI 3 r]:=by
 unfold y2D at hm
 refine Fw.mk' Tryz.func210 R Tryz.ntmps210 R R (fun C=>?_) R R
 refine .seq (.reg (.sa R (.nil (.seqN (.seq (.reg (.mv R (.mv R (bS hm fun r1 er1 hm=> .op (O.cac (r':= .h 0) [0] [(0,ROW qI 3 r1)] (some 1) (y4u er1) cf75 R R Z R R ⟨⟨R,.rf⟩,⟨R,.rf⟩,⟨R,(.c (.fn cf237 (fun x r h=>y7h h) (fun _=>R)) .n)⟩,trivial⟩ R ⟨⟨_,R,fun _ _ _ _ h=>h⟩,trivial⟩ (fun _ _ _ h=>h) R) R (.sa R (.nil (.seqN (.ret ?_)))))))))))))
 obtain rfl:=oi hm
 exact WX.rt [0] (.inl R) Tryz.results210 (.tmp R .nil) R (fun _ _ _ h=>h) ⟨⟨_,R,fun _ _ _ _ h=>h⟩,trivial⟩
def y1c (p0:List AutT) (st7:Int×List Int):Option ((Int×List Int) ⊕ (List Int)):=
 if decide (st7.1 < (p0.length:Int)) then
  (idx p0 st7.1).bind fun x10=>
  (y2D st7.2 x10.1).bind fun r11=>
  some (.inl (W (st7.1 + 1),r11))
 else
  some (.inr st7.2)
def y2E (p0:List AutT):Option (List Int):=
 (iter (y1c p0) (0,([]:List Int))).bind fun o7=>
 some o7
theorem y7F {p0:List AutT} {r:List Int} (hm:y2E p0=some r):
  Fw Tryz.prog 159 ⟨0,[]⟩ [.f rE35 p0] [] (.h 0) [ROW qI 3 r]:=by
 unfold y2E at hm
 refine Fw.mk' Tryz.func159 R Tryz.ntmps159 R R (fun C=>?_) R R
 refine .seq (.reg (.sa R (.nil (.seqN (.seq (.reg (.sa R (.nil (.seqN (.seq (.seq (.reg (.mv R (.op (O.len sl66 Z R R) R (.mv R (.nil (.seqN (.block (bS hm fun o7 eo7 hm=>?_)))))))))))))))))))
 refine .cut1 (z:= .exit 0) o7 (fun (o7:List Int)=>⟨[(3,.h 0)],[(0,ROW qI 3 o7)],1⟩) ?_ fun K9=>?_
 ·skip
  refine .blkE (.seqN (.seq (.reg (.mv R (.sa R (.nil (.seqN (.ret ?_))))))))
  obtain rfl:=oi hm
  exact WX.rt [0] (.inl R) Tryz.results159 (.tmp R .nil) R (fun _ _ _ h=>h) ⟨⟨_,R,fun _ _ _ _ h=>h⟩,trivial⟩
 refine .nlg qI 3 3 0 R R (.iter (fun (st7:Int×List Int)=>⟨[(8,.i st7.1),(7,.i (p0.length:Int)),(6,.f rE35 p0),(3,.h 0)],[(0,ROW qI 3 st7.2)],1⟩) eo7 [] R ?_)
 intro st7 res7 hm ih7 ho7
 unfold y1c at hm
 refine .seq (.reg (.bi R (.nil (.seqN (.seq ?_)))))
 rcases ifS hm with ⟨hc,hm⟩ | ⟨hc,hm⟩
 ·refine .cT R hc ?_
  exact .skip (.seqN (.seq (.block (.seq (.reg (bS hm fun x10 ex10 hm=> .op (O.ix sl66 Z R R ex10 R) R (.op (O.lg (l':=[lF qI x10.1,lI x10.2.1,lF qI x10.2.2.1,lF qT x10.2.2.2]) ag35 Z R (.E lv35) R R R) R (.op (O.al 1 R zz35 R Z R) R (.op (O.st ag35.sz Z R R R R R) R (.nil (.seqN (.reg (.mv R (.op (O.faP y1S Z R R) R (.op (O.ld nag32 Z R (.B R) R R) R (bS hm fun r11 er11 hm=> .op (O.caY (r':= .h 2) [2] [(0,ROW qI 3 r11)] (some 3) (y7E er11) cf210 R R Z R R ⟨⟨R,.hr R,trivial⟩,⟨R,LnL.rf⟩,trivial⟩ R ⟨.row flr3,trivial⟩ (fun _ _ _ _ h=>h) ⟨⟨_,R,fun _ _ _ _ h=>h⟩,trivial⟩ (fun _ _ _ h=>h) R) R (.sa R (.nil (.blkN (.seqN (.reg (.bi R (.mv R (.nil ((ih7 _ (oi hm).symm).sub [(0,2)] R)))))))))))))))))))))))))
 ·refine .cF R hc ?_
  exact .exit (.seqX (.seqX ((K9 _ (ho7 _ (oi hm).symm)).sub [] R)))
def y1e (x20:AutT) (st26:Int×(List KeyT)):Option ((Int×(List KeyT)) ⊕ (List KeyT)):=
 if decide (st26.1 < (x20.2.2.2.length:Int)) then
  (idx x20.2.2.2 st26.1).bind fun x30=>
  some (.inl (W (st26.1 + 1),(kput st26.2 (x30.1,x30.2.1) x30.2.2)))
 else
  some (.inr st26.2)
def y1u (p0:List AutT) (st17:Int×(List (List KeyT))):Option ((Int×(List (List KeyT))) ⊕ (List (List KeyT))):=
 if decide (st17.1 < (p0.length:Int)) then
  (idx p0 st17.1).bind fun x20=>
  (iter (y1e x20) (0,([]:List KeyT))).bind fun o26=>
  (app st17.2 ([o26]:List (List KeyT))).bind fun x29=>
  some (.inl (W (st17.1 + 1),x29))
 else
  some (.inr st17.2)
def y2G (p0:List AutT):Option ((List AutT)×List Int×(List (List KeyT))):=
 (y2E p0).bind fun r1=>
 (iter (y1u p0) (0,([]:List (List KeyT)))).bind fun o17=>
 some (p0,r1,o17)
theorem y8l {p0:List AutT} {r:((List AutT)×List Int×(List (List KeyT)))} (hm:y2G p0=some r):
  Fw Tryz.prog 96 ⟨0,[]⟩ [.f rE35 p0] [] (.g [lF rE35 r.1,lH 0,lH 1]) [ROW qI 3 r.2.1,ROW (rM kvP qI) 139 r.2.2]:=by
 unfold y2G at hm
 refine Fw.mk' Tryz.func96 R Tryz.ntmps96 R R (fun C=>?_) R R
 refine .seq (.reg (.op (O.al 0 R zz162 R Z R) R (.nil (.seqN (.seq (.reg (.mv R (.mv R (bS hm fun r1 er1 hm=> .op (O.ca (r':= .h 1) [1] [(0,ROW qI 3 r1)] (some 2) (y7F er1) cf159 R R Z R R R R ⟨⟨_,R,fun _ _ _ _ h=>h⟩,trivial⟩ (fun _ _ _ h=>h) R) R (.op (O.bu (l:=[lF rE35 p0,lH 1,lN]) pl162 R Z R R R) R (.op (O.al 2 R zz162 R Z R) R (.op (O.st ag162.sz Z R R R R R) R (.nil (.seqN (.seq (.seq (.reg (.mv R (.op (O.len sl66 Z R R) R (.mv R (.nil (.seqN (.block (bS hm fun o17 eo17 hm=>?_))))))))))))))))))))))))
 refine .cut1 (z:= .exit 0) o17 (fun (o17:(List (List KeyT)))=>⟨[(3,.q 0 0),(2,.q 3 0)],[(0,.bx 162 [lF rE35 p0,lH 1,lH 2]),(1,ROW qI 3 r1),(2,ROW (rM kvP qI) 139 o17),(3,.bx 162 [lN,lN,lN])],4⟩) ?_ fun K19=>?_
 ·skip
  refine .blkE (.seqN (.seq (.reg (.op (O.lg (l':=[lF rE35 p0,lH 1,lH 2]) ag162 Z R (.B R) R R R) R (.op (O.st ag162.sz Z R R R R R) R (.nil (.seqN (.ret ?_))))))))
  obtain rfl:=oi hm
  exact WX.rt [1,2] (.inl R) Tryz.results96 (.cell R R ag162 R .nil) R (fun _ _ _ h=>h) ⟨⟨_,R,fun _ _ _ _ h=>h⟩,⟨_,R,fun _ _ _ _ h=>h⟩,trivial⟩
 refine .nlb (rM kvP qI) 139 2 2 R R (.iter (fun (st17:Int×(List (List KeyT)))=>⟨[(15,.i st17.1),(14,.i (p0.length:Int)),(13,.f rE35 p0),(3,.q 0 0),(2,.q 3 0)],[(0,.bx 162 [lF rE35 p0,lH 1,lH 2]),(1,ROW qI 3 r1),(2,ROW (rM kvP qI) 139 st17.2),(3,.bx 162 [lN,lN,lN])],4⟩) eo17 [(0,2),(2,3),(3,0)] R ?_)
 intro st17 res17 hm ih17 ho17
 unfold y1u at hm
 refine .seq (.reg (.bi R (.nil (.seqN (.seq ?_)))))
 rcases ifS hm with ⟨hc,hm⟩ | ⟨hc,hm⟩
 ·refine .cT R hc ?_
  refine .skip (.seqN (.seq (.block (.seq (.reg (bS hm fun x20 ex20 hm=> .op (O.ix sl66 Z R R ex20 R) R (.op (O.lg (l':=[lF qI x20.1,lI x20.2.1,lF qI x20.2.2.1,lF qT x20.2.2.2]) ag35 Z R (.E lv35) R R R) R (.op (O.al 4 R zz35 R Z R) R (.op (O.st ag35.sz Z R R R R R) R (.nil (.seqN (.seq (.reg (.op (O.mk2 (kv:=kvP) (r:=qI) 5 R Z R) R (.sa R (.nil (.seqN (.seq (.seq (.reg (.op (O.faP y1h Z R R) R (.op (O.ld nag33 Z R (.B R) R R) R (.op (O.len sl33 Z R R) R (.mv R (.nil (.seqN (.block (bS hm fun o26 eo26 hm=>?_))))))))))))))))))))))))))))
  refine .cut1 (z:= .exit 2) o26 (fun (o26:(List KeyT))=>⟨[(6,.h 0),(15,.i st17.1),(14,.i (p0.length:Int)),(13,.f rE35 p0),(3,.q 1 0),(2,.q 4 0)],[(0,MAP kvP qI 139 o26),(1,.bx 162 [lF rE35 p0,lH 2,lH 3]),(2,ROW qI 3 r1),(3,ROW (rM kvP qI) 139 st17.2),(4,.bx 162 [lN,lN,lN])],5⟩) ?_ fun K28=>?_
  ·skip
   exact .blkE (.seqN (.reg (.op (O.faP y9e Z R R) R (.op (O.ld ya2 Z R (.B R) R R) R (.mv R (.fz 0 [38] [] R R fM R R (.op (O.bsF (r:=(rM kvP qI)) (zs:=([o26]:List (List KeyT))) bs160 R R Z R R R (.c .m .n) R R R) R (bS hm fun x29 ex29 hm=> .op (O.ap 5 Tryz.underlying160 el139 R R Z R R (.fr R) ex29 R) R (.op (O.faP y9e Z R R) R (.op (O.st ya2.sz Z R R R R R) R (.nil (.blkN (.seqN (.reg (.bi R (.mv R (.nil ((ih17 _ (oi hm).symm).sub [(0,1),(1,2),(2,5),(3,4)] R))))))))))))))))))
  refine .iter (fun (st26:Int×(List KeyT))=>⟨[(23,.i st26.1),(22,.i (x20.2.2.2.length:Int)),(21,.f qT x20.2.2.2),(6,.h 0),(15,.i st17.1),(14,.i (p0.length:Int)),(13,.f rE35 p0),(3,.q 1 0),(2,.q 4 0)],[(0,MAP kvP qI 139 st26.2),(1,.bx 162 [lF rE35 p0,lH 2,lH 3]),(2,ROW qI 3 r1),(3,ROW (rM kvP qI) 139 st17.2),(4,.bx 162 [lN,lN,lN])],5⟩) eo26 [(0,5),(1,0),(2,1),(3,2),(4,3)] R ?_
  intro st26 res26 hm ih26 ho26
  unfold y1e at hm
  refine .seq (.reg (.bi R (.nil (.seqN (.seq ?_)))))
  rcases ifS hm with ⟨hc,hm⟩ | ⟨hc,hm⟩
  ·refine .cT R hc ?_
   exact .skip (.seqN (.seq (.block (.seq (.reg (bS hm fun x30 ex30 hm=> .op (O.ix sl33 Z R R ex30 R) R (.op (O.lg (l':=[lI x30.1,lI x30.2.1,lI x30.2.2]) ag124 Z R (.E lv124) R R R) R (.op (O.al 5 R zz124 R Z R) R (.op (O.st ag124.sz Z R R R R R) R (.nil (.seqN (.reg (.mv R (.op (O.faP y2j Z R R) R (.op (O.ld nag3 Z R (.B R) R R) R (.op (O.faP y3Z Z R R) R (.op (O.ld nag3 Z R (.B R) R R) R (.op (O.bu (l:=[lI x30.1,lI x30.2.1]) pl241 R Z R R R) R (.op (O.faP y3g Z R R) R (.op (O.ld nag3 Z R (.B R) R R) R (.op (O.mu (k:=(x30.1,x30.2.1)) (v:=x30.2.2) md139 (fun _ _=>eqP) Z R R (.a R R) R .k) R (.nil (.blkN (.seqN (.reg (.bi R (.mv R (.nil ((ih26 _ (oi hm).symm).sub [] R)))))))))))))))))))))))))))))
  ·refine .cF R hc ?_
   exact .exit (.seqX (.seqX ((K28 _ (ho26 _ (oi hm).symm)).sub [] R)))
 ·refine .cF R hc ?_
  exact .exit (.seqX (.seqX ((K19 _ (ho17 _ (oi hm).symm)).sub [] R)))
def yc (p0:(List AutT)×List Int×(List (List KeyT))) (st4:Int):Option (Int ⊕ (Unit ⊕ Unit)):=
 if decide (st4 < (p0.1.length:Int)) then
  (idx p0.1 st4).bind fun x10=>
  if(x10.2.1 == 0) then
   some (.inr (.inr (())))
  else
   some (.inl (W (st4 + 1)))
 else
  some (.inr (.inl ()))
def yo (p0:(List AutT)×List Int×(List (List KeyT))):Option (List Int×Bool):=
 (iter (yc p0) 0).bind fun o4=>
 match o4 with
 | .inl u5=>
  (mkL (p0.1.length:Int) (0:Int)).bind fun x7=>
  some (x7,true)
 | .inr (u8)=>
  some (([]:List Int),false)
theorem y5A {p0:(List AutT)×List Int×(List (List KeyT))} {r:List Int×Bool} (hm:yo p0=some r):
  Fw Tryz.prog 97 ⟨0,[]⟩ [.a [lF rE35 p0.1,lF qI p0.2.1,lF (rM kvP qI) p0.2.2]] [] (.tp [.h 0,.b r.2]) [ROW qI 3 r.1]:=by
 unfold yo at hm
 refine Fw.mk' Tryz.func97 R Tryz.ntmps97 R R (fun C=>?_) R R
 refine .seq (.reg (.op (O.box 0 R Z R R R) R (.sa R (.sa R (.nil (.seqN (.seq (.seq (.reg (.op (O.faP y7O Z R R) R (.op (O.ld nag66 Z R (.B R) R R) R (.op (O.len sl66 Z R R) R (.mv R (.nil (.seqN (.block (bS hm fun o4 eo4 hm=>?_)))))))))))))))))
 refine .cutU (z:= .exit 0) (fun u5=> .inl u5=o4) (fun (u5:Unit)=>⟨[(1,.q 0 0)],[(0,.bx 162 [lF rE35 p0.1,lF qI p0.2.1,lF (rM kvP qI) p0.2.2])],1⟩) ?_ fun K6=>?_
 ·rintro u5 rfl
  dsimp only at hm
  refine .blkE (.seqN (.seq (.reg (.op (O.faP y7O Z R R) R (.op (O.ld nag66 Z R (.B R) R R) R (.op (O.len sl66 Z R R) R (bS hm fun x7 ex7 hm=> .op (O.mk (z:=(0:Int)) 1 Tryz.underlying32 zr3 R R Z R R ex7 R) R (.sa R (.sa R (.nil (.seqN (.ret ?_))))))))))))
  obtain rfl:=oi hm
  exact WX.rt [1] (.inl R) Tryz.results97 (.tmp R (.tmp R .nil)) R (fun _ _ _ h=>h) ⟨⟨_,R,fun _ _ _ _ h=>h⟩,trivial⟩
 refine .cutU (z:= .ret) (fun u8=> .inr (u8)=o4) (fun (u8:Unit)=>⟨[(3,.b false),(2,.o (lN))],[],0⟩) ?_ fun K9=>?_
 ·rintro u8 rfl
  dsimp only at hm
  refine .blkR (.seqR (.nlg qI 3 2 0 R R ?_))
  obtain rfl:=oi hm
  exact WX.rt [0] (.inl R) Tryz.results97 (.tmp R (.tmp R .nil)) R (fun _ _ _ h=>h) ⟨⟨_,R,fun _ _ _ _ h=>h⟩,trivial⟩
 refine .iter (fun (st4:Int)=>⟨[(9,.i st4),(8,.i (p0.1.length:Int)),(7,.f rE35 p0.1),(1,.q 0 0)],[(0,.bx 162 [lF rE35 p0.1,lF qI p0.2.1,lF (rM kvP qI) p0.2.2])],1⟩) eo4 [] R ?_
 intro st4 res4 hm ih4 ho4
 unfold yc at hm
 refine .seq (.reg (.bi R (.nil (.seqN (.seq ?_)))))
 rcases ifS hm with ⟨hc,hm⟩ | ⟨hc,hm⟩
 ·refine .cT R hc ?_
  refine .skip (.seqN (.seq (.block (.seq (.reg (bS hm fun x10 ex10 hm=> .op (O.ix sl66 Z R R ex10 R) R (.op (O.lg (l':=[lF qI x10.1,lI x10.2.1,lF qI x10.2.2.1,lF qT x10.2.2.2]) ag35 Z R (.E lv35) R R R) R (.op (O.al 1 R zz35 R Z R) R (.op (O.st ag35.sz Z R R R R R) R (.nil (.seqN (.seq (.reg (.op (O.faP y1T Z R R) R (.op (O.ld nag3 Z R (.B R) R R) R (.bi R (.nil (.seqN ?_))))))))))))))))))
  rcases ifS hm with ⟨hc,hm⟩ | ⟨hc,hm⟩
  ·refine .cT R hc ?_
   exact .seq (.reg (.sa R (.sa R (.nil (.seqN (.ret (.blkR (.seqR (.seqR ((K9 _ (ho4 _ (oi hm).symm)).sub [] R))))))))))
  ·refine .cF R hc ?_
   exact .skip (.blkN (.seqN (.reg (.bi R (.mv R (.nil ((ih4 _ (oi hm).symm).sub [] R)))))))
 ·refine .cF R hc ?_
  exact .exit (.seqX (.seqX ((K6 _ (ho4 _ (oi hm).symm)).sub [] R)))
def y3q (p0:Int):Option Bool:=
 some (p0 != p0)
theorem y5O {p0:Int} {r:Bool} (hm:y3q p0=some r):
  Fw Tryz.prog 214 ⟨0,[]⟩ [.i p0] [] (.b r) []:=by
 unfold y3q at hm
 refine Fw.mk' Tryz.func214 R Tryz.ntmps214 R R (fun C=>?_) R R
 refine .seq (.reg (.sa R (.nil (.seqN (.seq (.reg (.mv R (.mv R (.bi R (.sa R (.nil (.seqN (.ret ?_)))))))))))))
 obtain rfl:=oi hm
 exact WX.rt [] (.inl R) Tryz.results214 (.tmp R .nil) R (fun _ _ _ h=>h) trivial
def y4b (p0:Int) (p1:Int):Option Bool:=
 (y3q p0).bind fun r1=>
 (if r1 then
  (y3q p1).bind fun r7=>
  some (!r7)
 else
  some false).bind fun b2=>
 some (b2 || (decide (p0 < p1)))
theorem y8m {p0:Int} {p1:Int} {r:Bool} (hm:y4b p0 p1=some r):
  Fw Tryz.prog 208 ⟨0,[]⟩ [.i p0,.i p1] [] (.b r) []:=by
 unfold y4b at hm
 refine Fw.mk' Tryz.func208 R Tryz.ntmps208 R R (fun C=>?_) R R
 refine .seq (.reg (.sa R (.nil (.seqN (.seq (.reg (.mv R (bS hm fun r1 er1 hm=> .op (O.ca0 (y5O er1) cf214 R R Z R R R) R (.mv R (bS hm fun b2 eb2 hm=>?_))))))))))
 refine .cut 4 (fun (v3:Bool)=>b2=v3) (fun v3=>⟨[(11,.b v3),(0,.i p0),(1,.i p1)],[],0⟩) ?_ ?_
 ·rintro _ rfl
  refine .mv R ?_
  refine .cut 4 (fun (v5:Bool)=>(b2 || (decide (p0 < p1)))=v5) (fun v5=>⟨[(16,.b v5)],[],0⟩) ?_ ?_
  ·rintro _ rfl
   refine .sa R (.nil (.seqN (.ret ?_)))
   obtain rfl:=oi hm
   exact WX.rt [] (.inl R) Tryz.results208 (.tmp R .nil) R (fun _ _ _ h=>h) trivial
  ·intro J6
   rcases Bool.eq_false_or_eq_true b2 with hc | hc
   ·refine .know (d:=12) R hc ?_
    exact .sk R (.sk R (.sk R (.op (O.pkT Z R R R R) R ((J6 true (orT hc).symm).sub [] R))))
   ·refine .know (d:=12) R hc ?_
    exact .op (O.mv (Gu.mk R R) R R) R (.op (O.mv (Gu.mk R R) R R) R (.op (O.bi (Gu.mk R R) R R R R) R (.op (O.pkF Z R R R R) R ((J6 (decide (p0 < p1)) (orF hc).symm).sub [] R))))
 ·intro J4
  rcases ifS eb2 with ⟨hc,hm⟩ | ⟨hc,hm⟩
  ·refine .know (d:=7) R hc ?_
   exact .op (O.mv (Gu.mk R R) R R) R (bS hm fun r7 er7 hm=> .op (O.ca0 (y5O er7) cf214 R R (Gu.mk R R) R R R) R (.op (O.not (Gu.mk R R) R R) R (.op (O.pkT Z R R R R) R ((J4 (!r7) (oi hm).symm).sub [] R))))
  ·refine .know (d:=7) R hc ?_
   exact .sk R (.sk R (.sk R (.op (O.pkF Z R R R R) R ((J4 false (oi hm).symm).sub [] R))))
def y2H (p0:Int):Option Bool:=
 some (p0 != p0)
theorem y5k {p0:Int} {r:Bool} (hm:y2H p0=some r):
  Fw Tryz.prog 209 ⟨0,[]⟩ [.i p0] [] (.b r) []:=by
 unfold y2H at hm
 refine Fw.mk' Tryz.func209 R Tryz.ntmps209 R R (fun C=>?_) R R
 refine .seq (.reg (.sa R (.nil (.seqN (.seq (.reg (.mv R (.mv R (.bi R (.sa R (.nil (.seqN (.ret ?_)))))))))))))
 obtain rfl:=oi hm
 exact WX.rt [] (.inl R) Tryz.results209 (.tmp R .nil) R (fun _ _ _ h=>h) trivial
def yX (p0:List Int) (p1:Int) (st7:Int×Int):Option ((Int×Int) ⊕ Int):=
 if decide (st7.2 < st7.1) then
  (idx p0 (W ((IntKind.u64.wrap (W (st7.2 + st7.1))).fdiv (2 ^ (min (1:Int).toNat 64))))).bind fun x23=>
  (y4b x23 p1).bind fun r24=>
  if r24 then
   some (.inl (st7.1,W ((W ((IntKind.u64.wrap (W (st7.2 + st7.1))).fdiv (2 ^ (min (1:Int).toNat 64)))) + 1)))
  else
   some (.inl (W ((IntKind.u64.wrap (W (st7.2 + st7.1))).fdiv (2 ^ (min (1:Int).toNat 64))),st7.2))
 else
  some (.inr st7.2)
def y2Q (p0:List Int) (p1:Int):Option (Int×Bool):=
 (iter (yX p0 p1) ((p0.length:Int),0)).bind fun o7=>
 (if decide (o7 < (p0.length:Int)) then
  (idx p0 o7).bind fun x13=>
  (if (x13 == p1) then
   some true
  else
   (idx p0 o7).bind fun x17=>
   (y2H x17).bind fun r18=>
   (if r18 then
    (y2H p1).bind fun r22=>
    some r22
   else
    some false).bind fun b19=>
   some b19).bind fun b14=>
  some b14
 else
  some false).bind fun b10=>
 some (o7,b10)
theorem y5B {p0:List Int} {p1:Int} {r:Int×Bool} (hm:y2Q p0 p1=some r):
  Fw Tryz.prog 158 ⟨0,[]⟩ [.f qI p0,.i p1] [] (.tp [.i r.1,.b r.2]) []:=by
 unfold y2Q at hm
 refine Fw.mk' Tryz.func158 R Tryz.ntmps158 R R (fun C=>?_) R R
 refine .seq (.reg (.sa R (.sa R (.nil (.seqN (.seq (.reg (.mv R (.op (O.len sl32 Z R R) R (.sa R (.nil (.seqN (.seq (.reg (.mv R (.sa R (.sa R (.nil (.seqN (.seq (.block (bS hm fun o7 eo7 hm=>?_))))))))))))))))))))))
 refine .cut1 (z:= .exit 0) o7 (fun (o7:Int)=>⟨[(7,.i o7),(6,.i (p0.length:Int)),(0,.f qI p0),(1,.i p1)],[],0⟩) ?_ fun K9=>?_
 ·skip
  refine .blkE (.seqN (.seq (.reg (.mv R (.mv R (.mv R (.bi R (.mv R (bS hm fun b10 eb10 hm=>?_)))))))))
  refine .cut 18 (fun (v11:Bool)=>b10=v11) (fun v11=>⟨[(53,.b v11),(31,.i o7)],[],0⟩) ?_ ?_
  ·rintro _ rfl
   refine .sa R (.sa R (.nil (.seqN (.ret ?_))))
   obtain rfl:=oi hm
   exact WX.rt [] (.inl R) Tryz.results158 (.tmp R (.tmp R .nil)) R (fun _ _ _ h=>h) trivial
  ·intro J12
   rcases ifS eb10 with ⟨hc,hm⟩ | ⟨hc,hm⟩
   ·refine .know (d:=35) R hc ?_
    refine .op (O.mv (Gu.mk R R) R R) R (.op (O.mv (Gu.mk R R) R R) R (bS hm fun x13 ex13 hm=> .op (O.ix sl32 (Gu.mk R R) R R ex13 R) R (.op (O.ld nag3 (Gu.mk R R) R (.E lv3) R R) R (.op (O.mv (Gu.mk R R) R R) R (.op (O.bi (Gu.mk R R) R R R R) R (.op (O.mv (Gu.mk R R) R R) R (bS hm fun b14 eb14 hm=>?_)))))))
    refine .cut 10 (fun (v15:Bool)=>b14=v15) (fun v15=>⟨[(52,.b v15),(35,.b true),(31,.i o7)],[],0⟩) ?_ ?_
    ·rintro _ rfl
     exact .op (O.pkT Z R R R R) R ((J12 b14 (oi hm).symm).sub [] R)
    ·intro J16
     rcases ifS eb14 with ⟨hc,hm⟩ | ⟨hc,hm⟩
     ·refine .know (d:=42) R hc ?_
      exact .sk R (.sk R (.sk R (.sk R (.sk R (.sk R (.op (O.skipU R R R) R (.op (O.skipU R R R) R (.sk R (.op (O.pkT (Gu.mk R R) R R R R) R ((J16 true (oi hm).symm).sub [] R))))))))))
     ·refine .know (d:=42) R hc ?_
      refine .op (O.mv (Gu.mk R R) R R) R (.op (O.mv (Gu.mk R R) R R) R (bS hm fun x17 ex17 hm=> .op (O.ix sl32 (Gu.mk R R) R R ex17 R) R (.op (O.ld nag3 (Gu.mk R R) R (.E lv3) R R) R (bS hm fun r18 er18 hm=> .op (O.ca0 (y5k er18) cf209 R R (Gu.mk R R) R R R) R (.op (O.mv (Gu.mk R R) R R) R (bS hm fun b19 eb19 hm=>?_))))))
      refine .cut 3 (fun (v20:Bool)=>b19=v20) (fun v20=>⟨[(51,.b v20),(42,.b false),(35,.b true),(31,.i o7)],[],0⟩) ?_ ?_
      ·rintro _ rfl
       exact .op (O.pkF (Gu.mk R R) R R R R) R ((J16 b19 (oi hm).symm).sub [] R)
      ·intro J21
       rcases ifS eb19 with ⟨hc,hm⟩ | ⟨hc,hm⟩
       ·refine .know (d:=48) R hc ?_
        exact .op (O.mv (Gu.mk R R) R R) R (bS hm fun r22 er22 hm=> .op (O.ca0 (y5k er22) cf209 R R (Gu.mk R R) R R R) R (.op (O.pkT (Gu.mk R R) R R R R) R ((J21 r22 (oi hm).symm).sub [] R)))
       ·refine .know (d:=48) R hc ?_
        exact .sk R (.sk R (.op (O.pkF (Gu.mk R R) R R R R) R ((J21 false (oi hm).symm).sub [] R)))
   ·refine .know (d:=35) R hc ?_
    exact .sk R (.sk R (.sk R (.sk R (.sk R (.sk R (.sk R (.op (O.skipU R R R) R (.op (O.skipU R R R) R (.op (O.skipU R R R) R (.op (O.skipU R R R) R (.op (O.skipU R R R) R (.op (O.skipU R R R) R (.op (O.skipU R R R) R (.op (O.skipU R R R) R (.op (O.skipU R R R) R (.sk R (.op (O.pkF Z R R R R) R ((J12 false (oi hm).symm).sub [] R))))))))))))))))))
 refine .iter (fun (st7:Int×Int)=>⟨[(8,.i st7.1),(7,.i st7.2),(6,.i (p0.length:Int)),(0,.f qI p0),(1,.i p1)],[],0⟩) eo7 [] R ?_
 intro st7 res7 hm ih7 ho7
 unfold yX at hm
 refine .seq (.seq (.reg (.mv R (.mv R (.bi R (.nil (.seqN ?_)))))))
 rcases ifS hm with ⟨hc,hm⟩ | ⟨hc,hm⟩
 ·refine .cT R hc ?_
  refine .skip (.seqN (.block (.seq (.reg (.mv R (.mv R (.bi R (.op (O.cv Tryz.underlying3 Tryz.underlying295 Z R R) R (.op (O.shr Z R R (by decide) R) R (.op (O.cv Tryz.underlying295 Tryz.underlying3 Z R R) R (.sa R (.nil (.seqN (.seq (.reg (.mv R (.mv R (bS hm fun x23 ex23 hm=> .op (O.ix sl32 Z R R ex23 R) R (.op (O.ld nag3 Z R (.E lv3) R R) R (.mv R (bS hm fun r24 er24 hm=> .op (O.ca0 (y8m er24) cf208 R R Z R R R) R (.nil (.seqN ?_)))))))))))))))))))))))
  rcases ifS hm with ⟨hc,hm⟩ | ⟨hc,hm⟩
  ·refine .cT R hc ?_
   exact .reg (.mv R (.bi R (.sa R (.nil (.blkN ((ih7 _ (oi hm).symm).sub [] R))))))
  ·refine .cF R hc ?_
   exact .reg (.mv R (.sa R (.nil (.blkN ((ih7 _ (oi hm).symm).sub [] R)))))
 ·refine .cF R hc ?_
  exact .exit (.seqX (.seqX ((K9 _ (ho7 _ (oi hm).symm)).sub [] R)))
def yH (p0:List Int) (p1:Int):Option Bool:=
 (y2Q p0 p1).bind fun r1=>
 some r1.2
theorem y1v {p0:List Int} {p1:Int} {r:Bool} (hm:yH p0 p1=some r):
  Fw Tryz.prog 94 ⟨0,[]⟩ [.f qI p0,.i p1] [] (.b r) []:=by
 unfold yH at hm
 refine Fw.mk' Tryz.func94 R Tryz.ntmps94 R R (fun C=>?_) R R
 refine .seq (.reg (.sa R (.nil (.seqN (.seq (.reg (.mv R (.mv R (bS hm fun r1 er1 hm=> .op (O.ca0 (y5B er1) cf158 R R Z R R R) R (.mv R (.op (O.ex Z R R R) R (.op (O.ex Z R R R) R (.sa R (.sa R (.nil (.seqN (.seq (.reg (.mv R (.sa R (.nil (.seqN (.ret ?_)))))))))))))))))))))))
 obtain rfl:=oi hm
 exact WX.rt [] (.inl R) Tryz.results94 (.tmp R .nil) R (fun _ _ _ h=>h) trivial
def y1G (p0:(List AutT)×List Int×(List (List KeyT))) (p1:List Int) (st6:Int):Option (Int ⊕ (Unit ⊕ Unit)):=
 if decide (st6 < (p0.1.length:Int)) then
  (idx p0.1 st6).bind fun x11=>
  (idx p1 st6).bind fun x12=>
  (yH x11.2.2.1 x12).bind fun r13=>
  if(!r13) then
   some (.inr (.inr (())))
  else
   some (.inl (W (st6 + 1)))
 else
  some (.inr (.inl ()))
def yv (p0:(List AutT)×List Int×(List (List KeyT))) (p1:List Int):Option Bool:=
 (iter (y1G p0 p1) 0).bind fun o6=>
 match o6 with
 | .inl u7=>
  some true
 | .inr (u9)=>
  some false
theorem y5I {p0:(List AutT)×List Int×(List (List KeyT))} {p1:List Int} {r:Bool} (hm:yv p0 p1=some r):
  Fw Tryz.prog 99 ⟨0,[]⟩ [.a [lF rE35 p0.1,lF qI p0.2.1,lF (rM kvP qI) p0.2.2],.f qI p1] [] (.b r) []:=by
 unfold yv at hm
 refine Fw.mk' Tryz.func99 R Tryz.ntmps99 R R (fun C=>?_) R R
 refine .seq (.reg (.op (O.box 0 R Z R R R) R (.sa R (.nil (.seqN (.seq (.seq (.reg (.op (O.faP y7O Z R R) R (.op (O.ld nag66 Z R (.B R) R R) R (.op (O.len sl66 Z R R) R (.mv R (.nil (.seqN (.block (bS hm fun o6 eo6 hm=>?_))))))))))))))))
 refine .cutU (z:= .exit 0) (fun u7=> .inl u7=o6) (fun (u7:Unit)=>⟨[],[],0⟩) ?_ fun K8=>?_
 ·rintro u7 rfl
  dsimp only at hm
  refine .blkE (.seqN (.seq (.reg (.sa R (.nil (.seqN (.ret ?_)))))))
  obtain rfl:=oi hm
  exact WX.rt [] (.inl R) Tryz.results99 (.tmp R .nil) R (fun _ _ _ h=>h) trivial
 refine .cutU (z:= .ret) (fun u9=> .inr (u9)=o6) (fun (u9:Unit)=>⟨[(4,.b false)],[],0⟩) ?_ fun K10=>?_
 ·rintro u9 rfl
  dsimp only at hm
  refine .blkR (.seqR ?_)
  obtain rfl:=oi hm
  exact WX.rt [] (.inl R) Tryz.results99 (.tmp R .nil) R (fun _ _ _ h=>h) trivial
 refine .iter (fun (st6:Int)=>⟨[(10,.i st6),(9,.i (p0.1.length:Int)),(8,.f rE35 p0.1),(1,.f qI p1)],[],0⟩) eo6 [] R ?_
 intro st6 res6 hm ih6 ho6
 unfold y1G at hm
 refine .seq (.reg (.bi R (.nil (.seqN (.seq ?_)))))
 rcases ifS hm with ⟨hc,hm⟩ | ⟨hc,hm⟩
 ·refine .cT R hc ?_
  refine .skip (.seqN (.seq (.block (.seq (.reg (.mv R (bS hm fun x11 ex11 hm=> .op (O.ix sl66 Z R R ex11 R) R (.op (O.lg (l':=[lF qI x11.1,lI x11.2.1,lF qI x11.2.2.1,lF qT x11.2.2.2]) ag35 Z R (.E lv35) R R R) R (.op (O.al 0 R zz35 R Z R) R (.sa R (.op (O.st ag35.sz Z R R R R R) R (.nil (.seqN (.seq ?_))))))))))))))
  refine .sub (τ:=⟨[(5,.i st6),(6,.q 0 0),(10,.i st6),(9,.i (p0.1.length:Int)),(8,.f rE35 p0.1),(1,.f qI p1)],[(0,.bx 35 [lF qI x11.1,lI x11.2.1,lF qI x11.2.2.1,lF qT x11.2.2.2])],1⟩) ?_ [] R
  refine bS hm fun x12 ex12 hm=>bS hm fun r13 er13 hm=>?_
  refine .drw [(1,[]),(1,[oT]),(1,[]),(1,[]),(1,[oF,oF,oT,oT]),(1,fA 2 (tT 3)),(1,tT 6),(1,tT 7)] [_,_,_,_,_,_,_,_] ⟨[(22,.b (!r13)),(10,.i st6),(9,.i (p0.1.length:Int)),(8,.f rE35 p0.1),(1,.f qI p1)],[],1⟩ ⟨O.faP y3l Z R R,O.ld nag32 Z R (.B R) R R,O.mv Z R R,O.mv Z R R,O.ix sl32 Z R R ex12 R,O.ld nag3 Z R (.E lv3) R R,O.ca0 (y1v er13) cf94 R R Z R R R,O.not Z R R,trivial⟩ (by kernel_rfl) R ?_
  refine .seqN ?_
  rcases ifS hm with ⟨hc,hm⟩ | ⟨hc,hm⟩
  ·refine .cT R hc ?_
   exact .seq (.reg (.sa R (.nil (.seqN (.ret (.blkR (.seqR (.seqR ((K10 _ (ho6 _ (oi hm).symm)).sub [] R)))))))))
  ·refine .cF R hc ?_
   exact .skip (.blkN (.seqN (.reg (.bi R (.mv R (.nil ((ih6 _ (oi hm).symm).sub [] R)))))))
 ·refine .cF R hc ?_
  exact .exit (.seqX (.seqX ((K8 _ (ho6 _ (oi hm).symm)).sub [] R)))
def yQ (p0:List Int):Option (List Int):=
 (app ([]:List Int) p0).bind fun x1=>
 some x1
theorem y2k {p0:List Int} {r:List Int} (hm:yQ p0=some r):
  Fw Tryz.prog 103 ⟨0,[]⟩ [.f qI p0] [] (.h 0) [ROW qI 3 r]:=by
 unfold yQ at hm
 refine Fw.mk' Tryz.func103 R Tryz.ntmps103 R R (fun C=>?_) R R
 refine .seq (.reg (.sa R (.nil (.seqN (.seq (.seq (.reg (.mv R (.op (O.nil? Tryz.underlying32 Z R R R) R (.nil (.seqN ?_)))))))))))
 refine .cN R (fun hz=>?_) ?_
 ·subst hz
  replace hm:some ([]:List Int)=some r:=by simpa [app,slc,slc3] using hm
  refine .seq (.reg (.sa R (.nil (.seqN (.ret (.seqR (.nlg qI 3 2 0 R R ?_)))))))
  obtain rfl:=oi hm
  exact WX.rt [0] (.inl R) Tryz.results103 (.tmp R .nil) R (fun _ _ _ h=>h) ⟨⟨_,R,fun _ _ _ _ h=>h⟩,trivial⟩
 ·skip
  refine .skip (.seqN (.seq (.reg (.op (O.b0O (r:=qI) 0 R bs32 R Z R) R (.mv R (bS hm fun x1 ex1 hm=> .op (O.ap 1 Tryz.underlying32 el3 R R Z R R (.fr R) ex1 R) R (.sa R (.nil (.seqN (.ret ?_))))))))))
  obtain rfl:=oi hm
  exact WX.rt [1] (.inl R) Tryz.results103 (.tmp R .nil) R (fun _ _ _ h=>h) ⟨⟨_,R,fun _ _ _ _ h=>h⟩,trivial⟩
def yp (st14:Int×List Int) (l20:List Int):Option ((Int×List Int) ⊕ ((List Int) ⊕ Unit)):=
 some (.inl (W (st14.1 + 1),l20))
def yj (p0:(List AutT)×List Int×(List (List KeyT))) (p1:List Int) (p2:Int) (st14:Int×List Int):Option ((Int×List Int) ⊕ ((List Int) ⊕ Unit)):=
 if decide (st14.1 < (p0.1.length:Int)) then
  (idx p0.1 st14.1).bind fun x22=>
  (yH x22.1 p2).bind fun r23=>
  if(!r23) then
   yp st14 st14.2
  else
   (idx p0.2.2 st14.1).bind fun x24=>
   (idx p1 st14.1).bind fun x25=>
   if(!((kget x24 (x25,p2)).isSome)) then
    some (.inr (.inr (())))
   else
    (idx st14.2 st14.1).bind fun x26=>
    (upd st14.2 st14.1 ((kget x24 (x25,p2)).getD 0)).bind fun x27=>
    yp st14 x27
 else
  some (.inr (.inl st14.2))
def yP (p0:(List AutT)×List Int×(List (List KeyT))) (p1:List Int) (p2:Int):Option (List Int×Bool):=
 (yQ p1).bind fun r1=>
 (iter (yj p0 p1 p2) (0,r1)).bind fun o14=>
 match o14 with
 | .inl u16=>
  some (u16,true)
 | .inr (u18)=>
  some (([]:List Int),false)
theorem y6e {p0:(List AutT)×List Int×(List (List KeyT))} {p1:List Int} {p2:Int} {r:List Int×Bool} (hm:yP p0 p1 p2=some r):
  Fw Tryz.prog 100 ⟨0,[]⟩ [.a [lF rE35 p0.1,lF qI p0.2.1,lF (rM kvP qI) p0.2.2],.f qI p1,.i p2] [] (.tp [.h 0,.b r.2]) [ROW qI 3 r.1]:=by
 unfold yP at hm
 refine Fw.mk' Tryz.func100 R Tryz.ntmps100 R R (fun C=>?_) R R
 refine .seq (.reg (.op (O.box 0 R Z R R R) R (.sa R (.sa R (.nil (.seqN (.seq (.reg (.mv R (bS hm fun r1 er1 hm=> .op (O.ca (r':= .h 1) [1] [(0,ROW qI 3 r1)] (some 2) (y2k er1) cf103 R R Z R R R R ⟨⟨_,R,fun _ _ _ _ h=>h⟩,trivial⟩ (fun _ _ _ h=>h) R) R (.sa R (.nil (.seqN (.seq (.seq (.reg (.op (O.faP y7O Z R R) R (.op (O.ld nag66 Z R (.B R) R R) R (.op (O.len sl66 Z R R) R (.mv R (.nil (.seqN (.block (bS hm fun o14 eo14 hm=>?_))))))))))))))))))))))))
 refine .cutU (z:= .exit 0) (fun u16=> .inl u16=o14) (fun (u16:List Int)=>⟨[(8,.h 0)],[(0,ROW qI 3 u16)],1⟩) ?_ fun K17=>?_
 ·rintro u16 rfl
  dsimp only at hm
  refine .blkE (.seqN (.seq (.reg (.mv R (.sa R (.sa R (.nil (.seqN (.ret ?_)))))))))
  obtain rfl:=oi hm
  exact WX.rt [0] (.inl R) Tryz.results100 (.tmp R (.tmp R .nil)) R (fun _ _ _ h=>h) ⟨⟨_,R,fun _ _ _ _ h=>h⟩,trivial⟩
 refine .cutU (z:= .ret) (fun u18=> .inr (u18)=o14) (fun (u18:Unit)=>⟨[(7,.b false),(6,.o (lN))],[],0⟩) ?_ fun K19=>?_
 ·rintro u18 rfl
  dsimp only at hm
  refine .blkR (.seqR (.nlg qI 3 6 0 R R ?_))
  obtain rfl:=oi hm
  exact WX.rt [0] (.inl R) Tryz.results100 (.tmp R (.tmp R .nil)) R (fun _ _ _ h=>h) ⟨⟨_,R,fun _ _ _ _ h=>h⟩,trivial⟩
 refine .iter (fun (st14:Int×List Int)=>⟨[(18,.i st14.1),(17,.i (p0.1.length:Int)),(16,.f rE35 p0.1),(8,.h 0),(3,.q 1 0),(1,.f qI p1),(2,.i p2)],[(0,ROW qI 3 st14.2),(1,.bx 162 [lF rE35 p0.1,lF qI p0.2.1,lF (rM kvP qI) p0.2.2])],2⟩) eo14 [(0,1),(1,0)] R ?_
 intro st14 res14 hm ih14 ho14
 unfold yj at hm
 refine .seq (.reg (.bi R (.nil (.seqN (.seq ?_)))))
 rcases ifS hm with ⟨hc,hm⟩ | ⟨hc,hm⟩
 ·refine .cT R hc ?_
  refine .skip (.seqN ?_)
  refine .join1 (fun (l20:List Int)=>yp st14 l20=some res14) (fun l20=>⟨[(18,.i st14.1),(17,.i (p0.1.length:Int)),(16,.f rE35 p0.1),(8,.h 0),(3,.q 1 0),(1,.f qI p1),(2,.i p2)],[(0,ROW qI 3 l20),(1,.bx 162 [lF rE35 p0.1,lF qI p0.2.1,lF (rM kvP qI) p0.2.2])],2⟩) ?_ ?_
  ·intro l20 hm
   unfold yp at hm
   exact .reg (.bi R (.mv R (.nil ((ih14 _ (oi hm).symm).sub [] R))))
  ·intro Jj21
   refine .block (.seq (.reg (.mv R (bS hm fun x22 ex22 hm=> .op (O.ix sl66 Z R R ex22 R) R (.op (O.lg (l':=[lF qI x22.1,lI x22.2.1,lF qI x22.2.2.1,lF qT x22.2.2.2]) ag35 Z R (.E lv35) R R R) R (.op (O.al 2 R zz35 R Z R) R (.sa R (.op (O.st ag35.sz Z R R R R R) R (.nil (.seqN (.seq (.seq (.reg (.op (O.faP y1S Z R R) R (.op (O.ld nag32 Z R (.B R) R R) R (.mv R (bS hm fun r23 er23 hm=> .op (O.ca0 (y1v er23) cf94 R R Z R R R) R (.op (O.not Z R R) R (.nil (.seqN ?_))))))))))))))))))))
   rcases ifS hm with ⟨hc,hm⟩ | ⟨hc,hm⟩
   ·refine .cT R hc ?_
    exact .exit (.seqX (.blkE ((Jj21 _ hm).sub [] R)))
   ·refine .cF R hc ?_
    refine .skip (.seqN (.seq ?_))
    refine .sub (τ:=⟨[(9,.i st14.1),(18,.i st14.1),(17,.i (p0.1.length:Int)),(16,.f rE35 p0.1),(8,.h 0),(3,.q 1 0),(1,.f qI p1),(2,.i p2)],[(0,ROW qI 3 st14.2),(1,.bx 162 [lF rE35 p0.1,lF qI p0.2.1,lF (rM kvP qI) p0.2.2])],3⟩) ?_ [] R
    refine bS hm fun x24 ex24 hm=>bS hm fun x25 ex25 hm=>?_
    refine .drw [(3,[]),(3,[oT]),(3,[]),(3,tT 3),(3,tT 4),(3,[]),(3,[]),(3,[oF,oF,oF,oF,oF,oT,oT]),(3,fA 5 (tT 3)),(3,[]),(3,fA 5 (tT 5)),(3,tT 11),(3,tT 12),(3,tT 13),(3,tT 13),(3,tT 14),(3,tT 16)] [_,_,_,_,_,_,_,_,_,_,_,_,_,_,_,_,_] ⟨[(12,.b ((kget x24 (x25,p2)).isSome)),(11,.i ((kget x24 (x25,p2)).getD 0)),(9,.i st14.1),(18,.i st14.1),(17,.i (p0.1.length:Int)),(16,.f rE35 p0.1),(8,.h 0),(3,.q 1 0),(1,.f qI p1),(2,.i p2)],[(0,ROW qI 3 st14.2),(1,.bx 162 [lF rE35 p0.1,lF qI p0.2.1,lF (rM kvP qI) p0.2.2])],3⟩ ⟨O.faP y9e Z R R,O.ld ya2 Z R (.B R) R R,O.mv Z R R,O.ix sl160 Z R R ex24 R,O.ld ya3 Z R (.E lv139) R R,O.mv Z R R,O.mv Z R R,O.ix sl32 Z R R ex25 R,O.ld nag3 Z R (.E lv3) R R,O.mv Z R R,O.bu (l:=[lI x25,lI p2]) pl241 R Z R R R,O.mi2 (k:=(x25,p2)) md139 Z (.fr R) (.a R R) R,O.mv Z R R,O.ex Z R R R,O.ex Z R R R,O.as Z R R,O.as Z R R,trivial⟩ (by kernel_rfl) R ?_
    refine .seqN (.seq (.seq (.reg (.mv R (.op (O.not Z R R) R (.nil (.seqN ?_)))))))
    rcases ifS hm with ⟨hc,hm⟩ | ⟨hc,hm⟩
    ·refine .cT R hc ?_
     exact .seq (.reg (.sa R (.sa R (.nil (.seqN (.ret (.seqR (.blkR (.seqR (.seqR ((K19 _ (ho14 _ (oi hm).symm)).sub [] R)))))))))))
    ·refine .cF R hc ?_
     exact .skip (.seqN (.reg (.mv R (.mv R (.mv R (bS hm fun x26 ex26 hm=> .op (O.ir sl32 Z R R R ex26 R) R (bS hm fun x27 ex27 hm=> .op (O.su (z:=((kget x24 (x25,p2)).getD 0)) nag3.sz Z R R ex26 ex27 R R R lv3 R .k) R (.nil (.blkN ((Jj21 _ hm).sub [] R))))))))))
 ·refine .cF R hc ?_
  exact .exit (.seqX (.seqX ((K17 _ (ho14 _ (oi hm).symm)).sub [] R)))
def y1w (st99:Int×(List (ByteArray×Int))×List (List Int)×EdgL) (l107:List (ByteArray×Int)) (l108:List (List Int)) (l109:List (Int×Int×Int)):Option ((Int×(List (ByteArray×Int))×List (List Int)×EdgL) ⊕ (((List (ByteArray×Int))×List (List Int)×EdgL) ⊕ Unit)):=
 some (.inl (W (st99.1 + 1),l107,l108,l109))
def y1x (st66:Int×(List (ByteArray×Int))×List (List Int)×List Int×EdgL) (st99:Int×(List (ByteArray×Int))×List (List Int)×EdgL) (x111:Int) (l115:List (List Int)) (n116:Int) (l117:List (ByteArray×Int)):Option ((Int×(List (ByteArray×Int))×List (List Int)×EdgL) ⊕ (((List (ByteArray×Int))×List (List Int)×EdgL) ⊕ Unit)):=
 (app st99.2.2.2 ([(st66.1,x111,n116)]:List (Int×Int×Int))).bind fun x119=>
 y1w st99 l117 l115 x119
def y1y (r2:((List AutT)×List Int×(List (List KeyT)))) (st66:Int×(List (ByteArray×Int))×List (List Int)×List Int×EdgL) (st99:Int×(List (ByteArray×Int))×List (List Int)×EdgL):Option ((Int×(List (ByteArray×Int))×List (List Int)×EdgL) ⊕ (((List (ByteArray×Int))×List (List Int)×EdgL) ⊕ Unit)):=
 if decide (st99.1 < (r2.2.1.length:Int)) then
  (idx r2.2.1 st99.1).bind fun x111=>
  (idx st99.2.2.1 st66.1).bind fun x112=>
  (yP r2 x112 x111).bind fun r113=>
  if(!r113.2) then
   y1w st99 st99.2.1 st99.2.2.1 st99.2.2.2
  else
   (y3d r113.1).bind fun r114=>
   if(!((kget st99.2.1 r114).isSome)) then
    if((st99.2.2.1.length:Int) == 4096) then
     some (.inr (.inr (())))
    else
     (y3d r113.1).bind fun r120=>
     (app st99.2.2.1 ([r113.1]:List (List Int))).bind fun x121=>
     y1x st66 st99 x111 x121 (st99.2.2.1.length:Int) (kput st99.2.1 r120 (st99.2.2.1.length:Int))
   else
    y1x st66 st99 x111 st99.2.2.1 ((kget st99.2.1 r114).getD 0) st99.2.1
 else
  some (.inr (.inl st99.2))
def y1z (r2:((List AutT)×List Int×(List (List KeyT)))) (st66:Int×(List (ByteArray×Int))×List (List Int)×List Int×EdgL) (l74:List Int):Option ((Int×(List (ByteArray×Int))×List (List Int)×List Int×EdgL) ⊕ ((List (List Int)×List Int×EdgL) ⊕ Unit)):=
 (iter (y1y r2 st66) (0,st66.2.1,st66.2.2.1,st66.2.2.2.2)).bind fun o99=>
 match o99 with
 | .inl u103=>
  some (.inl (W (st66.1 + 1),u103.1,u103.2.1,l74,u103.2.2))
 | .inr (u105)=>
  some (.inr (.inr (())))
def y1A (r2:((List AutT)×List Int×(List (List KeyT)))) (st66:Int×(List (ByteArray×Int))×List (List Int)×List Int×EdgL):Option ((Int×(List (ByteArray×Int))×List (List Int)×List Int×EdgL) ⊕ ((List (List Int)×List Int×EdgL) ⊕ Unit)):=
 if decide (st66.1 < (st66.2.2.1.length:Int)) then
  (idx st66.2.2.1 st66.1).bind fun x122=>
  (yv r2 x122).bind fun r123=>
  if r123 then
   (app st66.2.2.2.1 ([st66.1]:List Int)).bind fun x124=>
   y1z r2 st66 x124
  else
   y1z r2 st66 st66.2.2.2.1
 else
  some (.inr (.inl st66.2.2))
def yq (p0:List AutT):Option (AutT×List (List Int)×Int):=
 (y2W p0).bind fun r1=>
 if(r1 != 0) then
  some ((([]:List Int),0,([]:List Int),([]:List (Int×Int×Int))),([]:List (List Int)),r1)
 else
  (y2G p0).bind fun r2=>
  (yo r2).bind fun r3=>
  if(!r3.2) then
   some ((r2.2.1,0,([]:List Int),([]:List (Int×Int×Int))),([]:List (List Int)),0)
  else
   (y3d r3.1).bind fun r4=>
   (iter (y1A r2) (0,(kput ([]:List (ByteArray×Int)) r4 0),([r3.1]:List (List Int)),([]:List Int),([]:List (Int×Int×Int)))).bind fun o66=>
   match o66 with
   | .inl u70=>
    some ((r2.2.1,(u70.1.length:Int),u70.2),u70.1,0)
   | .inr (u72)=>
    some ((([]:List Int),0,([]:List Int),([]:List (Int×Int×Int))),([]:List (List Int)),3)
theorem y4G {p0:List AutT} {r:AutT×List (List Int)×Int} (hm:yq p0=some r):
  Fw Tryz.prog 32 ⟨0,[]⟩ [.f rE35 p0] [] (.tp [.a [lH 0,lI r.1.2.1,lH 1,lH 2],.h 3,.i r.2.2]) [ROW qI 3 r.1.1,ROW qI 3 r.1.2.2.1,ROW qT 124 r.1.2.2.2,ROW (rL qI) 32 r.2.1]:=by
 unfold yq at hm
 refine Fw.mk' Tryz.func32 R Tryz.ntmps32 R R (fun C=>?_) R R
 refine .seq (.reg (.op (O.al 0 R zz35 R Z R) R (.sa R (.sa R (.nil (.seqN (.seq (.seq (.reg (.mv R (bS hm fun r1 er1 hm=> .op (O.ca0 (y7T er1) cf95 R R Z R R R) R (.sa R (.nil (.seqN (.seq (.reg (.mv R (.bi R (.nil (.seqN ?_))))))))))))))))))))
 rcases ifS hm with ⟨hc,hm⟩ | ⟨hc,hm⟩
 ·refine .cT R hc ?_
  refine .seq (.reg (.op (O.bu (l:=[lN,lI 0,lN,lN]) pl35 R Z R R R) R (.mv R (.op (O.st ag35.sz Z R R R R R) R (.sa R (.sa R (.nil (.seqN (.ret (.seqR (.nlb qI 3 0 0 R R (.nlb qI 3 0 2 R R (.nlb qT 124 0 3 R R (.nlg (rL qI) 32 3 0 R R ?_))))))))))))))
  obtain rfl:=oi hm
  exact WX.rt [1,2,3,4] (.inl R) Tryz.results32 (.cell R R ag35 R (.tmp R (.tmp R .nil))) R (fun _ _ _ h=>h) ⟨⟨_,R,fun _ _ _ _ h=>h⟩,⟨_,R,fun _ _ _ _ h=>h⟩,⟨_,R,fun _ _ _ _ h=>h⟩,⟨_,R,fun _ _ _ _ h=>h⟩,trivial⟩
 ·refine .cF R hc ?_
  refine .skip (.seqN (.seq (.reg (.mv R (bS hm fun r2 er2 hm=> .op (O.ca (r':= .g [lF rE35 r2.1,lH 1,lH 2]) [1,2] [(0,ROW qI 3 r2.2.1),(1,ROW (rM kvP qI) 139 r2.2.2)] (some 3) (y8l er2) cf96 R R Z R R R R ⟨⟨_,R,fun _ _ _ _ h=>h⟩,⟨_,R,fun _ _ _ _ h=>h⟩,trivial⟩ (fun _ _ _ h=>h) R) R (.op (O.al 3 R zz162 R Z R) R (.op (O.st ag162.sz Z R R R R R) R (.nil (.seqN (.seq (.reg (.op (O.faP yaB Z R R) R (.op (O.ld nag32 Z R (.B R) R R) R (.op (O.faP y1S Z R R) R (.op (O.st nag32.sz Z R R R R R) R (.nil (.seqN (.seq (.reg (.op (O.lg (l':=[lF rE35 r2.1,lH 1,lH 2]) ag162 Z R (.B R) R R R) R (bS hm fun r3 er3 hm=> .op (O.caY (r':= .tp [.h 4,.b r3.2]) [4] [(0,ROW qI 3 r3.1)] (some 5) (y5A er3) cf97 R R Z R R ⟨⟨R,.rf,.hr R,.hr R,trivial⟩,trivial⟩ R ⟨.row flr3,trivial⟩ (fun _ _ _ _ h=>h) ⟨⟨_,R,fun _ _ _ _ h=>h⟩,trivial⟩ (fun _ _ _ h=>h) R) R (.mv R (.op (O.ex Z R R R) R (.op (O.ex Z R R R) R (.sa R (.sa R (.nil (.seqN (.seq (.seq (.reg (.mv R (.op (O.not Z R R) R (.nil (.seqN ?_)))))))))))))))))))))))))))))))))))
  rcases ifS hm with ⟨hc,hm⟩ | ⟨hc,hm⟩
  ·refine .cT R hc ?_
   refine .seq (.reg (.op (O.lg (l':=[lH 1,lI 0,lN,lN]) ag35 Z R (.B R) R R R) R (.op (O.st ag35.sz Z R R R R R) R (.sa R (.sa R (.nil (.seqN (.ret (.seqR (.nlb qI 3 0 2 R R (.nlb qT 124 0 3 R R (.nlg (rL qI) 32 3 0 R R ?_))))))))))))
   obtain rfl:=oi hm
   exact WX.rt [1,5,6,7] (.inl R) Tryz.results32 (.cell R R ag35 R (.tmp R (.tmp R .nil))) R (fun _ _ _ h=>h) ⟨⟨_,R,fun _ _ _ _ h=>h⟩,⟨_,R,fun _ _ _ _ h=>h⟩,⟨_,R,fun _ _ _ _ h=>h⟩,⟨_,R,fun _ _ _ _ h=>h⟩,trivial⟩
  ·refine .cF R hc ?_
   refine .skip (.seqN (.seq (.reg (.mv R (.fz 4 [36,7] [] R R fR R R (.op (O.bsO (r:=(rL qI)) (zs:=([r3.1]:List (List Int))) 5 R bs53 R R Z R R R (.c .l .n) R R R) R (.sa R (.nil (.seqN (.seq (.reg (.op (O.mk2 (kv:=kvS) (r:=qI) 6 R Z R) R (.mv R (bS hm fun r4 er4 hm=> .op (O.ca0 (y5j er4) cf98 R R Z R R R) R (.op (O.ins (k:=r4) (v:=0) md167 (fun _ _=>eqS) Z R R (.o R) R .k) R (.mv R (.sa R (.nil (.seqN (.seq (.seq (.reg (.sa R (.nil (.seqN (.block (bS hm fun o66 eo66 hm=>?_)))))))))))))))))))))))))))
   refine .cutU (z:= .exit 0) (fun u70=> .inl u70=o66) (fun (u70:List (List Int)×List Int×EdgL)=>⟨[(3,.h 0),(2,.q 1 0)],[(0,ROW (rL qI) 32 u70.1),(1,.bx 35 [lH 2,lI 0,lH 3,lH 4]),(2,ROW qI 3 r2.2.1),(3,ROW qI 3 u70.2.1),(4,ROW qT 124 u70.2.2)],5⟩) ?_ fun K71=>?_
   ·rintro u70 rfl
    dsimp only at hm
    refine .blkE (.seqN (.seq (.reg (.mv R (.op (O.lenH sl53 Z R R R) R (.op (O.faP y1T Z R R) R (.op (O.st nag3.sz Z R R R R R) R (.nil (.seqN (.seq (.reg (.op (O.lg (l':=[lH 2,lI (u70.1.length:Int),lH 3,lH 4]) ag35 Z R (.B R) R R R) R (.mv R (.op (O.st ag35.sz Z R R R R R) R (.sa R (.sa R (.nil (.seqN (.ret ?_)))))))))))))))))))
    obtain rfl:=oi hm
    exact WX.rt [2,3,4,0] (.inl R) Tryz.results32 (.cell R R ag35 R (.tmp R (.tmp R .nil))) R (fun _ _ _ h=>h) ⟨⟨_,R,fun _ _ _ _ h=>h⟩,⟨_,R,fun _ _ _ _ h=>h⟩,⟨_,R,fun _ _ _ _ h=>h⟩,⟨_,R,fun _ _ _ _ h=>h⟩,trivial⟩
   refine .cutU (z:= .ret) (fun u72=> .inr (u72)=o66) (fun (u72:Unit)=>⟨[(4,.i 3),(3,.o (lN)),(2,.q 0 0)],[(0,.bx 35 [lN,lI 0,lN,lN])],1⟩) ?_ fun K73=>?_
   ·rintro u72 rfl
    dsimp only at hm
    refine .blkR (.seqR (.nlb qI 3 0 0 R R (.nlb qI 3 0 2 R R (.nlb qT 124 0 3 R R (.nlg (rL qI) 32 3 0 R R ?_)))))
    obtain rfl:=oi hm
    exact WX.rt [1,2,3,4] (.inl R) Tryz.results32 (.cell R R ag35 R (.tmp R (.tmp R .nil))) R (fun _ _ _ h=>h) ⟨⟨_,R,fun _ _ _ _ h=>h⟩,⟨_,R,fun _ _ _ _ h=>h⟩,⟨_,R,fun _ _ _ _ h=>h⟩,⟨_,R,fun _ _ _ _ h=>h⟩,trivial⟩
   refine .nlb qI 3 0 2 R R (.nlb qT 124 0 3 R R (.iter (fun (st66:Int×(List (ByteArray×Int))×List (List Int)×List Int×EdgL)=>⟨[(10,.i st66.1),(9,.h 0),(3,.h 1),(6,.q 2 0),(2,.q 5 0)],[(0,MAP kvS qI 167 st66.2.1),(1,ROW (rL qI) 32 st66.2.2.1),(2,.bx 162 [lF rE35 r2.1,lH 3,lH 4]),(3,ROW qI 3 r2.2.1),(4,ROW (rM kvP qI) 139 r2.2.2),(5,.bx 35 [lH 3,lI 0,lH 6,lH 7]),(6,ROW qI 3 st66.2.2.2.1),(7,ROW qT 124 st66.2.2.2.2)],8⟩) eo66 [(0,6),(1,5),(2,3),(3,1),(4,2),(5,0),(6,7),(7,8)] R ?_))
   intro st66 res66 hm ih66 ho66
   unfold y1A at hm
   refine .seq (.seq (.reg (.mv R (.mv R (.op (O.lenH sl53 Z R R R) R (.bi R (.nil (.seqN ?_))))))))
   rcases ifS hm with ⟨hc,hm⟩ | ⟨hc,hm⟩
   ·refine .cT R hc ?_
    refine .skip (.seqN (.seq (.block ?_)))
    refine .join1 (fun (l74:List Int)=>y1z r2 st66 l74=some res66) (fun l74=>⟨[(10,.i st66.1),(9,.h 0),(3,.h 1),(6,.q 2 0),(2,.q 5 0)],[(0,MAP kvS qI 167 st66.2.1),(1,ROW (rL qI) 32 st66.2.2.1),(2,.bx 162 [lF rE35 r2.1,lH 3,lH 4]),(3,ROW qI 3 r2.2.1),(4,ROW (rM kvP qI) 139 r2.2.2),(5,.bx 35 [lH 3,lI 0,lH 6,lH 7]),(6,ROW qI 3 l74),(7,ROW qT 124 st66.2.2.2.2)],8⟩) ?_ ?_
    ·intro l74 hm
     unfold y1z at hm
     refine .seq (.reg (.op (O.faP yaB Z R R) R (.op (O.ld nag32 Z R (.B R) R R) R (.op (O.lenH sl32 Z R R R) R (.mv R (.nil (.seqN (.block (bS hm fun o99 eo99 hm=>?_)))))))))
     refine .cutU (z:= .exit 2) (fun u103=> .inl u103=o99) (fun (u103:(List (ByteArray×Int))×List (List Int)×EdgL)=>⟨[(10,.i st66.1),(9,.h 0),(3,.h 1),(6,.q 2 0),(2,.q 5 0)],[(0,MAP kvS qI 167 u103.1),(1,ROW (rL qI) 32 u103.2.1),(2,.bx 162 [lF rE35 r2.1,lH 3,lH 4]),(3,ROW qI 3 r2.2.1),(4,ROW (rM kvP qI) 139 r2.2.2),(5,.bx 35 [lH 3,lI 0,lH 6,lH 7]),(6,ROW qI 3 l74),(7,ROW qT 124 u103.2.2)],8⟩) ?_ fun K104=>?_
     ·rintro u103 rfl
      dsimp only at hm
      exact .blkE (.blkN (.seqN (.reg (.mv R (.bi R (.sa R (.nil ((ih66 _ (oi hm).symm).sub [] R))))))))
     refine .cutU (z:= .ret) (fun u105=> .inr (u105)=o99) (fun (u105:Unit)=>⟨[(4,.i 3),(3,.o (lN)),(2,.q 0 0)],[(0,.bx 35 [lN,lI 0,lN,lN])],1⟩) ?_ fun K106=>?_
     ·rintro u105 rfl
      dsimp only at hm
      exact .blkR (.blkR (.seqR (.seqR ((K73 _ (ho66 _ (oi hm).symm)).sub [] R))))
     refine .iter (fun (st99:Int×(List (ByteArray×Int))×List (List Int)×EdgL)=>⟨[(63,.i st99.1),(62,.i (r2.2.1.length:Int)),(61,.h 0),(10,.i st66.1),(9,.h 1),(3,.h 2),(6,.q 3 0),(2,.q 5 0)],[(0,ROW qI 3 r2.2.1),(1,MAP kvS qI 167 st99.2.1),(2,ROW (rL qI) 32 st99.2.2.1),(3,.bx 162 [lF rE35 r2.1,lH 0,lH 4]),(4,ROW (rM kvP qI) 139 r2.2.2),(5,.bx 35 [lH 0,lI 0,lH 6,lH 7]),(6,ROW qI 3 l74),(7,ROW qT 124 st99.2.2.2)],8⟩) eo99 [(0,3),(1,0),(2,1),(3,2)] R ?_
     intro st99 res99 hm ih99 ho99
     unfold y1y at hm
     refine .seq (.reg (.bi R (.nil (.seqN (.seq ?_)))))
     rcases ifS hm with ⟨hc,hm⟩ | ⟨hc,hm⟩
     ·refine .cT R hc ?_
      refine .skip (.seqN ?_)
      refine .join3 (fun (l107:List (ByteArray×Int)) (l108:List (List Int)) (l109:List (Int×Int×Int))=>y1w st99 l107 l108 l109=some res99) (fun l107 l108 l109=>⟨[(63,.i st99.1),(62,.i (r2.2.1.length:Int)),(61,.h 0),(10,.i st66.1),(9,.h 1),(3,.h 2),(6,.q 3 0),(2,.q 5 0)],[(0,ROW qI 3 r2.2.1),(1,MAP kvS qI 167 l107),(2,ROW (rL qI) 32 l108),(3,.bx 162 [lF rE35 r2.1,lH 0,lH 4]),(4,ROW (rM kvP qI) 139 r2.2.2),(5,.bx 35 [lH 0,lI 0,lH 6,lH 7]),(6,ROW qI 3 l74),(7,ROW qT 124 l109)],8⟩) ?_ ?_
      ·intro l107 l108 l109 hm
       unfold y1w at hm
       exact .reg (.bi R (.mv R (.nil ((ih99 _ (oi hm).symm).sub [] R))))
      ·intro Jj110
       refine .block (.seq (.reg (bS hm fun x111 ex111 hm=> .op (O.ir sl32 Z R R R ex111 R) R (.op (O.ld nag3 Z R (.R R ex111 lv3) R R) R (.sa R (.nil (.seqN (.seq ?_))))))))
       refine .sub (τ:=⟨[(12,.i x111),(63,.i st99.1),(62,.i (r2.2.1.length:Int)),(61,.h 0),(10,.i st66.1),(9,.h 1),(3,.h 2),(6,.q 3 0),(2,.q 5 0)],[(0,ROW qI 3 r2.2.1),(1,MAP kvS qI 167 st99.2.1),(2,ROW (rL qI) 32 st99.2.2.1),(3,.bx 162 [lF rE35 r2.1,lH 0,lH 4]),(4,ROW (rM kvP qI) 139 r2.2.2),(5,.bx 35 [lH 0,lI 0,lH 6,lH 7]),(6,ROW qI 3 l74),(7,ROW qT 124 st99.2.2.2)],8⟩) ?_ [] R
       refine bS hm fun x112 ex112 hm=>bS hm fun r113 er113 hm=>?_
       refine .drw [(8,[]),(8,[]),(8,[]),(8,[oF,oT,oT]),(8,fA 1 (tT 3)),(8,[]),(8,tT 6),(9,tT 7),(9,tT 8),(9,tT 8),(9,tT 9),(9,tT 11)] [_,_,_,_,_,_,_,_,_,_,_,_] ⟨[(14,.b r113.2),(13,.h 8),(12,.i x111),(63,.i st99.1),(62,.i (r2.2.1.length:Int)),(61,.h 0),(10,.i st66.1),(9,.h 1),(3,.h 2),(6,.q 3 0),(2,.q 5 0)],[(8,ROW qI 3 r113.1),(0,ROW qI 3 r2.2.1),(1,MAP kvS qI 167 st99.2.1),(2,ROW (rL qI) 32 st99.2.2.1),(3,.bx 162 [lF rE35 r2.1,lH 0,lH 4]),(4,ROW (rM kvP qI) 139 r2.2.2),(5,.bx 35 [lH 0,lI 0,lH 6,lH 7]),(6,ROW qI 3 l74),(7,ROW qT 124 st99.2.2.2)],9⟩ ⟨O.lg (l':=[lF rE35 r2.1,lH 0,lH 4]) ag162 Z R (.B R) R R R,O.mv Z R R,O.mv Z R R,O.ir sl53 Z R R R ex112 R,O.ld nag32 Z R (.R R ex112 lv32) R R,O.mv Z R R,O.caY (r':= .tp [.h 8,.b r113.2]) [8] [(0,ROW qI 3 r113.1)] (some 9) (y6e er113) cf100 R R Z R R ⟨⟨R,.rf,.hr R,.hr R,trivial⟩,⟨R,LnL.rf⟩,⟨R,LnL.rf⟩,trivial⟩ R ⟨.row flr3,trivial⟩ (fun _ _ _ _ h=>h) ⟨⟨_,R,fun _ _ _ _ h=>h⟩,trivial⟩ (fun _ _ _ h=>h) R,O.mv Z R R,O.ex Z R R R,O.ex Z R R R,O.as Z R R,O.as Z R R,trivial⟩ (by kernel_rfl) R ?_
       refine .seqN (.seq (.seq (.reg (.mv R (.op (O.not Z R R) R (.nil (.seqN ?_)))))))
       rcases ifS hm with ⟨hc,hm⟩ | ⟨hc,hm⟩
       ·refine .cT R hc ?_
        exact .exit (.seqX (.blkE ((Jj110 _ _ _ hm).sub [] R)))
       ·refine .cF R hc ?_
        refine .skip (.seqN (.seq (.reg (.mv R (.mv R (bS hm fun r114 er114 hm=> .op (O.caZ (y5j er114) cf98 R R Z R ⟨⟨R,.hr R,trivial⟩,trivial⟩ (fun _ _ _ _ _ h=>h) R) R (.op (O.mi2 (k:=r114) md167 Z (.ow R R) (.o R) R) R (.mv R (.op (O.ex Z R R R) R (.op (O.ex Z R R R) R (.sa R (.sa R (.nil (.seqN ?_))))))))))))))
        refine .join3 (fun (l115:List (List Int)) (n116:Int) (l117:List (ByteArray×Int))=>y1x st66 st99 x111 l115 n116 l117=some res99) (fun l115 n116 l117=>⟨[(3,.h 0),(15,.i n116),(12,.i x111),(63,.i st99.1),(62,.i (r2.2.1.length:Int)),(61,.h 1),(10,.i st66.1),(9,.h 2),(6,.q 3 0),(2,.q 5 0)],[(0,ROW (rL qI) 32 l115),(1,ROW qI 3 r2.2.1),(2,MAP kvS qI 167 l117),(3,.bx 162 [lF rE35 r2.1,lH 1,lH 4]),(4,ROW (rM kvP qI) 139 r2.2.2),(5,.bx 35 [lH 1,lI 0,lH 6,lH 7]),(6,ROW qI 3 l74),(7,ROW qT 124 st99.2.2.2)],8⟩) ?_ ?_
        ·intro l115 n116 l117 hm
         unfold y1x at hm
         exact .reg (.op (O.faP y1h Z R R) R (.op (O.ld nag33 Z R (.B R) R R) R (.mv R (.mv R (.mv R (.op (O.bu (l:=[lI st66.1,lI x111,lI n116]) pl124 R Z R R R) R (.op (O.bsF (r:=qT) (zs:=([(st66.1,x111,n116)]:List (Int×Int×Int))) bs33 R R Z R R R (.c (.p .k (.p .k .k)) .n) R R R) R (bS hm fun x119 ex119 hm=> .op (O.ap 8 Tryz.underlying33 el124 R R Z R R (.fr R) ex119 R) R (.op (O.faP y1h Z R R) R (.op (O.st nag33.sz Z R R R R R) R (.nil (.blkN ((Jj110 _ _ _ hm).sub [(0,1),(1,2),(2,0),(7,8)] R)))))))))))))
        ·intro Jj118
         refine .seq (.reg (.mv R (.op (O.not Z R R) R (.nil (.seqN ?_)))))
         rcases ifS hm with ⟨hc,hm⟩ | ⟨hc,hm⟩
         ·refine .cT R hc ?_
          refine .seq (.seq (.reg (.mv R (.op (O.lenH sl53 Z R R R) R (.bi R (.nil (.seqN ?_)))))))
          rcases ifS hm with ⟨hc,hm⟩ | ⟨hc,hm⟩
          ·refine .cT R hc ?_
           exact .seq (.reg (.op (O.bu (l:=[lN,lI 0,lN,lN]) pl35 R Z R R R) R (.op (O.st ag35.sz Z R R R R R) R (.sa R (.sa R (.nil (.seqN (.ret (.seqR (.seqR (.blkR (.seqR (.seqR ((K106 _ (ho99 _ (oi hm).symm)).sub [(0,5)] R))))))))))))))
          ·refine .cF R hc ?_
           exact .skip (.seqN (.seq (.reg (.mv R (.op (O.lenH sl53 Z R R R) R (.sa R (.nil (.seqN (.seq (.reg (.mv R (.mv R (bS hm fun r120 er120 hm=> .op (O.caZ (y5j er120) cf98 R R Z R ⟨⟨R,.hr R,trivial⟩,trivial⟩ (fun _ _ _ _ _ h=>h) R) R (.mv R (.op (O.mu (k:=r120) (v:=(st99.2.2.1.length:Int)) md167 (fun _ _=>eqS) Z R R (.o R) R .k) R (.nil (.seqN (.reg (.mv R (.mv R (.fz 8 [99] [] R R fR R R (.op (O.bsF (r:=(rL qI)) (zs:=([r113.1]:List (List Int))) bs53 R R Z R R R (.c .l .n) R R R) R (bS hm fun x121 ex121 hm=> .op (O.ap 9 Tryz.underlying53 el32 R R Z R R (.fr R) ex121 R) R (.sa R (.nil ((Jj118 _ _ _ hm).sub [(0,9),(1,0),(2,1)] R))))))))))))))))))))))))))
         ·refine .cF R hc ?_
          exact .skip ((Jj118 _ _ _ hm).sub [(0,2),(1,0),(2,1)] R)
     ·refine .cF R hc ?_
      exact .exit (.seqX (.seqX ((K104 _ (ho99 _ (oi hm).symm)).sub [(0,1),(1,2),(2,3),(3,0)] R)))
    ·intro Jj75
     refine .seq ?_
     refine .sub (τ:=⟨[(10,.i st66.1),(9,.h 0),(3,.h 1),(6,.q 2 0),(2,.q 5 0)],[(0,MAP kvS qI 167 st66.2.1),(1,ROW (rL qI) 32 st66.2.2.1),(2,.bx 162 [lF rE35 r2.1,lH 3,lH 4]),(3,ROW qI 3 r2.2.1),(4,ROW (rM kvP qI) 139 r2.2.2),(5,.bx 35 [lH 3,lI 0,lH 6,lH 7]),(6,ROW qI 3 st66.2.2.2.1),(7,ROW qT 124 st66.2.2.2.2)],8⟩) ?_ [] R
     refine bS hm fun x122 ex122 hm=>bS hm fun r123 er123 hm=>?_
     refine .drw [(8,[]),(8,[]),(8,[]),(8,[oF,oT,oT]),(8,fA 1 (tT 3)),(8,tT 5)] [_,_,_,_,_,_] ⟨[(53,.b r123),(10,.i st66.1),(9,.h 0),(3,.h 1),(6,.q 2 0),(2,.q 5 0)],[(0,MAP kvS qI 167 st66.2.1),(1,ROW (rL qI) 32 st66.2.2.1),(2,.bx 162 [lF rE35 r2.1,lH 3,lH 4]),(3,ROW qI 3 r2.2.1),(4,ROW (rM kvP qI) 139 r2.2.2),(5,.bx 35 [lH 3,lI 0,lH 6,lH 7]),(6,ROW qI 3 st66.2.2.2.1),(7,ROW qT 124 st66.2.2.2.2)],8⟩ ⟨O.lg (l':=[lF rE35 r2.1,lH 3,lH 4]) ag162 Z R (.B R) R R R,O.mv Z R R,O.mv Z R R,O.ir sl53 Z R R R ex122 R,O.ld nag32 Z R (.R R ex122 lv32) R R,O.caZ (y5I er123) cf99 R R Z R ⟨⟨R,.rf,.hr R,.hr R,trivial⟩,⟨R,LnL.rf⟩,trivial⟩ (fun _ _ _ _ _ h=>h) R,trivial⟩ (by kernel_rfl) R ?_
     refine .seqN ?_
     rcases ifS hm with ⟨hc,hm⟩ | ⟨hc,hm⟩
     ·refine .cT R hc ?_
      exact .reg (.op (O.faP y3l Z R R) R (.op (O.ld nag32 Z R (.B R) R R) R (.mv R (.op (O.bsF (r:=qI) (zs:=([st66.1]:List Int)) bs32 R R Z R R R (.c .k .n) R R R) R (bS hm fun x124 ex124 hm=> .op (O.ap 8 Tryz.underlying32 el3 R R Z R R (.fr R) ex124 R) R (.op (O.faP y3l Z R R) R (.op (O.st nag32.sz Z R R R R R) R (.nil ((Jj75 _ hm).sub [(6,8)] R)))))))))
     ·refine .cF R hc ?_
      exact .skip ((Jj75 _ hm).sub [] R)
   ·refine .cF R hc ?_
    exact .exit (.seqX (.seqX ((K71 _ (ho66 _ (oi hm).symm)).sub [(0,1),(1,5),(2,3),(3,6),(4,7)] R)))
def y3j (p0:Bool) (p1:Bool):Option Bool:=
 some (p0 && p1)
theorem y6f {p0:Bool} {p1:Bool} {r:Bool} (hm:y3j p0 p1=some r):
  Fw Tryz.prog 196 ⟨0,[]⟩ [.b p0,.b p1] [] (.b r) []:=by
 unfold y3j at hm
 refine Fw.mk' Tryz.func196 R Tryz.ntmps196 R R (fun C=>?_) R R
 refine .seq (.reg (.sa R (.nil (.seqN (.seq (.reg (.mv R (.mv R ?_))))))))
 refine .cut 2 (fun (v1:Bool)=>(p0 && p1)=v1) (fun v1=>⟨[(8,.b v1)],[],0⟩) ?_ ?_
 ·rintro _ rfl
  refine .sa R (.nil (.seqN (.ret ?_)))
  obtain rfl:=oi hm
  exact WX.rt [] (.inl R) Tryz.results196 (.tmp R .nil) R (fun _ _ _ h=>h) trivial
 ·intro J2
  rcases Bool.eq_false_or_eq_true p0 with hc | hc
  ·refine .know (d:=6) R hc ?_
   exact .op (O.mv (Gu.mk R R) R R) R (.op (O.pkT Z R R R R) R ((J2 p1 (andT hc).symm).sub [] R))
  ·refine .know (d:=6) R hc ?_
   exact .sk R (.op (O.pkF Z R R R R) R ((J2 false (andF hc).symm).sub [] R))
def y2l (p0:List Int) (p1:List Int):Option (List Int):=
 (y2d p0 p1 y3j).bind fun r1=>
 some r1
theorem y4O {p0:List Int} {p1:List Int} {r:List Int} (hm:y2l p0 p1=some r):
  Fw Tryz.prog 145 ⟨0,[]⟩ [.f qI p0,.f qI p1] [] (.h 0) [ROW qI 3 r]:=by
 unfold y2l at hm
 refine Fw.mk' Tryz.func145 R Tryz.ntmps145 R R (fun C=>?_) R R
 refine .seq (.reg (.sa R (.nil (.seqN (.seq (.reg (.mv R (.mv R (bS hm fun r1 er1 hm=> .op (O.cac (r':= .h 0) [0] [(0,ROW qI 3 r1)] (some 1) (y4u er1) cf75 R R Z R R ⟨⟨R,.rf⟩,⟨R,.rf⟩,⟨R,(.c (.fn cf196 (fun x r h=>y6f h) (fun _=>R)) .n)⟩,trivial⟩ R ⟨⟨_,R,fun _ _ _ _ h=>h⟩,trivial⟩ (fun _ _ _ h=>h) R) R (.sa R (.nil (.seqN (.ret ?_)))))))))))))
 obtain rfl:=oi hm
 exact WX.rt [0] (.inl R) Tryz.results145 (.tmp R .nil) R (fun _ _ _ h=>h) ⟨⟨_,R,fun _ _ _ _ h=>h⟩,trivial⟩
def y3Q (p0:AutT) (st6:Int×(List KeyT)):Option ((Int×(List KeyT)) ⊕ (List KeyT)):=
 if decide (st6.1 < (p0.2.2.2.length:Int)) then
  (idx p0.2.2.2 st6.1).bind fun x9=>
  some (.inl (W (st6.1 + 1),(kput st6.2 (x9.1,x9.2.1) x9.2.2)))
 else
  some (.inr st6.2)
def y3m (p0:AutT):Option (AutT×(List KeyT)):=
 (iter (y3Q p0) (0,([]:List KeyT))).bind fun o6=>
 some (p0,o6)
theorem y4E {p0:AutT} {r:(AutT×(List KeyT))} (hm:y3m p0=some r):
  Fw Tryz.prog 151 ⟨0,[]⟩ [.a [lF qI p0.1,lI p0.2.1,lF qI p0.2.2.1,lF qT p0.2.2.2]] [] (.g [lF qI r.1.1,lI r.1.2.1,lF qI r.1.2.2.1,lF qT r.1.2.2.2,lM kvP qI r.2]) []:=by
 unfold y3m at hm
 refine Fw.mk' Tryz.func151 R Tryz.ntmps151 R R (fun C=>?_) R R
 refine .seq (.reg (.op (O.box 0 R Z R R R) R (.op (O.al 1 R zz141 R Z R) R (.nil (.seqN (.seq (.reg (.op (O.lg (l':=[lF qI p0.1,lI p0.2.1,lF qI p0.2.2.1,lF qT p0.2.2.2]) ag35 Z R (.B R) R R R) R (.op (O.mk2 (kv:=kvP) (r:=qI) 2 R Z R) R (.op (O.bu (l:=[lF qI p0.1,lI p0.2.1,lF qI p0.2.2.1,lF qT p0.2.2.2,lH 2]) pl141 R Z R R R) R (.op (O.al 3 R zz141 R Z R) R (.op (O.st ag141.sz Z R R R R R) R (.nil (.seqN (.seq (.seq (.reg (.op (O.faP y1h Z R R) R (.op (O.ld nag33 Z R (.B R) R R) R (.op (O.len sl33 Z R R) R (.mv R (.nil (.seqN (.block (bS hm fun o6 eo6 hm=>?_)))))))))))))))))))))))))
 refine .cut1 (z:= .exit 0) o6 (fun (o6:(List KeyT))=>⟨[(3,.q 0 0),(2,.q 2 0)],[(0,.bx 141 [lF qI p0.1,lI p0.2.1,lF qI p0.2.2.1,lF qT p0.2.2.2,lH 1]),(1,MAP kvP qI 139 o6),(2,.bx 141 [lN,lI 0,lN,lN,lV (.map none)])],3⟩) ?_ fun K8=>?_
 ·skip
  refine .blkE (.seqN (.seq (.reg (.op (O.lg (l':=[lF qI p0.1,lI p0.2.1,lF qI p0.2.2.1,lF qT p0.2.2.2,lH 1]) ag141 Z R (.B R) R R R) R (.op (O.st ag141.sz Z R R R R R) R (.nil (.seqN (.ret (.fz 1 [] [0,2] R R fM R R ?_)))))))))
  obtain rfl:=oi hm
  exact WX.rt [] (.inl R) Tryz.results151 (.cell R R ag141 R .nil) R (fun _ _ _ h=>h) trivial
 refine .iter (fun (st6:Int×(List KeyT))=>⟨[(12,.i st6.1),(11,.i (p0.2.2.2.length:Int)),(10,.f qT p0.2.2.2),(3,.q 0 0),(2,.q 2 0)],[(0,.bx 141 [lF qI p0.1,lI p0.2.1,lF qI p0.2.2.1,lF qT p0.2.2.2,lH 1]),(1,MAP kvP qI 139 st6.2),(2,.bx 141 [lN,lI 0,lN,lN,lV (.map none)])],3⟩) eo6 [(0,3),(1,2),(2,1)] R ?_
 intro st6 res6 hm ih6 ho6
 unfold y3Q at hm
 refine .seq (.reg (.bi R (.nil (.seqN (.seq ?_)))))
 rcases ifS hm with ⟨hc,hm⟩ | ⟨hc,hm⟩
 ·refine .cT R hc ?_
  exact .skip (.seqN (.seq (.block (.seq (.reg (bS hm fun x9 ex9 hm=> .op (O.ix sl33 Z R R ex9 R) R (.op (O.lg (l':=[lI x9.1,lI x9.2.1,lI x9.2.2]) ag124 Z R (.E lv124) R R R) R (.op (O.al 3 R zz124 R Z R) R (.op (O.st ag124.sz Z R R R R R) R (.nil (.seqN (.reg (.op (O.faP yaC Z R R) R (.op (O.ld ya3 Z R (.B R) R R) R (.op (O.faP y2j Z R R) R (.op (O.ld nag3 Z R (.B R) R R) R (.op (O.faP y3Z Z R R) R (.op (O.ld nag3 Z R (.B R) R R) R (.op (O.bu (l:=[lI x9.1,lI x9.2.1]) pl241 R Z R R R) R (.op (O.faP y3g Z R R) R (.op (O.ld nag3 Z R (.B R) R R) R (.op (O.mu (k:=(x9.1,x9.2.1)) (v:=x9.2.2) md139 (fun _ _=>eqP) Z R R (.a R R) R .k) R (.nil (.blkN (.seqN (.reg (.bi R (.mv R (.nil ((ih6 _ (oi hm).symm).sub [] R))))))))))))))))))))))))))))))
 ·refine .cF R hc ?_
  exact .exit (.seqX (.seqX ((K8 _ (ho6 _ (oi hm).symm)).sub [] R)))
def y3C (p0:AutT×AutT×List Int) (st5:Int):Option (Int ⊕ (Unit ⊕ Int)):=
 if decide (st5 < (([p0.1,p0.2.1]:List AutT).length:Int)) then
  (idx ([p0.1,p0.2.1]:List AutT) st5).bind fun x19=>
  (y1t x19).bind fun r20=>
  if(r20 != 0) then
   some (.inr (.inr (r20)))
  else
   some (.inl (W (st5 + 1)))
 else
  some (.inr (.inl ()))
def y1P (p0:AutT×AutT×List Int):Option ((Option ((AutT×(List KeyT))×(AutT×(List KeyT))×(AutT×(List KeyT))×List (List Int)×List Int×List Int))×Int):=
 (iter (y3C p0) 0).bind fun o5=>
 match o5 with
 | .inl u7=>
  (y2u p0.2.1.1 p0.1.1).bind fun r9=>
  if(!r9) then
   some (none,9)
  else
   (yT p0.2.2 32).bind fun r10=>
   if(r10 != 0) then
    some (none,r10)
   else
    (yq ([p0.1,p0.2.1]:List AutT)).bind fun r11=>
    if(r11.2.2 != 0) then
     some (none,r11.2.2)
    else
     (y2l p0.1.1 p0.2.2).bind fun r12=>
     (y3m p0.1).bind fun r13=>
     (y3m p0.2.1).bind fun r14=>
     (y3m r11.1).bind fun r15=>
     (y3h p0.1.1 r12).bind fun r16=>
     some ((some (r13,r14,r15,r11.2.1,r12,r16)),0)
 | .inr (u17)=>
  some (none,u17)
theorem y4S {p0:AutT×AutT×List Int} {r:(Option ((AutT×(List KeyT))×(AutT×(List KeyT))×(AutT×(List KeyT))×List (List Int)×List Int×List Int))×Int} (hm:y1P p0=some r):
  Fw Tryz.prog 85 ⟨0,[]⟩ [.a [lF qI p0.1.1,lI p0.1.2.1,lF qI p0.1.2.2.1,lF qT p0.1.2.2.2,lF qI p0.2.1.1,lI p0.2.1.2.1,lF qI p0.2.1.2.2.1,lF qT p0.2.1.2.2.2,lF qI p0.2.2]] [] (.tp [.o (lK rE155 155 r.1),.i r.2]) []:=by
 unfold y1P at hm
 refine Fw.mk' Tryz.func85 R Tryz.ntmps85 R R (fun C=>?_) R R
 refine .seq (.reg (.op (O.box 0 R Z R R R) R (.sa R (.sa R (.nil (.seqN (.seq (.seq (.reg (.op (O.faP y6c Z R R) R (.op (O.lg (l':=[lF qI p0.1.1,lI p0.1.2.1,lF qI p0.1.2.2.1,lF qT p0.1.2.2.2]) ag35 Z R (.B R) R R R) R (.op (O.faP y5y Z R R) R (.op (O.lg (l':=[lF qI p0.2.1.1,lI p0.2.1.2.1,lF qI p0.2.1.2.2.1,lF qT p0.2.1.2.2.2]) ag35 Z R (.B R) R R R) R (.op (O.bsF (r:=rE35) (zs:=([p0.1,p0.2.1]:List AutT)) bs66 R R Z R R R (.c (.p .l (.p .k (.p .l .l))) (.c (.p .l (.p .k (.p .l .l))) .n)) R R R) R (.op (O.len sl66 Z R R) R (.mv R (.nil (.seqN (.block (bS hm fun o5 eo5 hm=>?_))))))))))))))))))))
 refine .cutU (z:= .exit 0) (fun u7=> .inl u7=o5) (fun (u7:Unit)=>⟨[(1,.q 0 0)],[(0,.bx 37 [lF qI p0.1.1,lI p0.1.2.1,lF qI p0.1.2.2.1,lF qT p0.1.2.2.2,lF qI p0.2.1.1,lI p0.2.1.2.1,lF qI p0.2.1.2.2.1,lF qT p0.2.1.2.2.2,lF qI p0.2.2])],1⟩) ?_ fun K8=>?_
 ·rintro u7 rfl
  dsimp only at hm
  refine .blkE (.seqN (.seq (.seq (.reg (.op (O.faP y5y Z R R) R (.op (O.faP y1S Z R R) R (.op (O.ld nag32 Z R (.B R) R R) R (.op (O.faP y6c Z R R) R (.op (O.faP y1S Z R R) R (.op (O.ld nag32 Z R (.B R) R R) R (bS hm fun r9 er9 hm=> .op (O.ca0 (y4l er9) cf26 R R Z R R R) R (.op (O.not Z R R) R (.nil (.seqN ?_))))))))))))))
  rcases ifS hm with ⟨hc,hm⟩ | ⟨hc,hm⟩
  ·refine .cT R hc ?_
   refine .seq (.reg (.sa R (.sa R (.nil (.seqN (.ret (.seqR (.cnt 2 R (.c (.pn (r:=rE155) (T:=155)) .n) R ?_))))))))
   obtain rfl:=oi hm
   exact WX.rt [] (.inl R) Tryz.results85 (.tmp R (.tmp R .nil)) R (fun _ _ _ h=>h) trivial
  ·refine .cF R hc ?_
   refine .skip (.seqN (.seq (.seq (.reg (.op (O.faP ybk Z R R) R (.op (O.ld nag32 Z R (.B R) R R) R (bS hm fun r10 er10 hm=> .op (O.ca0 (y2F er10) cf25 R R Z R R R) R (.sa R (.nil (.seqN (.seq (.reg (.mv R (.bi R (.nil (.seqN ?_))))))))))))))))
   rcases ifS hm with ⟨hc,hm⟩ | ⟨hc,hm⟩
   ·refine .cT R hc ?_
    refine .seq (.reg (.mv R (.sa R (.sa R (.nil (.seqN (.ret (.seqR (.cnt 2 R (.c (.pn (r:=rE155) (T:=155)) .n) R ?_)))))))))
    obtain rfl:=oi hm
    exact WX.rt [] (.inl R) Tryz.results85 (.tmp R (.tmp R .nil)) R (fun _ _ _ h=>h) trivial
   ·refine .cF R hc ?_
    refine .skip (.seqN (.seq (.reg (.op (O.faP y6c Z R R) R (.op (O.lg (l':=[lF qI p0.1.1,lI p0.1.2.1,lF qI p0.1.2.2.1,lF qT p0.1.2.2.2]) ag35 Z R (.B R) R R R) R (.op (O.faP y5y Z R R) R (.op (O.lg (l':=[lF qI p0.2.1.1,lI p0.2.1.2.1,lF qI p0.2.1.2.2.1,lF qT p0.2.1.2.2.2]) ag35 Z R (.B R) R R R) R (.op (O.bsF (r:=rE35) (zs:=([p0.1,p0.2.1]:List AutT)) bs66 R R Z R R R (.c (.p .l (.p .k (.p .l .l))) (.c (.p .l (.p .k (.p .l .l))) .n)) R R R) R (bS hm fun r11 er11 hm=> .op (O.ca (r':= .tp [.a [lH 1,lI r11.1.2.1,lH 2,lH 3],.h 4,.i r11.2.2]) [1,2,3,4] [(0,ROW qI 3 r11.1.1),(1,ROW qI 3 r11.1.2.2.1),(2,ROW qT 124 r11.1.2.2.2),(3,ROW (rL qI) 32 r11.2.1)] (some 5) (y4G er11) cf32 R R Z R R R R ⟨⟨_,R,fun _ _ _ _ h=>h⟩,⟨_,R,fun _ _ _ _ h=>h⟩,⟨_,R,fun _ _ _ _ h=>h⟩,⟨_,R,fun _ _ _ _ h=>h⟩,trivial⟩ (fun _ _ _ h=>h) R) R (.mv R (.op (O.ex Z R R R) R (.op (O.ex Z R R R) R (.op (O.ex Z R R R) R (.op (O.al 5 R zz35 R Z R) R (.op (O.st ag35.sz Z R R R R R) R (.sa R (.sa R (.nil (.seqN (.seq (.seq (.reg (.mv R (.bi R (.nil (.seqN ?_))))))))))))))))))))))))))
    rcases ifS hm with ⟨hc,hm⟩ | ⟨hc,hm⟩
    ·refine .cT R hc ?_
     refine .seq (.reg (.mv R (.sa R (.sa R (.nil (.seqN (.ret (.seqR (.cnt 2 R (.c (.pn (r:=rE155) (T:=155)) .n) R ?_)))))))))
     obtain rfl:=oi hm
     exact WX.rt [] (.inl R) Tryz.results85 (.tmp R (.tmp R .nil)) R (fun _ _ _ h=>h) trivial
    ·refine .cF R hc ?_
     refine .skip (.seqN (.seq (.reg (.op (O.faP y6c Z R R) R (.op (O.faP y1S Z R R) R (.op (O.ld nag32 Z R (.B R) R R) R (.op (O.faP ybk Z R R) R (.op (O.ld nag32 Z R (.B R) R R) R (bS hm fun r12 er12 hm=> .op (O.ca (r':= .h 6) [6] [(0,ROW qI 3 r12)] (some 7) (y4O er12) cf145 R R Z R R R R ⟨⟨_,R,fun _ _ _ _ h=>h⟩,trivial⟩ (fun _ _ _ h=>h) R) R (.sa R (.nil (.seqN (.seq (.fz 1 [49,42,48] [5] R R fR R R (.fz 2 [49,42,48] [5] R R fR R R (.fz 3 [49,42,48] [5] R R fR R R ?_))))))))))))))))
     refine .sub (τ:=⟨[(11,.h 6),(9,.h 4),(8,.q 5 0),(1,.q 0 0)],[(6,ROW qI 3 r12),(4,ROW (rL qI) 32 r11.2.1),(5,.bx 35 [lF qI r11.1.1,lI r11.1.2.1,lF qI r11.1.2.2.1,lF qT r11.1.2.2.2]),(0,.bx 37 [lF qI p0.1.1,lI p0.1.2.1,lF qI p0.1.2.2.1,lF qT p0.1.2.2.2,lF qI p0.2.1.1,lI p0.2.1.2.1,lF qI p0.2.1.2.2.1,lF qT p0.2.1.2.2.2,lF qI p0.2.2])],7⟩) ?_ [] R
     refine bS hm fun r13 er13 hm=>bS hm fun r14 er14 hm=>bS hm fun r15 er15 hm=>bS hm fun r16 er16 hm=>?_
     refine .drw [(7,[]),(7,[oT]),(7,[oT,oT]),(7,[]),(7,[oF,oF,oF,oT]),(7,tT 5),(7,[]),(7,tT 7),(7,[]),(7,[]),(7,[]),(7,[oF,oF,oF,oF,oF,oF,oF,oF,oF,oF,oT]),(7,[oF,oF,oF,oF,oF,oF,oF,oF,oF,oF,oT,oT]),(7,[]),(7,tA 8 (fA 2 (tT 4))),(8,tT 15),(8,tT 16),(9,tT 17),(9,tT 18)] [_,_,_,_,_,_,_,_,_,_,_,_,_,_,_,_,_,_,_] ⟨[(3,.i 0),(2,.q 8 0)],[(8,.bx 155 [lF qI r13.1.1,lI r13.1.2.1,lF qI r13.1.2.2.1,lF qT r13.1.2.2.2,lM kvP qI r13.2,lF qI r14.1.1,lI r14.1.2.1,lF qI r14.1.2.2.1,lF qT r14.1.2.2.2,lM kvP qI r14.2,lF qI r15.1.1,lI r15.1.2.1,lF qI r15.1.2.2.1,lF qT r15.1.2.2.2,lM kvP qI r15.2,lH 4,lH 6,lH 7]),(4,ROW (rL qI) 32 r11.2.1),(6,ROW qI 3 r12),(7,ROW qI 3 r16)],9⟩ ⟨O.faP y6c Z R R,O.lg (l':=[lF qI p0.1.1,lI p0.1.2.1,lF qI p0.1.2.2.1,lF qT p0.1.2.2.2]) ag35 Z R (.B R) R R R,O.ca0 (y4E er13) cf151 R R Z R R R,O.faP y5y Z R R,O.lg (l':=[lF qI p0.2.1.1,lI p0.2.1.2.1,lF qI p0.2.1.2.2.1,lF qT p0.2.1.2.2.2]) ag35 Z R (.B R) R R R,O.ca0 (y4E er14) cf151 R R Z R R R,O.lg (l':=[lF qI r11.1.1,lI r11.1.2.1,lF qI r11.1.2.2.1,lF qT r11.1.2.2.2]) ag35 Z R (.B R) R R R,O.ca0 (y4E er15) cf151 R R Z R R R,O.mv Z R R,O.mv Z R R,O.faP y6c Z R R,O.faP y1S Z R R,O.ld nag32 Z R (.B R) R R,O.mv Z R R,O.caY (r':= .h 7) [7] [(0,ROW qI 3 r16)] (some 8) (y5z er16) cf17 R R Z R R ⟨⟨R,LnL.rf⟩,⟨R,.hr R,trivial⟩,trivial⟩ R ⟨.row flr3,trivial⟩ (fun _ _ _ _ h=>h) ⟨⟨_,R,fun _ _ _ _ h=>h⟩,trivial⟩ (fun _ _ _ h=>h) R,O.bu (l:=[lF qI r13.1.1,lI r13.1.2.1,lF qI r13.1.2.2.1,lF qT r13.1.2.2.2,lM kvP qI r13.2,lF qI r14.1.1,lI r14.1.2.1,lF qI r14.1.2.2.1,lF qT r14.1.2.2.2,lM kvP qI r14.2,lF qI r15.1.1,lI r15.1.2.1,lF qI r15.1.2.2.1,lF qT r15.1.2.2.2,lM kvP qI r15.2,lH 4,lH 6,lH 7]) pl155 R Z R R R,O.box 8 R Z R R R,O.as Z R R,O.as Z R R,trivial⟩ (by kernel_rfl) R ?_
     refine .seqN (.ret (.fz 4 [] [8] R R fR R R (.fz 6 [] [8] R R fR R R (.fz 7 [] [8] R R fR R R (.fz 8 [2] [] R R fB R R (.cnt 2 R (.c (.pk (r:=rE155) (.p (.p (.p .l (.p .k (.p .l .l))) .m) (.p (.p (.p .l (.p .k (.p .l .l))) .m) (.p (.p (.p .l (.p .k (.p .l .l))) .m) (.p .l (.p .l .l)))))) .n) R ?_))))))
     obtain rfl:=oi hm
     exact WX.rt [] (.inl R) Tryz.results85 (.tmp R (.tmp R .nil)) R (fun _ _ _ h=>h) trivial
 refine .cutU (z:= .ret) (fun u17=> .inr (u17)=o5) (fun (u17:Int)=>⟨[(3,.i u17),(2,.o (lV (.pointer none)))],[],0⟩) ?_ fun K18=>?_
 ·rintro u17 rfl
  dsimp only at hm
  refine .blkR (.seqR (.cnt 2 R (.c (.pn (r:=rE155) (T:=155)) .n) R ?_))
  obtain rfl:=oi hm
  exact WX.rt [] (.inl R) Tryz.results85 (.tmp R (.tmp R .nil)) R (fun _ _ _ h=>h) trivial
 refine .iter (fun (st5:Int)=>⟨[(18,.i st5),(17,.i (([p0.1,p0.2.1]:List AutT).length:Int)),(16,.f rE35 ([p0.1,p0.2.1]:List AutT)),(1,.q 0 0)],[(0,.bx 37 [lF qI p0.1.1,lI p0.1.2.1,lF qI p0.1.2.2.1,lF qT p0.1.2.2.2,lF qI p0.2.1.1,lI p0.2.1.2.1,lF qI p0.2.1.2.2.1,lF qT p0.2.1.2.2.2,lF qI p0.2.2])],1⟩) eo5 [] R ?_
 intro st5 res5 hm ih5 ho5
 unfold y3C at hm
 refine .seq (.reg (.bi R (.nil (.seqN (.seq ?_)))))
 rcases ifS hm with ⟨hc,hm⟩ | ⟨hc,hm⟩
 ·refine .cT R hc ?_
  refine .skip (.seqN (.seq (.block (.seq (.reg (bS hm fun x19 ex19 hm=> .op (O.ix sl66 Z R R ex19 R) R (.op (O.lg (l':=[lF qI x19.1,lI x19.2.1,lF qI x19.2.2.1,lF qT x19.2.2.2]) ag35 Z R (.E lv35) R R R) R (.op (O.al 1 R zz35 R Z R) R (.op (O.st ag35.sz Z R R R R R) R (.nil (.seqN (.seq (.reg (.op (O.lg (l':=[lF qI x19.1,lI x19.2.1,lF qI x19.2.2.1,lF qT x19.2.2.2]) ag35 Z R (.B R) R R R) R (bS hm fun r20 er20 hm=> .op (O.ca0 (y4k er20) cf101 R R Z R R R) R (.sa R (.nil (.seqN (.seq (.reg (.mv R (.bi R (.nil (.seqN ?_))))))))))))))))))))))))
  rcases ifS hm with ⟨hc,hm⟩ | ⟨hc,hm⟩
  ·refine .cT R hc ?_
   exact .seq (.reg (.mv R (.sa R (.sa R (.nil (.seqN (.ret (.blkR (.seqR (.seqR ((K18 _ (ho5 _ (oi hm).symm)).sub [] R)))))))))))
  ·refine .cF R hc ?_
   exact .skip (.blkN (.seqN (.reg (.bi R (.mv R (.nil ((ih5 _ (oi hm).symm).sub [] R)))))))
 ·refine .cF R hc ?_
  exact .exit (.seqX (.seqX ((K8 _ (ho5 _ (oi hm).symm)).sub [] R)))
def y2v (p0:AutT×(List KeyT)) (p1:Int) (p2:Int):Option Int:=
 if(kget p0.2 (p1,p2)).isSome then
  some ((kget p0.2 (p1,p2)).getD 0)
 else
  some (-1)
theorem y3X {p0:AutT×(List KeyT)} {p1:Int} {p2:Int} {r:Int} (hm:y2v p0 p1 p2=some r):
  Fw Tryz.prog 150 ⟨0,[]⟩ [.a [lF qI p0.1.1,lI p0.1.2.1,lF qI p0.1.2.2.1,lF qT p0.1.2.2.2,lM kvP qI p0.2],.i p1,.i p2] [] (.i r) []:=by
 unfold y2v at hm
 refine Fw.mk' Tryz.func150 R Tryz.ntmps150 R R (fun C=>?_) R R
 refine .seq (.reg (.op (O.box 0 R Z R R R) R (.sa R (.nil (.seqN (.seq (.seq (.reg (.op (O.faP yaC Z R R) R (.op (O.ld ya3 Z R (.B R) R R) R (.mv R (.mv R (.op (O.bu (l:=[lI p1,lI p2]) pl241 R Z R R R) R (.op (O.mi2 (k:=(p1,p2)) md139 Z (.fr R) (.a R R) R) R (.mv R (.op (O.ex Z R R R) R (.op (O.ex Z R R R) R (.sa R (.sa R (.nil (.seqN (.seq (.reg (.mv R (.nil (.seqN ?_))))))))))))))))))))))))))
 rcases ifS hm with ⟨hc,hm⟩ | ⟨hc,hm⟩
 ·refine .cT R hc ?_
  refine .seq (.reg (.mv R (.sa R (.nil (.seqN (.ret (.seqR ?_)))))))
  obtain rfl:=oi hm
  exact WX.rt [] (.inl R) Tryz.results150 (.tmp R .nil) R (fun _ _ _ h=>h) trivial
 ·refine .cF R hc ?_
  refine .skip (.seqN (.seq (.reg (.sa R (.nil (.seqN (.ret ?_)))))))
  obtain rfl:=oi hm
  exact WX.rt [] (.inl R) Tryz.results150 (.tmp R .nil) R (fun _ _ _ h=>h) trivial
def y3r (st53:Int×List (List Int)×(List (Int×List Int))) (l56:List (List Int)) (l57:List (Int×List Int)):Option ((Int×List (List Int)×(List (Int×List Int))) ⊕ (List (List Int))):=
 some (.inl (W (st53.1 + 1),l56,l57))
def y3s (st80:Int×(List (Int×List Int))) (l83:List (Int×List Int)):Option ((Int×(List (Int×List Int))) ⊕ (List (Int×List Int))):=
 some (.inl (W (st80.1 + 1),l83))
def y5a (p0:(AutT×(List KeyT))×(AutT×(List KeyT))×(AutT×(List KeyT))×List (List Int)×List Int×List Int) (st53:Int×List (List Int)×(List (Int×List Int))) (st80:Int×(List (Int×List Int))):Option ((Int×(List (Int×List Int))) ⊕ (List (Int×List Int))):=
 if decide (st80.1 < (p0.2.2.2.2.1.length:Int)) then
  (idx p0.2.2.2.2.1 st80.1).bind fun x85=>
  (idx st80.2 st53.1).bind fun x86=>
  (y2v p0.1 x86.1 x85).bind fun r87=>
  (if (r87 != (-1)) then
   (idx st80.2 st53.1).bind fun x95=>
   (yx x95.2 x85).bind fun r96=>
   some (!r96)
  else
   some false).bind fun b88=>
  if b88 then
   (idx st80.2 st53.1).bind fun x91=>
   (yQ x91.2).bind fun r92=>
   (app r92 ([x85]:List Int)).bind fun x93=>
   (app st80.2 ([(r87,x93)]:List (Int×List Int))).bind fun x94=>
   y3s st80 x94
  else
   y3s st80 st80.2
 else
  some (.inr st80.2)
def y3t (p0:(AutT×(List KeyT))×(AutT×(List KeyT))×(AutT×(List KeyT))×List (List Int)×List Int×List Int) (p2:Int) (st53:Int×List (List Int)×(List (Int×List Int))) (l59:List (List Int)):Option ((Int×List (List Int)×(List (Int×List Int))) ⊕ (List (List Int))):=
 (idx st53.2.2 st53.1).bind fun x61=>
 if((x61.2.length:Int) == p2) then
  y3r st53 l59 st53.2.2
 else
  (iter (y5a p0 st53) (0,st53.2.2)).bind fun o80=>
  y3r st53 l59 o80
def y5b (p0:(AutT×(List KeyT))×(AutT×(List KeyT))×(AutT×(List KeyT))×List (List Int)×List Int×List Int) (p2:Int) (st53:Int×List (List Int)×(List (Int×List Int))):Option ((Int×List (List Int)×(List (Int×List Int))) ⊕ (List (List Int))):=
 if decide (st53.1 < (st53.2.2.length:Int)) then
  (idx st53.2.2 st53.1).bind fun x97=>
  if decide ((x97.2.length:Int) > 1) then
   (idx st53.2.2 st53.1).bind fun x98=>
   (app st53.2.1 ([x98.2]:List (List Int))).bind fun x99=>
   y3t p0 p2 st53 x99
  else
   y3t p0 p2 st53 st53.2.1
 else
  some (.inr st53.2.1)
def y4v (p0:(AutT×(List KeyT))×(AutT×(List KeyT))×(AutT×(List KeyT))×List (List Int)×List Int×List Int) (p1:Int) (p2:Int):Option (List (List Int)):=
 (idx p0.2.2.2.1 p1).bind fun x1=>
 (idx x1 0).bind fun x2=>
 (iter (y5b p0 p2) (0,([]:List (List Int)),([(x2,([]:List Int))]:List (Int×List Int)))).bind fun o53=>
 some o53
theorem y7i {p0:(AutT×(List KeyT))×(AutT×(List KeyT))×(AutT×(List KeyT))×List (List Int)×List Int×List Int} {p1:Int} {p2:Int} {r:List (List Int)} (hm:y4v p0 p1 p2=some r):
  Fw Tryz.prog 109 ⟨0,[]⟩ [.o (lQ 155 (lx155 p0) 0),.i p1,.i p2] [] (.h 0) [ROW (rL qI) 32 r]:=by
 unfold y4v at hm
 refine Fw.mk' Tryz.func109 R Tryz.ntmps109 R R (fun C=>?_) R R
 refine .seq (.reg (.sa R (.nil (.seqN (.seq (.reg (.mv R (.op (O.nc .Q Z R R) R (.op (O.faQ y9g Z R R) R (.op (O.ld nag53 Z R .Q R R) R (.mv R (bS hm fun x1 ex1 hm=> .op (O.ix sl53 Z R R ex1 R) R (.op (O.ld nag32 Z R (.E lv32) R R) R (bS hm fun x2 ex2 hm=> .op (O.ix sl32 Z R R ex2 R) R (.op (O.ld nag3 Z R (.E lv3) R R) R (.op (O.bu (l:=[lI x2,lN]) pl257 R Z R R R) R (.op (O.bsO (r:=rE257) (zs:=([(x2,([]:List Int))]:List (Int×List Int))) 0 R bs258 R R Z R R R (.c (.p .k .n) .n) R R R) R (.sa R (.nil (.seqN (.seq (.reg (.sa R (.nil (.seqN (.seq (.seq (.reg (.sa R (.nil (.seqN (.block (bS hm fun o53 eo53 hm=>?_)))))))))))))))))))))))))))))))))
 refine .cut1 (z:= .exit 0) o53 (fun (o53:List (List Int))=>⟨[(8,.h 0)],[(0,ROW (rL qI) 32 o53)],1⟩) ?_ fun K55=>?_
 ·skip
  refine .blkE (.seqN (.seq (.reg (.mv R (.sa R (.nil (.seqN (.ret ?_))))))))
  obtain rfl:=oi hm
  exact WX.rt [0] (.inl R) Tryz.results109 (.tmp R .nil) R (fun _ _ _ h=>h) ⟨⟨_,R,fun _ _ _ _ h=>h⟩,trivial⟩
 refine .nlg (rL qI) 32 8 0 R R (.iter (fun (st53:Int×List (List Int)×(List (Int×List Int)))=>⟨[(9,.i st53.1),(8,.h 0),(7,.h 1),(0,.o (lQ 155 (lx155 p0) 0)),(2,.i p2)],[(0,ROW (rL qI) 32 st53.2.1),(1,ROW rE257 257 st53.2.2)],2⟩) eo53 [(0,1),(1,0)] R ?_)
 intro st53 res53 hm ih53 ho53
 unfold y5b at hm
 refine .seq (.seq (.reg (.mv R (.mv R (.op (O.lenH sl258 Z R R R) R (.bi R (.nil (.seqN ?_))))))))
 rcases ifS hm with ⟨hc,hm⟩ | ⟨hc,hm⟩
 ·refine .cT R hc ?_
  refine .skip (.seqN ?_)
  refine .join2 (fun (l56:List (List Int)) (l57:List (Int×List Int))=>y3r st53 l56 l57=some res53) (fun l56 l57=>⟨[(8,.h 0),(9,.i st53.1),(7,.h 1),(0,.o (lQ 155 (lx155 p0) 0)),(2,.i p2)],[(0,ROW (rL qI) 32 l56),(1,ROW rE257 257 l57)],2⟩) ?_ ?_
  ·intro l56 l57 hm
   unfold y3r at hm
   exact .reg (.mv R (.bi R (.sa R (.nil ((ih53 _ (oi hm).symm).sub [] R)))))
  ·intro Jj58
   refine .block ?_
   refine .join1 (fun (l59:List (List Int))=>y3t p0 p2 st53 l59=some res53) (fun l59=>⟨[(8,.h 0),(9,.i st53.1),(7,.h 1),(0,.o (lQ 155 (lx155 p0) 0)),(2,.i p2)],[(0,ROW (rL qI) 32 l59),(1,ROW rE257 257 st53.2.2)],2⟩) ?_ ?_
   ·intro l59 hm
    unfold y3t at hm
    refine .seq (.seq (.reg (.mv R (.mv R (bS hm fun x61 ex61 hm=> .op (O.ir sl258 Z R R R ex61 R) R (.op (O.faR y6P Z R R) R (.op (O.ld nag32 Z R (.R R ex61 lv257) R R) R (.op (O.len sl32 Z R R) R (.mv R (.bi R (.nil (.seqN ?_))))))))))))
    rcases ifS hm with ⟨hc,hm⟩ | ⟨hc,hm⟩
    ·refine .cT R hc ?_
     exact .exit (.seqX (.blkE ((Jj58 _ _ hm).sub [] R)))
    ·refine .cF R hc ?_
     refine .skip (.seqN (.seq (.reg (.mv R (.op (O.nc .Q Z R R) R (.op (O.faQ y9h Z R R) R (.op (O.ld nag32 Z R .Q R R) R (.op (O.len sl32 Z R R) R (.mv R (.nil (.seqN (.block (bS hm fun o80 eo80 hm=>?_)))))))))))))
     refine .cut1 (z:= .exit 2) o80 (fun (o80:(List (Int×List Int)))=>⟨[(8,.h 0),(9,.i st53.1),(7,.h 1),(0,.o (lQ 155 (lx155 p0) 0)),(2,.i p2)],[(0,ROW (rL qI) 32 l59),(1,ROW rE257 257 o80)],2⟩) ?_ fun K82=>?_
     ·skip
      exact .blkE (.blkN ((Jj58 _ _ hm).sub [] R))
     refine .iter (fun (st80:Int×(List (Int×List Int)))=>⟨[(58,.i st80.1),(57,.i (p0.2.2.2.2.1.length:Int)),(56,.f qI p0.2.2.2.2.1),(8,.h 0),(9,.i st53.1),(7,.h 1),(0,.o (lQ 155 (lx155 p0) 0)),(2,.i p2)],[(0,ROW (rL qI) 32 l59),(1,ROW rE257 257 st80.2)],2⟩) eo80 [] R ?_
     intro st80 res80 hm ih80 ho80
     unfold y5a at hm
     refine .seq (.reg (.bi R (.nil (.seqN (.seq ?_)))))
     rcases ifS hm with ⟨hc,hm⟩ | ⟨hc,hm⟩
     ·refine .cT R hc ?_
      refine .skip (.seqN ?_)
      refine .join1 (fun (l83:List (Int×List Int))=>y3s st80 l83=some res80) (fun l83=>⟨[(7,.h 0),(58,.i st80.1),(57,.i (p0.2.2.2.2.1.length:Int)),(56,.f qI p0.2.2.2.2.1),(8,.h 1),(9,.i st53.1),(0,.o (lQ 155 (lx155 p0) 0)),(2,.i p2)],[(0,ROW rE257 257 l83),(1,ROW (rL qI) 32 l59)],2⟩) ?_ ?_
      ·intro l83 hm
       unfold y3s at hm
       exact .reg (.bi R (.mv R (.nil ((ih80 _ (oi hm).symm).sub [(0,1),(1,0)] R))))
      ·intro Jj84
       refine .block (.seq (.reg (bS hm fun x85 ex85 hm=> .op (O.ix sl32 Z R R ex85 R) R (.op (O.ld nag3 Z R (.E lv3) R R) R (.sa R (.nil (.seqN (.seq ?_))))))))
       refine .sub (τ:=⟨[(11,.i x85),(58,.i st80.1),(57,.i (p0.2.2.2.2.1.length:Int)),(56,.f qI p0.2.2.2.2.1),(8,.h 0),(9,.i st53.1),(7,.h 1),(0,.o (lQ 155 (lx155 p0) 0)),(2,.i p2)],[(0,ROW (rL qI) 32 l59),(1,ROW rE257 257 st80.2)],2⟩) ?_ [] R
       refine bS hm fun x86 ex86 hm=>bS hm fun r87 er87 hm=>?_
       refine .drw [(2,[]),(2,[oT]),(2,[oT,oT]),(2,tT 3),(2,[]),(2,[]),(2,[oF,oF,oF,oF,oT,oT]),(2,fA 4 (tT 3)),(2,fA 4 (tT 4)),(2,[]),(2,tT 10),(2,tT 11)] [_,_,_,_,_,_,_,_,_,_,_,_] ⟨[(12,.i r87),(11,.i x85),(58,.i st80.1),(57,.i (p0.2.2.2.2.1.length:Int)),(56,.f qI p0.2.2.2.2.1),(8,.h 0),(9,.i st53.1),(7,.h 1),(0,.o (lQ 155 (lx155 p0) 0)),(2,.i p2)],[(0,ROW (rL qI) 32 l59),(1,ROW rE257 257 st80.2)],2⟩ ⟨O.mv Z R R,O.nc .Q Z R R,O.faQ y9f Z R R,O.lg (l':=[lF qI p0.1.1.1,lI p0.1.1.2.1,lF qI p0.1.1.2.2.1,lF qT p0.1.1.2.2.2,lM kvP qI p0.1.2]) ag141 Z R .Q R R R,O.mv Z R R,O.mv Z R R,O.ir sl258 Z R R R ex86 R,O.faR ycK Z R R,O.ld nag3 Z R (.R R ex86 lv257) R R,O.mv Z R R,O.ca0 (y3X er87) cf150 R R Z R R R,O.as Z R R,trivial⟩ (by kernel_rfl) R ?_
       refine .seqN (.seq (.reg (.mv R (.bi R (.mv R (bS hm fun b88 eb88 hm=>?_))))))
       refine .cut 9 (fun (v89:Bool)=>b88=v89) (fun v89=>⟨[(84,.b v89),(12,.i r87),(11,.i x85),(58,.i st80.1),(57,.i (p0.2.2.2.2.1.length:Int)),(56,.f qI p0.2.2.2.2.1),(8,.h 0),(9,.i st53.1),(7,.h 1),(0,.o (lQ 155 (lx155 p0) 0)),(2,.i p2)],[(0,ROW (rL qI) 32 l59),(1,ROW rE257 257 st80.2)],2⟩) ?_ ?_
       ·rintro _ rfl
        refine .nil (.seqN ?_)
        rcases ifS hm with ⟨hc,hm⟩ | ⟨hc,hm⟩
        ·refine .cT R hc ?_
         exact .reg (.mv R (.mv R (.mv R (.mv R (bS hm fun x91 ex91 hm=> .op (O.ir sl258 Z R R R ex91 R) R (.op (O.faR y6P Z R R) R (.op (O.ld nag32 Z R (.R R ex91 lv257) R R) R (bS hm fun r92 er92 hm=> .op (O.ca (r':= .h 2) [2] [(0,ROW qI 3 r92)] (some 3) (y2k er92) cf103 R R Z R R R R ⟨⟨_,R,fun _ _ _ _ h=>h⟩,trivial⟩ (fun _ _ _ h=>h) R) R (.mv R (.op (O.bsF (r:=qI) (zs:=([x85]:List Int)) bs32 R R Z R R R (.c .k .n) R R R) R (bS hm fun x93 ex93 hm=> .op (O.ap 3 Tryz.underlying32 el3 R R Z R R (.fr R) ex93 R) R (.op (O.bu (l:=[lI r87,lH 3]) pl257 R Z R R R) R (.fz 3 [96] [] R R fR R R (.op (O.bsF (r:=rE257) (zs:=([(r87,x93)]:List (Int×List Int))) bs258 R R Z R R R (.c (.p .k .l) .n) R R R) R (bS hm fun x94 ex94 hm=> .op (O.ap 4 Tryz.underlying258 el257 R R Z R R (.fr R) ex94 R) R (.sa R (.nil (.blkN ((Jj84 _ hm).sub [(0,4),(1,0)] R)))))))))))))))))))
        ·refine .cF R hc ?_
         exact .skip (.blkN ((Jj84 _ hm).sub [(0,1),(1,0)] R))
       ·intro J90
        rcases ifS eb88 with ⟨hc,hm⟩ | ⟨hc,hm⟩
        ·refine .know (d:=75) R hc ?_
         exact .op (O.mv (Gu.mk R R) R R) R (.op (O.mv (Gu.mk R R) R R) R (bS hm fun x95 ex95 hm=> .op (O.ir sl258 (Gu.mk R R) R R R ex95 R) R (.op (O.faR y6P (Gu.mk R R) R R) R (.op (O.ld nag32 (Gu.mk R R) R (.R R ex95 lv257) R R) R (.op (O.mv (Gu.mk R R) R R) R (bS hm fun r96 er96 hm=> .op (O.ca0 (y2p er96) cf104 R R (Gu.mk R R) R R R) R (.op (O.not (Gu.mk R R) R R) R (.op (O.pkT Z R R R R) R ((J90 (!r96) (oi hm).symm).sub [] R)))))))))
        ·refine .know (d:=75) R hc ?_
         exact .sk R (.sk R (.sk R (.sk R (.sk R (.sk R (.sk R (.sk R (.op (O.pkF Z R R R R) R ((J90 false (oi hm).symm).sub [] R)))))))))
     ·refine .cF R hc ?_
      exact .exit (.seqX (.seqX ((K82 _ (ho80 _ (oi hm).symm)).sub [] R)))
   ·intro Jj60
    refine .seq (.reg (.mv R (.mv R (bS hm fun x97 ex97 hm=> .op (O.ir sl258 Z R R R ex97 R) R (.op (O.faR y6P Z R R) R (.op (O.ld nag32 Z R (.R R ex97 lv257) R R) R (.op (O.len sl32 Z R R) R (.bi R (.nil (.seqN ?_))))))))))
    rcases ifS hm with ⟨hc,hm⟩ | ⟨hc,hm⟩
    ·refine .cT R hc ?_
     exact .reg (.mv R (.mv R (.mv R (bS hm fun x98 ex98 hm=> .op (O.ir sl258 Z R R R ex98 R) R (.op (O.faR y6P Z R R) R (.op (O.ld nag32 Z R (.R R ex98 lv257) R R) R (.op (O.bsF (r:=(rL qI)) (zs:=([x98.2]:List (List Int))) bs53 R R Z R R R (.c .l .n) R R R) R (bS hm fun x99 ex99 hm=> .op (O.ap 2 Tryz.underlying53 el32 R R Z R R (.fr R) ex99 R) R (.sa R (.nil ((Jj60 _ hm).sub [(0,2)] R)))))))))))
    ·refine .cF R hc ?_
     exact .skip ((Jj60 _ hm).sub [] R)
 ·refine .cF R hc ?_
  exact .exit (.seqX (.seqX ((K55 _ (ho53 _ (oi hm).symm)).sub [] R)))
def y1Y (st10:Int×Int) (n18:Int):Option ((Int×Int) ⊕ (Int ⊕ (Int×Int))):=
 some (.inl (W (st10.1 + 1),n18))
def y2I (p0:(AutT×(List KeyT))×(AutT×(List KeyT))×(AutT×(List KeyT))×List (List Int)×List Int×List Int) (p2:List Int) (st10:Int×Int):Option ((Int×Int) ⊕ (Int ⊕ (Int×Int))):=
 if decide (st10.1 < (p2.length:Int)) then
  (idx p2 st10.1).bind fun x20=>
  (yH p0.2.1.1.1 x20).bind fun r21=>
  if(!r21) then
   y1Y st10 st10.2
  else
   (y2v p0.2.1 st10.2 x20).bind fun r22=>
   if(r22 == (-1)) then
    some (.inr (.inr (st10)))
   else
    y1Y st10 r22
 else
  some (.inr (.inl st10.2))
def y1k (p0:(AutT×(List KeyT))×(AutT×(List KeyT))×(AutT×(List KeyT))×List (List Int)×List Int×List Int) (p1:Int) (p2:List Int):Option (Int×Int):=
 (iter (y2I p0 p2) (0,p1)).bind fun o10=>
 match o10 with
 | .inl u14=>
  some (u14,(p2.length:Int))
 | .inr (u16)=>
  some (u16.2,u16.1)
theorem y2X {p0:(AutT×(List KeyT))×(AutT×(List KeyT))×(AutT×(List KeyT))×List (List Int)×List Int×List Int} {p1:Int} {p2:List Int} {r:Int×Int} (hm:y1k p0 p1 p2=some r):
  Fw Tryz.prog 87 ⟨0,[]⟩ [.o (lQ 155 (lx155 p0) 0),.i p1,.f qI p2] [] (.tp [.i r.1,.i r.2]) []:=by
 unfold y1k at hm
 refine Fw.mk' Tryz.func87 R Tryz.ntmps87 R R (fun C=>?_) R R
 refine .seq (.reg (.sa R (.sa R (.nil (.seqN (.seq (.seq (.reg (.mv R (.op (O.len sl32 Z R R) R (.mv R (.nil (.seqN (.block (bS hm fun o10 eo10 hm=>?_)))))))))))))))
 refine .cutU (z:= .exit 0) (fun u14=> .inl u14=o10) (fun (u14:Int)=>⟨[(1,.i u14),(2,.f qI p2)],[],0⟩) ?_ fun K15=>?_
 ·rintro u14 rfl
  dsimp only at hm
  refine .blkE (.seqN (.seq (.reg (.mv R (.mv R (.op (O.len sl32 Z R R) R (.sa R (.sa R (.nil (.seqN (.ret ?_)))))))))))
  obtain rfl:=oi hm
  exact WX.rt [] (.inl R) Tryz.results87 (.tmp R (.tmp R .nil)) R (fun _ _ _ h=>h) trivial
 refine .cutU (z:= .ret) (fun u16=> .inr (u16)=o10) (fun (u16:Int×Int)=>⟨[(7,.i u16.1),(6,.i u16.2)],[],0⟩) ?_ fun K17=>?_
 ·rintro u16 rfl
  dsimp only at hm
  refine .blkR (.seqR ?_)
  obtain rfl:=oi hm
  exact WX.rt [] (.inl R) Tryz.results87 (.tmp R (.tmp R .nil)) R (fun _ _ _ h=>h) trivial
 refine .iter (fun (st10:Int×Int)=>⟨[(13,.i st10.1),(12,.i (p2.length:Int)),(11,.f qI p2),(0,.o (lQ 155 (lx155 p0) 0)),(1,.i st10.2),(2,.f qI p2)],[],0⟩) eo10 [] R ?_
 intro st10 res10 hm ih10 ho10
 unfold y2I at hm
 refine .seq (.reg (.bi R (.nil (.seqN (.seq ?_)))))
 rcases ifS hm with ⟨hc,hm⟩ | ⟨hc,hm⟩
 ·refine .cT R hc ?_
  refine .skip (.seqN ?_)
  refine .join1 (fun (n18:Int)=>y1Y st10 n18=some res10) (fun n18=>⟨[(13,.i st10.1),(12,.i (p2.length:Int)),(11,.f qI p2),(0,.o (lQ 155 (lx155 p0) 0)),(1,.i n18),(2,.f qI p2)],[],0⟩) ?_ ?_
  ·intro n18 hm
   unfold y1Y at hm
   exact .reg (.bi R (.mv R (.nil ((ih10 _ (oi hm).symm).sub [] R))))
  ·intro Jj19
   refine .block (.seq (.reg (.mv R (bS hm fun x20 ex20 hm=> .op (O.ix sl32 Z R R ex20 R) R (.op (O.ld nag3 Z R (.E lv3) R R) R (.sa R (.sa R (.nil (.seqN (.seq (.seq (.reg (.mv R (.op (O.nc .Q Z R R) R (.op (O.faQ y9i Z R R) R (.op (O.faQ y3B Z R R) R (.op (O.faQ y1S Z R R) R (.op (O.ld nag32 Z R .Q R R) R (.mv R (bS hm fun r21 er21 hm=> .op (O.ca0 (y1v er21) cf94 R R Z R R R) R (.op (O.not Z R R) R (.nil (.seqN ?_)))))))))))))))))))))))
   rcases ifS hm with ⟨hc,hm⟩ | ⟨hc,hm⟩
   ·refine .cT R hc ?_
    exact .exit (.seqX (.blkE ((Jj19 _ hm).sub [] R)))
   ·refine .cF R hc ?_
    refine .skip (.seqN (.seq (.reg (.mv R (.op (O.nc .Q Z R R) R (.op (O.faQ y9i Z R R) R (.op (O.lg (l':=[lF qI p0.2.1.1.1,lI p0.2.1.1.2.1,lF qI p0.2.1.1.2.2.1,lF qT p0.2.1.1.2.2.2,lM kvP qI p0.2.1.2]) ag141 Z R .Q R R R) R (.mv R (.mv R (bS hm fun r22 er22 hm=> .op (O.ca0 (y3X er22) cf150 R R Z R R R) R (.sa R (.nil (.seqN (.seq (.seq (.reg (.mv R (.bi R (.nil (.seqN ?_))))))))))))))))))))
    rcases ifS hm with ⟨hc,hm⟩ | ⟨hc,hm⟩
    ·refine .cT R hc ?_
     exact .seq (.reg (.mv R (.mv R (.sa R (.sa R (.nil (.seqN (.ret (.seqR (.blkR (.seqR (.seqR ((K17 _ (ho10 _ (oi hm).symm)).sub [] R)))))))))))))
    ·refine .cF R hc ?_
     exact .skip (.seqN (.reg (.mv R (.sa R (.nil (.blkN ((Jj19 _ hm).sub [] R)))))))
 ·refine .cF R hc ?_
  exact .exit (.seqX (.seqX ((K15 _ (ho10 _ (oi hm).symm)).sub [] R)))
def y4m (p0:(AutT×(List KeyT))×(AutT×(List KeyT))×(AutT×(List KeyT))×List (List Int)×List Int×List Int) (p1:Int) (p2:List Int):Option Bool:=
 (idx p0.2.2.2.1 p1).bind fun x1=>
 (idx x1 1).bind fun x2=>
 (y1k p0 x2 p2).bind fun r3=>
 (y3G p2).bind fun r4=>
 (y3H r4).bind fun r5=>
 (y1k p0 x2 r5).bind fun r6=>
 some (((r3.2 == (p2.length:Int)) && (r6.2 == (p2.length:Int))) && (r3.1 == r6.1))
theorem y6R {p0:(AutT×(List KeyT))×(AutT×(List KeyT))×(AutT×(List KeyT))×List (List Int)×List Int×List Int} {p1:Int} {p2:List Int} {r:Bool} (hm:y4m p0 p1 p2=some r):
  Fw Tryz.prog 93 ⟨0,[]⟩ [.o (lQ 155 (lx155 p0) 0),.i p1,.f qI p2] [] (.b r) []:=by
 unfold y4m at hm
 refine Fw.mk' Tryz.func93 R Tryz.ntmps93 R R (fun C=>?_) R R
 refine .seq (.reg (.sa R (.nil (.seqN (.seq (.reg (.mv R (.op (O.nc .Q Z R R) R (.op (O.faQ y9g Z R R) R (.op (O.ld nag53 Z R .Q R R) R (.mv R (bS hm fun x1 ex1 hm=> .op (O.ix sl53 Z R R ex1 R) R (.op (O.ld nag32 Z R (.E lv32) R R) R (bS hm fun x2 ex2 hm=> .op (O.ix sl32 Z R R ex2 R) R (.op (O.ld nag3 Z R (.E lv3) R R) R (.sa R (.nil (.seqN (.seq (.reg (.mv R (.mv R (.mv R (bS hm fun r3 er3 hm=> .op (O.ca0 (y2X er3) cf87 R R Z R R R) R (.mv R (.op (O.ex Z R R R) R (.op (O.ex Z R R R) R (.sa R (.sa R (.nil (.seqN (.seq (.reg (.mv R (.mv R (.mv R ?_))))))))))))))))))))))))))))))))))))
 refine bS hm fun r4 er4 hm=> .op (O.ca0 (y6N er4) cf157 R R Z R R R) R (bS hm fun r5 er5 hm=> .op (O.ca (r':= .h 0) [0] [(0,ROW qI 3 r5)] (some 1) (y6O er5) cf156 R R Z R R R R ⟨⟨_,R,fun _ _ _ _ h=>h⟩,trivial⟩ (fun _ _ _ h=>h) R) R (bS hm fun r6 er6 hm=> .op (O.caZ (y2X er6) cf87 R R Z R ⟨⟨R,.rf,trivial⟩,⟨R,LnL.rf⟩,⟨R,.hr R,trivial⟩,trivial⟩ (fun _ _ _ _ _ h=>h) R) R (.mv R (.op (O.ex Z R R R) R (.op (O.ex Z R R R) R (.sa R (.sa R (.nil (.seqN (.seq (.reg (.mv R (.mv R (.op (O.len sl32 Z R R) R (.bi R (.mv R ?_))))))))))))))))
 refine .cut 5 (fun (v7:Bool)=>((r3.2 == (p2.length:Int)) && (r6.2 == (p2.length:Int)))=v7) (fun v7=>⟨[(46,.b v7),(10,.i r6.1),(8,.i r3.1)],[],1⟩) ?_ ?_
 ·rintro _ rfl
  refine .mv R ?_
  refine .cut 4 (fun (v9:Bool)=>(((r3.2 == (p2.length:Int)) && (r6.2 == (p2.length:Int))) && (r3.1 == r6.1))=v9) (fun v9=>⟨[(51,.b v9)],[],1⟩) ?_ ?_
  ·rintro _ rfl
   refine .sa R (.nil (.seqN (.ret ?_)))
   obtain rfl:=oi hm
   exact WX.rt [] (.inl R) Tryz.results93 (.tmp R .nil) R (fun _ _ _ h=>h) trivial
  ·intro J10
   rcases Bool.eq_false_or_eq_true ((r3.2 == (p2.length:Int)) && (r6.2 == (p2.length:Int))) with hc | hc
   ·refine .know (d:=47) R hc ?_
    exact .op (O.mv (Gu.mk R R) R R) R (.op (O.mv (Gu.mk R R) R R) R (.op (O.bi (Gu.mk R R) R R R R) R (.op (O.pkT Z R R R R) R ((J10 (r3.1 == r6.1) (andT hc).symm).sub [] R))))
   ·refine .know (d:=47) R hc ?_
    exact .sk R (.sk R (.sk R (.op (O.pkF Z R R R R) R ((J10 false (andF hc).symm).sub [] R))))
 ·intro J8
  rcases Bool.eq_false_or_eq_true (r3.2 == (p2.length:Int)) with hc | hc
  ·refine .know (d:=41) R hc ?_
   exact .op (O.mv (Gu.mk R R) R R) R (.op (O.mv (Gu.mk R R) R R) R (.op (O.len sl32 (Gu.mk R R) R R) R (.op (O.bi (Gu.mk R R) R R R R) R (.op (O.pkT Z R R R R) R ((J8 (r6.2 == (p2.length:Int)) (andT hc).symm).sub [] R)))))
  ·refine .know (d:=41) R hc ?_
   exact .sk R (.sk R (.sk R (.sk R (.op (O.pkF Z R R R R) R ((J8 false (andF hc).symm).sub [] R)))))
def y4n (q0:Int) (p0:Int×Int×Int):Option Bool:=
 some (p0.2.2 == q0)
theorem y6S {q0:Int} {p0:Int×Int×Int} {r:Bool} (hm:y4n q0 p0=some r):
  Fw Tryz.prog 152 ⟨0,[]⟩ [.a [lI p0.1,lI p0.2.1,lI p0.2.2],.o (lQ 3 [lI q0] 0)] [] (.b r) []:=by
 unfold y4n at hm
 refine Fw.mk' Tryz.func152 R Tryz.ntmps152 R R (fun C=>?_) R R
 refine .seq (.reg (.op (O.box 0 R Z R R R) R (.sa R (.nil (.seqN (.seq (.reg (.op (O.faP y3g Z R R) R (.op (O.ld nag3 Z R (.B R) R R) R (.op (O.ld nag3 Z R .Q R R) R (.bi R (.sa R (.nil (.seqN (.ret ?_)))))))))))))))
 obtain rfl:=oi hm
 exact WX.rt [] (.inl R) Tryz.results152 (.tmp R .nil) R (fun _ _ _ h=>h) trivial
def y4h (p0:List (Int×Int×Int)) (p1:(Int×Int×Int)→Option Bool) (st5:Int):Option (Int ⊕ (Unit ⊕ Int)):=
 if decide (st5 < (p0.length:Int)) then
  (idx p0 st5).bind fun x11=>
  (p1 x11).bind fun r12=>
  if r12 then
   some (.inr (.inr (st5)))
  else
   some (.inl (W (st5 + 1)))
 else
  some (.inr (.inl ()))
def y3J (p0:List (Int×Int×Int)) (p1:(Int×Int×Int)→Option Bool):Option Int:=
 (iter (y4h p0 p1) 0).bind fun o5=>
 match o5 with
 | .inl u7=>
  some (-1)
 | .inr (u9)=>
  some u9
theorem y5R {p0:List (Int×Int×Int)} {p1:(Int×Int×Int)→Option Bool} {r:Int} (hm:y3J p0 p1=some r):
  Fw Tryz.prog 140 ⟨0,[]⟩ [.f qT p0,.o (lW Tryz.prog (fun (x:(Int×Int×Int))=> [.a [lI x.1,lI x.2.1,lI x.2.2]]) (fun (r:Bool)=> .b r) p1)] [] (.i r) []:=by
 unfold y3J at hm
 refine Fw.mk' Tryz.func140 R Tryz.ntmps140 R R (fun C=>?_) R R
 refine .seq (.reg (.sa R (.nil (.seqN (.seq (.seq (.reg (.mv R (.op (O.len sl33 Z R R) R (.mv R (.nil (.seqN (.block (bS hm fun o5 eo5 hm=>?_))))))))))))))
 refine .cutU (z:= .exit 0) (fun u7=> .inl u7=o5) (fun (u7:Unit)=>⟨[],[],0⟩) ?_ fun K8=>?_
 ·rintro u7 rfl
  dsimp only at hm
  refine .blkE (.seqN (.seq (.reg (.sa R (.nil (.seqN (.ret ?_)))))))
  obtain rfl:=oi hm
  exact WX.rt [] (.inl R) Tryz.results140 (.tmp R .nil) R (fun _ _ _ h=>h) trivial
 refine .cutU (z:= .ret) (fun u9=> .inr (u9)=o5) (fun (u9:Int)=>⟨[(4,.i u9)],[],0⟩) ?_ fun K10=>?_
 ·rintro u9 rfl
  dsimp only at hm
  refine .blkR (.seqR ?_)
  obtain rfl:=oi hm
  exact WX.rt [] (.inl R) Tryz.results140 (.tmp R .nil) R (fun _ _ _ h=>h) trivial
 refine .iter (fun (st5:Int)=>⟨[(8,.i st5),(7,.i (p0.length:Int)),(0,.f qT p0),(1,.o (lW Tryz.prog (fun (x:(Int×Int×Int))=> [.a [lI x.1,lI x.2.1,lI x.2.2]]) (fun (r:Bool)=> .b r) p1))],[],0⟩) eo5 [] R ?_
 intro st5 res5 hm ih5 ho5
 unfold y4h at hm
 refine .seq (.reg (.bi R (.nil (.seqN (.seq ?_)))))
 rcases ifS hm with ⟨hc,hm⟩ | ⟨hc,hm⟩
 ·refine .cT R hc ?_
  refine .skip (.seqN (.seq (.block (.seq (.reg (.mv R (.sa R (.nil (.seqN (.seq (.reg (.mv R (.mv R (.mv R (bS hm fun x11 ex11 hm=> .op (O.ix sl33 Z R R ex11 R) R (.op (O.lg (l':=[lI x11.1,lI x11.2.1,lI x11.2.2]) ag124 Z R (.E lv124) R R R) R (bS hm fun r12 er12 hm=>?_)))))))))))))))))
  refine .op (O.fv (y:=x11) R R R Z R er12 R R) R ?_
  refine .nil (.seqN ?_)
  rcases ifS hm with ⟨hc,hm⟩ | ⟨hc,hm⟩
  ·refine .cT R hc ?_
   exact .seq (.reg (.mv R (.sa R (.nil (.seqN (.ret (.blkR (.seqR (.seqR ((K10 _ (ho5 _ (oi hm).symm)).sub [] R))))))))))
  ·refine .cF R hc ?_
   exact .skip (.blkN (.seqN (.reg (.bi R (.mv R (.nil ((ih5 _ (oi hm).symm).sub [] R)))))))
 ·refine .cF R hc ?_
  exact .exit (.seqX (.seqX ((K8 _ (ho5 _ (oi hm).symm)).sub [] R)))
def y5l (p0:AutT×(List KeyT)) (st9:List Int×Int):Option ((List Int×Int) ⊕ (List Int)):=
 if decide (st9.2 > 0) then
  (y3J p0.1.2.2.2 (y4n st9.2)).bind fun r13=>
  (idx p0.1.2.2.2 r13).bind fun x14=>
  (app st9.1 ([x14.2.1]:List Int)).bind fun x15=>
  (idx p0.1.2.2.2 r13).bind fun x16=>
  some (.inl (x15,x16.1))
 else
  some (.inr st9.1)
def y3Y (p0:AutT×(List KeyT)) (p1:Int):Option (List Int):=
 (iter (y5l p0) (([]:List Int),p1)).bind fun o9=>
 (y2V o9).bind fun r12=>
 some r12
theorem y5r {p0:AutT×(List KeyT)} {p1:Int} {r:List Int} (hm:y3Y p0 p1=some r):
  Fw Tryz.prog 81 ⟨0,[]⟩ [.a [lF qI p0.1.1,lI p0.1.2.1,lF qI p0.1.2.2.1,lF qT p0.1.2.2.2,lM kvP qI p0.2],.i p1] [] (.h 0) [ROW qI 3 r]:=by
 unfold y3Y at hm
 refine Fw.mk' Tryz.func81 R Tryz.ntmps81 R R (fun C=>?_) R R
 refine .seq (.reg (.op (O.box 0 R Z R R R) R (.op (O.box 1 R Z R R R) R (.sa R (.nil (.seqN (.seq (.reg (.sa R (.nil (.seqN (.seq (.block (bS hm fun o9 eo9 hm=>?_))))))))))))))
 refine .cut1 (z:= .exit 0) o9 (fun (o9:List Int)=>⟨[(5,.h 0)],[(0,ROW qI 3 o9)],1⟩) ?_ fun K11=>?_
 ·skip
  refine .blkE (.seqN (.seq (.reg (.mv R (bS hm fun r12 er12 hm=> .op (O.ca (r':= .tp []) [0] [(0,ROW qI 3 r12)] none (y6w er12) cf142 R R Z R R R R ⟨⟨_,R,fun _ _ _ _ h=>h⟩,trivial⟩ (fun _ _ _ h=>h) R) R (.nil (.seqN (.seq (.reg (.mv R (.sa R (.nil (.seqN (.ret ?_))))))))))))))
  obtain rfl:=oi hm
  exact WX.rt [0] (.inl R) Tryz.results81 (.tmp R .nil) R (fun _ _ _ h=>h) ⟨⟨_,R,fun _ _ _ _ h=>h⟩,trivial⟩
 refine .nlg qI 3 5 0 R R (.iter (fun (st9:List Int×Int)=>⟨[(5,.h 0),(3,.q 1 0),(2,.q 2 0)],[(0,ROW qI 3 st9.1),(1,.bx 3 [lI st9.2]),(2,.bx 141 [lF qI p0.1.1,lI p0.1.2.1,lF qI p0.1.2.2.1,lF qT p0.1.2.2.2,lM kvP qI p0.2])],3⟩) eo9 [(0,2),(2,0)] R ?_)
 intro st9 res9 hm ih9 ho9
 unfold y5l at hm
 refine .seq (.seq (.reg (.op (O.ld nag3 Z R (.B R) R R) R (.bi R (.nil (.seqN ?_))))))
 rcases ifS hm with ⟨hc,hm⟩ | ⟨hc,hm⟩
 ·refine .cT R hc ?_
  refine .skip (.seqN (.block (.seq (.reg (.op (O.faP y3B Z R R) R (.op (O.faP y1h Z R R) R (.op (O.ld nag33 Z R (.B R) R R) R (.op (O.mz (l:=[lP 1 0]) Z R R) R (bS hm fun r13 er13 hm=> .op (O.caZ (y5R er13) cf140 R R Z R ⟨⟨R,LnL.rf⟩,⟨R,(.z (l':=[lQ 3 [lI st9.2] 0]) cf152 (fun x r h=>y6S h) (fun _=>R) R ⟨(.q R ⟨.rf,trivial⟩),trivial⟩),trivial⟩,trivial⟩ (fun _ _ _ _ _ h=>h) R) R (.sa R (.nil (.seqN (.seq (.reg (.mv R (.op (O.faP y3B Z R R) R (.op (O.faP y1h Z R R) R (.op (O.ld nag33 Z R (.B R) R R) R (.mv R (bS hm fun x14 ex14 hm=> .op (O.ix sl33 Z R R ex14 R) R (.op (O.faE y3Z Z R R) R (.op (O.ld nag3 Z R (.E lv124) R R) R (.op (O.bsF (r:=qI) (zs:=([x14.2.1]:List Int)) bs32 R R Z R R R (.c .k .n) R R R) R (bS hm fun x15 ex15 hm=> .op (O.ap 3 Tryz.underlying32 el3 R R Z R R (.fr R) ex15 R) R (.sa R (.nil (.seqN (.reg (.op (O.faP y3B Z R R) R (.op (O.faP y1h Z R R) R (.op (O.ld nag33 Z R (.B R) R R) R (.mv R (bS hm fun x16 ex16 hm=> .op (O.ix sl33 Z R R ex16 R) R (.op (O.faE y2j Z R R) R (.op (O.ld nag3 Z R (.E lv124) R R) R ?_)))))))))))))))))))))))))))))))))))
  exact .op (O.st nag3.sz Z R R R R R) R (.nil (.blkN ((ih9 _ (oi hm).symm).sub [(0,3)] R)))
 ·refine .cF R hc ?_
  exact .exit (.seqX (.seqX ((K11 _ (ho9 _ (oi hm).symm)).sub [] R)))
def y6g (x4:(AutT×(List KeyT))×(AutT×(List KeyT))×(AutT×(List KeyT))×List (List Int)×List Int×List Int) (st23:Int) (r30:List (List Int)) (st36:Int):Option (Int ⊕ (Unit ⊕ (List Int×List Int))):=
 if decide (st36 < (r30.length:Int)) then
  (idx r30 st36).bind fun x43=>
  (y4m x4 st23 x43).bind fun r44=>
  if(!r44) then
   (y3Y x4.2.2.1 st23).bind fun r45=>
   some (.inr (.inr ((r45,x43))))
  else
   some (.inl (W (st36 + 1)))
 else
  some (.inr (.inl ()))
def y6h (p1:Int) (x4:(AutT×(List KeyT))×(AutT×(List KeyT))×(AutT×(List KeyT))×List (List Int)×List Int×List Int) (st23:Int):Option (Int ⊕ (Unit ⊕ (List Int×List Int))):=
 if decide (st23 < (x4.2.2.2.1.length:Int)) then
  (y4v x4 st23 p1).bind fun r30=>
  (iter (y6g x4 st23 r30) 0).bind fun o36=>
  match o36 with
  | .inl u39=>
   some (.inl (W (st23 + 1)))
  | .inr (u41)=>
   some (.inr (.inr (u41)))
 else
  some (.inr (.inl ()))
def y5J (p0:AutT×AutT×List Int) (p1:Int):Option ((Int×List Int×List Int)×Bool×Int):=
 (y1P p0).bind fun r1=>
 if(r1.2 != 0) then
  some ((0,([]:List Int),([]:List Int)),false,r1.2)
 else
  if((decide (p1 < 2)) || (decide (p1 > 3))) then
   some ((0,([]:List Int),([]:List Int)),false,2)
  else
   r1.1.bind fun x4=>
   (iter (y6h p1 x4) 0).bind fun o23=>
   match o23 with
   | .inl u26=>
    some ((0,([]:List Int),([]:List Int)),true,0)
   | .inr (u28)=>
    some ((1,u28),false,0)
theorem y8C {p0:AutT×AutT×List Int} {p1:Int} {r:(Int×List Int×List Int)×Bool×Int} (hm:y5J p0 p1=some r):
  Fw Tryz.prog 36 ⟨0,[]⟩ [.a [lF qI p0.1.1,lI p0.1.2.1,lF qI p0.1.2.2.1,lF qT p0.1.2.2.2,lF qI p0.2.1.1,lI p0.2.1.2.1,lF qI p0.2.1.2.2.1,lF qT p0.2.1.2.2.2,lF qI p0.2.2],.i p1] [] (.tp [.a [lI r.1.1,lH 0,lF qI r.1.2.2],.b r.2.1,.i r.2.2]) [ROW qI 3 r.1.2.1]:=by
 unfold y5J at hm
 refine Fw.mk' Tryz.func36 R Tryz.ntmps36 R R (fun C=>?_) R R
 refine .seq (.reg (.op (O.box 0 R Z R R R) R (.op (O.al 1 R zz44 R Z R) R (.sa R (.sa R (.nil (.seqN (.seq (.reg (.op (O.lg (l':=[lF qI p0.1.1,lI p0.1.2.1,lF qI p0.1.2.2.1,lF qT p0.1.2.2.2,lF qI p0.2.1.1,lI p0.2.1.2.1,lF qI p0.2.1.2.2.1,lF qT p0.2.1.2.2.2,lF qI p0.2.2]) ag37 Z R (.B R) R R R) R (bS hm fun r1 er1 hm=> .op (O.ca0 (y4S er1) cf85 R R Z R R R) R (.mv R (.op (O.ex Z R R R) R (.op (O.ex Z R R R) R (.sa R (.sa R (.nil (.seqN (.seq (.seq (.reg (.mv R (.bi R (.nil (.seqN ?_)))))))))))))))))))))))))
 rcases ifS hm with ⟨hc,hm⟩ | ⟨hc,hm⟩
 ·refine .cT R hc ?_
  refine .seq (.reg (.op (O.bu (l:=[lI 0,lN,lN]) pl44 R Z R R R) R (.mv R (.op (O.st ag44.sz Z R R R R R) R (.sa R (.sa R (.nil (.seqN (.ret (.seqR (.nlb qI 3 1 1 R R (.cno 1 R (.c .rf (.c .rf (.c (.nf (r:=qI)) .n))) R ?_))))))))))))
  obtain rfl:=oi hm
  exact WX.rt [2] (.inl R) Tryz.results36 (.cell R R ag44 R (.tmp R (.tmp R .nil))) R (fun _ _ _ h=>h) ⟨⟨_,R,fun _ _ _ _ h=>h⟩,trivial⟩
 ·refine .cF R hc ?_
  refine .skip (.seqN (.seq (.seq (.reg (.mv R (.bi R (.mv R ?_)))))))
  refine .cut 3 (fun (v2:Bool)=>((decide (p1 < 2)) || (decide (p1 > 3)))=v2) (fun v2=>⟨[(25,.b v2),(7,.o (lK rE155 155 r1.1)),(4,.q 1 0),(1,.i p1)],[(1,.bx 44 [lI 0,lN,lN])],2⟩) ?_ ?_
  ·rintro _ rfl
   refine .nil (.seqN ?_)
   rcases ifS hm with ⟨hc,hm⟩ | ⟨hc,hm⟩
   ·refine .cT R hc ?_
    refine .seq (.reg (.op (O.bu (l:=[lI 0,lN,lN]) pl44 R Z R R R) R (.op (O.st ag44.sz Z R R R R R) R (.sa R (.sa R (.nil (.seqN (.ret (.seqR (.nlb qI 3 1 1 R R (.cno 1 R (.c .rf (.c .rf (.c (.nf (r:=qI)) .n))) R ?_)))))))))))
    obtain rfl:=oi hm
    exact WX.rt [2] (.inl R) Tryz.results36 (.cell R R ag44 R (.tmp R (.tmp R .nil))) R (fun _ _ _ h=>h) ⟨⟨_,R,fun _ _ _ _ h=>h⟩,trivial⟩
   ·refine .cF R hc ?_
    refine .skip (.seqN (.seq (.seq (.reg (.mv R (bS hm fun x4 ex4 hm=> .cnt 27 R (.c (.pd ex4 lv155) .n) R (.cnt 7 R (.c (.pd ex4 lv155) .n) R (.op (O.nc .Q Z R R) R (.op (O.faQ y9g Z R R) R (.op (O.ld nag53 Z R .Q R R) R (.op (O.len sl53 Z R R) R (.mv R (.nil (.seqN (.block (bS hm fun o23 eo23 hm=>?_))))))))))))))))
    refine .cutU (z:= .exit 0) (fun u26=> .inl u26=o23) (fun (u26:Unit)=>⟨[(4,.q 0 0)],[(0,.bx 44 [lI 0,lN,lN])],1⟩) ?_ fun K27=>?_
    ·rintro u26 rfl
     dsimp only at hm
     refine .blkE (.seqN (.seq (.reg (.op (O.bu (l:=[lI 0,lN,lN]) pl44 R Z R R R) R (.op (O.st ag44.sz Z R R R R R) R (.sa R (.sa R (.nil (.seqN (.ret (.nlb qI 3 0 1 R R (.cno 0 R (.c .rf (.c .rf (.c (.nf (r:=qI)) .n))) R ?_))))))))))))
     obtain rfl:=oi hm
     exact WX.rt [1] (.inl R) Tryz.results36 (.cell R R ag44 R (.tmp R (.tmp R .nil))) R (fun _ _ _ h=>h) ⟨⟨_,R,fun _ _ _ _ h=>h⟩,trivial⟩
    refine .cutU (z:= .ret) (fun u28=> .inr (u28)=o23) (fun (u28:List Int×List Int)=>⟨[(6,.i 0),(5,.b false),(4,.q 0 0)],[(0,.bx 44 [lI 1,lH 1,lF qI u28.2]),(1,ROW qI 3 u28.1)],2⟩) ?_ fun K29=>?_
    ·rintro u28 rfl
     dsimp only at hm
     refine .blkR (.seqR ?_)
     obtain rfl:=oi hm
     exact WX.rt [1] (.inl R) Tryz.results36 (.cell R R ag44 R (.tmp R (.tmp R .nil))) R (fun _ _ _ h=>h) ⟨⟨_,R,fun _ _ _ _ h=>h⟩,trivial⟩
    refine .iter (fun (st23:Int)=>⟨[(32,.i st23),(31,.i (x4.2.2.2.1.length:Int)),(7,.o (lQ 155 (lx155 x4) 0)),(4,.q 0 0),(1,.i p1)],[(0,.bx 44 [lI 0,lN,lN])],1⟩) eo23 [(0,1)] R ?_
    intro st23 res23 hm ih23 ho23
    unfold y6h at hm
    refine .seq (.reg (.bi R (.nil (.seqN (.seq ?_)))))
    rcases ifS hm with ⟨hc,hm⟩ | ⟨hc,hm⟩
    ·refine .cT R hc ?_
     refine .skip (.seqN (.seq (.block (.seq (.reg (.mv R (.sa R (.nil (.seqN (.seq (.reg (.mv R (.mv R (.mv R (bS hm fun r30 er30 hm=> .op (O.ca (r':= .h 1) [1] [(0,ROW (rL qI) 32 r30)] (some 2) (y7i er30) cf109 R R Z R R R R ⟨⟨_,R,fun _ _ _ _ h=>h⟩,trivial⟩ (fun _ _ _ h=>h) R) R (.op (O.lenH sl53 Z R R R) R (.mv R (.nil (.seqN (.block (bS hm fun o36 eo36 hm=>?_)))))))))))))))))))))
     refine .cutU (z:= .exit 2) (fun u39=> .inl u39=o36) (fun (u39:Unit)=>⟨[(32,.i st23),(31,.i (x4.2.2.2.1.length:Int)),(7,.o (lQ 155 (lx155 x4) 0)),(4,.q 0 0),(1,.i p1)],[(0,.bx 44 [lI 0,lN,lN])],1⟩) ?_ fun K40=>?_
     ·rintro u39 rfl
      dsimp only at hm
      exact .blkE (.blkN (.seqN (.reg (.bi R (.mv R (.nil ((ih23 _ (oi hm).symm).sub [] R)))))))
     refine .cutU (z:= .ret) (fun u41=> .inr (u41)=o36) (fun (u41:List Int×List Int)=>⟨[(6,.i 0),(5,.b false),(4,.q 0 0)],[(0,.bx 44 [lI 1,lH 1,lF qI u41.2]),(1,ROW qI 3 u41.1)],2⟩) ?_ fun K42=>?_
     ·rintro u41 rfl
      dsimp only at hm
      exact .blkR (.blkR (.seqR (.seqR ((K29 _ (ho23 _ (oi hm).symm)).sub [] R))))
     refine .iter (fun (st36:Int)=>⟨[(40,.i st36),(39,.i (r30.length:Int)),(38,.h 0),(8,.i st23),(32,.i st23),(31,.i (x4.2.2.2.1.length:Int)),(7,.o (lQ 155 (lx155 x4) 0)),(4,.q 1 0),(1,.i p1)],[(0,ROW (rL qI) 32 r30),(1,.bx 44 [lI 0,lN,lN])],2⟩) eo36 [(0,1),(1,0)] R ?_
     intro st36 res36 hm ih36 ho36
     unfold y6g at hm
     refine .seq (.reg (.bi R (.nil (.seqN (.seq ?_)))))
     rcases ifS hm with ⟨hc,hm⟩ | ⟨hc,hm⟩
     ·refine .cT R hc ?_
      refine .skip (.seqN (.seq (.block (.seq (.reg (bS hm fun x43 ex43 hm=> .op (O.ir sl53 Z R R R ex43 R) R (.op (O.ld nag32 Z R (.R R ex43 lv32) R R) R (.sa R (.nil (.seqN (.seq (.reg (.mv R (.mv R (.mv R (bS hm fun r44 er44 hm=> .op (O.ca0 (y6R er44) cf93 R R Z R R R) R (.op (O.not Z R R) R (.nil (.seqN ?_)))))))))))))))))))
      rcases ifS hm with ⟨hc,hm⟩ | ⟨hc,hm⟩
      ·refine .cT R hc ?_
       exact .seq (.reg (.mv R (.op (O.nc .Q Z R R) R (.op (O.faQ y5V Z R R) R (.op (O.lg (l':=[lF qI x4.2.2.1.1.1,lI x4.2.2.1.1.2.1,lF qI x4.2.2.1.1.2.2.1,lF qT x4.2.2.1.1.2.2.2,lM kvP qI x4.2.2.1.2]) ag141 Z R .Q R R R) R (.mv R (bS hm fun r45 er45 hm=> .op (O.ca (r':= .h 2) [2] [(0,ROW qI 3 r45)] (some 3) (y5r er45) cf81 R R Z R R R R ⟨⟨_,R,fun _ _ _ _ h=>h⟩,trivial⟩ (fun _ _ _ h=>h) R) R (.mv R (.op (O.bu (l:=[lI 1,lH 2,lF qI x43]) pl44 R Z R R R) R (.op (O.st ag44.sz Z R R R R R) R (.sa R (.sa R (.nil (.seqN (.ret (.blkR (.seqR (.seqR ((K42 _ (ho36 _ (oi hm).symm)).sub [(0,1),(1,2)] R)))))))))))))))))))
      ·refine .cF R hc ?_
       exact .skip (.blkN (.seqN (.reg (.bi R (.mv R (.nil ((ih36 _ (oi hm).symm).sub [] R)))))))
     ·refine .cF R hc ?_
      exact .exit (.seqX (.seqX ((K40 _ (ho36 _ (oi hm).symm)).sub [(0,1)] R)))
    ·refine .cF R hc ?_
     exact .exit (.seqX (.seqX ((K27 _ (ho23 _ (oi hm).symm)).sub [] R)))
  ·intro J3
   rcases Bool.eq_false_or_eq_true (decide (p1 < 2)) with hc | hc
   ·refine .know (d:=22) R hc ?_
    exact .sk R (.sk R (.op (O.pkT Z R R R R) R ((J3 true (orT hc).symm).sub [] R)))
   ·refine .know (d:=22) R hc ?_
    exact .op (O.mv (Gu.mk R R) R R) R (.op (O.bi (Gu.mk R R) R R R R) R (.op (O.pkF Z R R R R) R ((J3 (decide (p1 > 3)) (orF hc).symm).sub [] R)))
def y4c (p0:(AutT×(List KeyT))×(AutT×(List KeyT))×(AutT×(List KeyT))×List (List Int)×List Int×List Int) (p1:List Int) (st8:Int):Option (Int ⊕ (Unit ⊕ Int)):=
 if decide (st8 < (p1.length:Int)) then
  (idx p1 st8).bind fun x14=>
  (yH p0.1.1.1 x14).bind fun r15=>
  if(!r15) then
   some (.inr (.inr (9)))
  else
   (yH p0.2.2.2.2.1 x14).bind fun r16=>
   if r16 then
    some (.inr (.inr (13)))
   else
    (slc p1 0 st8).bind fun x17=>
    (yx x17 x14).bind fun r18=>
    if r18 then
     some (.inr (.inr (8)))
    else
     some (.inl (W (st8 + 1)))
 else
  some (.inr (.inl ()))
def y3x (p0:(AutT×(List KeyT))×(AutT×(List KeyT))×(AutT×(List KeyT))×List (List Int)×List Int×List Int) (p1:List Int):Option Int:=
 (iter (y4c p0 p1) 0).bind fun o8=>
 match o8 with
 | .inl u10=>
  some 0
 | .inr (u12)=>
  some u12
theorem y5C {p0:(AutT×(List KeyT))×(AutT×(List KeyT))×(AutT×(List KeyT))×List (List Int)×List Int×List Int} {p1:List Int} {r:Int} (hm:y3x p0 p1=some r):
  Fw Tryz.prog 148 ⟨0,[]⟩ [.o (lQ 155 (lx155 p0) 0),.f qI p1] [] (.i r) []:=by
 unfold y3x at hm
 refine Fw.mk' Tryz.func148 R Tryz.ntmps148 R R (fun C=>?_) R R
 refine .seq (.reg (.sa R (.nil (.seqN (.seq (.seq (.reg (.mv R (.op (O.len sl32 Z R R) R (.mv R (.nil (.seqN (.block (bS hm fun o8 eo8 hm=>?_))))))))))))))
 refine .cutU (z:= .exit 0) (fun u10=> .inl u10=o8) (fun (u10:Unit)=>⟨[],[],0⟩) ?_ fun K11=>?_
 ·rintro u10 rfl
  dsimp only at hm
  refine .blkE (.seqN (.seq (.reg (.sa R (.nil (.seqN (.ret ?_)))))))
  obtain rfl:=oi hm
  exact WX.rt [] (.inl R) Tryz.results148 (.tmp R .nil) R (fun _ _ _ h=>h) trivial
 refine .cutU (z:= .ret) (fun u12=> .inr (u12)=o8) (fun (u12:Int)=>⟨[(4,.i u12)],[],0⟩) ?_ fun K13=>?_
 ·rintro u12 rfl
  dsimp only at hm
  refine .blkR (.seqR ?_)
  obtain rfl:=oi hm
  exact WX.rt [] (.inl R) Tryz.results148 (.tmp R .nil) R (fun _ _ _ h=>h) trivial
 refine .iter (fun (st8:Int)=>⟨[(9,.i st8),(8,.i (p1.length:Int)),(7,.f qI p1),(0,.o (lQ 155 (lx155 p0) 0)),(1,.f qI p1)],[],0⟩) eo8 [] R ?_
 intro st8 res8 hm ih8 ho8
 unfold y4c at hm
 refine .seq (.reg (.bi R (.nil (.seqN (.seq ?_)))))
 rcases ifS hm with ⟨hc,hm⟩ | ⟨hc,hm⟩
 ·refine .cT R hc ?_
  refine .skip (.seqN (.seq (.block (.seq (.reg (.mv R (bS hm fun x14 ex14 hm=> .op (O.ix sl32 Z R R ex14 R) R (.op (O.ld nag3 Z R (.E lv3) R R) R (.sa R (.sa R (.nil (.seqN (.block (.seq (.reg (.mv R (.op (O.nc .Q Z R R) R (.op (O.faQ y9f Z R R) R (.op (O.faQ y3B Z R R) R (.op (O.faQ y1S Z R R) R (.op (O.ld nag32 Z R .Q R R) R (.mv R (bS hm fun r15 er15 hm=> .op (O.ca0 (y1v er15) cf94 R R Z R R R) R (.op (O.not Z R R) R (.sa R (.nil (.seqN ?_)))))))))))))))))))))))))))
  rcases ifS hm with ⟨hc,hm⟩ | ⟨hc,hm⟩
  ·refine .cT R hc ?_
   exact .seq (.reg (.sa R (.nil (.seqN (.ret (.blkR (.blkR (.seqR (.seqR ((K13 _ (ho8 _ (oi hm).symm)).sub [] R))))))))))
  ·refine .cF R hc ?_
   refine .seq (.reg (.mv R (.op (O.nc .Q Z R R) R (.op (O.faQ y9h Z R R) R (.op (O.ld nag32 Z R .Q R R) R (.mv R (bS hm fun r16 er16 hm=> .op (O.ca0 (y1v er16) cf94 R R Z R R R) R (.sa R (.nil (.seqN ?_))))))))))
   rcases ifS hm with ⟨hc,hm⟩ | ⟨hc,hm⟩
   ·refine .cT R hc ?_
    exact .seq (.reg (.sa R (.nil (.seqN (.ret (.blkR (.blkR (.seqR (.seqR ((K13 _ (ho8 _ (oi hm).symm)).sub [] R))))))))))
   ·refine .cF R hc ?_
    refine .seq (.reg (.mv R (.mv R (bS hm fun x17 ex17 hm=> .op (O.sh sl32 Z R R ex17 R) R (.mv R (bS hm fun r18 er18 hm=> .op (O.ca0 (y2p er18) cf104 R R Z R R R) R (.sa R (.nil (.seqN ?_)))))))))
    rcases ifS hm with ⟨hc,hm⟩ | ⟨hc,hm⟩
    ·refine .cT R hc ?_
     exact .seq (.reg (.sa R (.nil (.seqN (.ret (.blkR (.blkR (.seqR (.seqR ((K13 _ (ho8 _ (oi hm).symm)).sub [] R))))))))))
    ·refine .cF R hc ?_
     exact .skip (.blkN (.blkN (.seqN (.reg (.bi R (.mv R (.nil ((ih8 _ (oi hm).symm).sub [] R))))))))
 ·refine .cF R hc ?_
  exact .exit (.seqX (.seqX ((K11 _ (ho8 _ (oi hm).symm)).sub [] R)))
def y6y (p0:AutT×AutT×List Int) (p1:List Int):Option ((Option ((AutT×(List KeyT))×(AutT×(List KeyT))×(AutT×(List KeyT))×List (List Int)×List Int×List Int))×Int):=
 (y1P p0).bind fun r1=>
 if(r1.2 != 0) then
  some (none,r1.2)
 else
  r1.1.bind fun x2=>
  (y3x x2 p1).bind fun r3=>
  if(r3 != 0) then
   some (none,r3)
  else
   some ((some x2),0)
theorem y9J {p0:AutT×AutT×List Int} {p1:List Int} {r:(Option ((AutT×(List KeyT))×(AutT×(List KeyT))×(AutT×(List KeyT))×List (List Int)×List Int×List Int))×Int} (hm:y6y p0 p1=some r):
  Fw Tryz.prog 77 ⟨0,[]⟩ [.a [lF qI p0.1.1,lI p0.1.2.1,lF qI p0.1.2.2.1,lF qT p0.1.2.2.2,lF qI p0.2.1.1,lI p0.2.1.2.1,lF qI p0.2.1.2.2.1,lF qT p0.2.1.2.2.2,lF qI p0.2.2],.f qI p1] [] (.tp [.o (lK rE155 155 r.1),.i r.2]) []:=by
 unfold y6y at hm
 refine Fw.mk' Tryz.func77 R Tryz.ntmps77 R R (fun C=>?_) R R
 refine .seq (.reg (.op (O.box 0 R Z R R R) R (.sa R (.sa R (.nil (.seqN (.seq (.reg (.op (O.lg (l':=[lF qI p0.1.1,lI p0.1.2.1,lF qI p0.1.2.2.1,lF qT p0.1.2.2.2,lF qI p0.2.1.1,lI p0.2.1.2.1,lF qI p0.2.1.2.2.1,lF qT p0.2.1.2.2.2,lF qI p0.2.2]) ag37 Z R (.B R) R R R) R (bS hm fun r1 er1 hm=> .op (O.ca0 (y4S er1) cf85 R R Z R R R) R (.mv R (.op (O.ex Z R R R) R (.op (O.ex Z R R R) R (.sa R (.sa R (.nil (.seqN (.seq (.seq (.reg (.mv R (.bi R (.nil (.seqN ?_))))))))))))))))))))))))
 rcases ifS hm with ⟨hc,hm⟩ | ⟨hc,hm⟩
 ·refine .cT R hc ?_
  refine .seq (.reg (.mv R (.sa R (.sa R (.nil (.seqN (.ret (.seqR (.cnt 4 R (.c (.pn (r:=rE155) (T:=155)) .n) R ?_)))))))))
  obtain rfl:=oi hm
  exact WX.rt [] (.inl R) Tryz.results77 (.tmp R (.tmp R .nil)) R (fun _ _ _ h=>h) trivial
 ·refine .cF R hc ?_
  refine .skip (.seqN (.seq (.seq (.reg (.mv R (.mv R (bS hm fun x2 ex2 hm=> .cnt 17 R (.c (.pd ex2 lv155) .n) R (.cnt 6 R (.c (.pd ex2 lv155) .n) R (.cnt 12 R (.c (.pd ex2 lv155) .n) R (bS hm fun r3 er3 hm=> .op (O.ca0 (y5C er3) cf148 R R Z R R R) R (.sa R (.nil (.seqN (.seq (.reg (.mv R (.bi R (.nil (.seqN ?_)))))))))))))))))))
  rcases ifS hm with ⟨hc,hm⟩ | ⟨hc,hm⟩
  ·refine .cT R hc ?_
   refine .seq (.reg (.mv R (.sa R (.sa R (.nil (.seqN (.ret (.seqR (.cnt 4 R (.c (.pn (r:=rE155) (T:=155)) .n) R ?_)))))))))
   obtain rfl:=oi hm
   exact WX.rt [] (.inl R) Tryz.results77 (.tmp R (.tmp R .nil)) R (fun _ _ _ h=>h) trivial
  ·refine .cF R hc ?_
   refine .skip (.seqN (.seq (.reg (.mv R (.sa R (.sa R (.nil (.seqN (.ret (.cnt 4 R (.c (.pk (r:=rE155) (.p (.p (.p .l (.p .k (.p .l .l))) .m) (.p (.p (.p .l (.p .k (.p .l .l))) .m) (.p (.p (.p .l (.p .k (.p .l .l))) .m) (.p .l (.p .l .l)))))) .n) R ?_))))))))))
   obtain rfl:=oi hm
   exact WX.rt [] (.inl R) Tryz.results77 (.tmp R (.tmp R .nil)) R (fun _ _ _ h=>h) trivial
def y3y (q0:Option ((AutT×(List KeyT))×(AutT×(List KeyT))×(AutT×(List KeyT))×List (List Int)×List Int×List Int)) (q1:Int) (p0:Int):Option Bool:=
 q0.bind fun x1=>
 (y2v x1.2.2.1 q1 p0).bind fun r2=>
 some (r2 != (-1))
theorem y6z {q0:Option ((AutT×(List KeyT))×(AutT×(List KeyT))×(AutT×(List KeyT))×List (List Int)×List Int×List Int)} {q1:Int} {p0:Int} {r:Bool} (hm:y3y q0 q1 p0=some r):
  Fw Tryz.prog 203 ⟨0,[]⟩ [.i p0,.o (lQ 136 [lK rE155 155 q0] 0),.o (lQ 3 [lI q1] 0)] [] (.b r) []:=by
 unfold y3y at hm
 refine Fw.mk' Tryz.func203 R Tryz.ntmps203 R R (fun C=>?_) R R
 refine .seq (.reg (.sa R (.nil (.seqN (.seq (bS hm fun x1 ex1 hm=> .cnt 1 R (.c (.q (.c (.pd ex1 lv155) .n)) .n) R ?_))))))
 refine .sub (τ:=⟨[(0,.i p0),(1,.o (lQ 136 [lQ 155 (lx155 x1) 0] 0)),(2,.o (lQ 3 [lI q1] 0))],[],0⟩) ?_ [] R
 refine bS hm fun r2 er2 hm=>?_
 refine .drw [(0,[]),(0,[oT]),(0,[oT,oT]),(0,tT 3),(0,[]),(0,[]),(0,tT 6),(0,tT 7),(0,tT 8)] [_,_,_,_,_,_,_,_,_] ⟨[(4,.b (r2 != (-1)))],[],0⟩ ⟨O.ld y7C Z R .Q R R,O.nc .Q Z R R,O.faQ y5V Z R R,O.lg (l':=[lF qI x1.2.2.1.1.1,lI x1.2.2.1.1.2.1,lF qI x1.2.2.1.1.2.2.1,lF qT x1.2.2.1.1.2.2.2,lM kvP qI x1.2.2.1.2]) ag141 Z R .Q R R R,O.ld nag3 Z R .Q R R,O.mv Z R R,O.ca0 (y3X er2) cf150 R R Z R R R,O.bi Z R R R R,O.as Z R R,trivial⟩ (by kernel_rfl) R ?_
 refine .seqN (.ret ?_)
 obtain rfl:=oi hm
 exact WX.rt [] (.inl R) Tryz.results203 (.tmp R .nil) R (fun _ _ _ h=>h) trivial
def y4p (p0:List Int) (p1:Int→Option Bool) (st5:Int):Option (Int ⊕ (Unit ⊕ Int)):=
 if decide (st5 < (p0.length:Int)) then
  (idx p0 st5).bind fun x11=>
  (p1 x11).bind fun r12=>
  if r12 then
   some (.inr (.inr (st5)))
  else
   some (.inl (W (st5 + 1)))
 else
  some (.inr (.inl ()))
def y3T (p0:List Int) (p1:Int→Option Bool):Option Int:=
 (iter (y4p p0 p1) 0).bind fun o5=>
 match o5 with
 | .inl u7=>
  some (-1)
 | .inr (u9)=>
  some u9
theorem y6i {p0:List Int} {p1:Int→Option Bool} {r:Int} (hm:y3T p0 p1=some r):
  Fw Tryz.prog 136 ⟨0,[]⟩ [.f qI p0,.o (lW Tryz.prog (fun (x:Int)=> [.i x]) (fun (r:Bool)=> .b r) p1)] [] (.i r) []:=by
 unfold y3T at hm
 refine Fw.mk' Tryz.func136 R Tryz.ntmps136 R R (fun C=>?_) R R
 refine .seq (.reg (.sa R (.nil (.seqN (.seq (.seq (.reg (.mv R (.op (O.len sl32 Z R R) R (.mv R (.nil (.seqN (.block (bS hm fun o5 eo5 hm=>?_))))))))))))))
 refine .cutU (z:= .exit 0) (fun u7=> .inl u7=o5) (fun (u7:Unit)=>⟨[],[],0⟩) ?_ fun K8=>?_
 ·rintro u7 rfl
  dsimp only at hm
  refine .blkE (.seqN (.seq (.reg (.sa R (.nil (.seqN (.ret ?_)))))))
  obtain rfl:=oi hm
  exact WX.rt [] (.inl R) Tryz.results136 (.tmp R .nil) R (fun _ _ _ h=>h) trivial
 refine .cutU (z:= .ret) (fun u9=> .inr (u9)=o5) (fun (u9:Int)=>⟨[(4,.i u9)],[],0⟩) ?_ fun K10=>?_
 ·rintro u9 rfl
  dsimp only at hm
  refine .blkR (.seqR ?_)
  obtain rfl:=oi hm
  exact WX.rt [] (.inl R) Tryz.results136 (.tmp R .nil) R (fun _ _ _ h=>h) trivial
 refine .iter (fun (st5:Int)=>⟨[(8,.i st5),(7,.i (p0.length:Int)),(0,.f qI p0),(1,.o (lW Tryz.prog (fun (x:Int)=> [.i x]) (fun (r:Bool)=> .b r) p1))],[],0⟩) eo5 [] R ?_
 intro st5 res5 hm ih5 ho5
 unfold y4p at hm
 refine .seq (.reg (.bi R (.nil (.seqN (.seq ?_)))))
 rcases ifS hm with ⟨hc,hm⟩ | ⟨hc,hm⟩
 ·refine .cT R hc ?_
  refine .skip (.seqN (.seq (.block (.seq (.reg (.mv R (.sa R (.nil (.seqN (.seq (.reg (.mv R (.mv R (.mv R (bS hm fun x11 ex11 hm=> .op (O.ix sl32 Z R R ex11 R) R (.op (O.ld nag3 Z R (.E lv3) R R) R (bS hm fun r12 er12 hm=>?_)))))))))))))))))
  refine .op (O.fv (y:=x11) R R R Z R er12 R R) R ?_
  refine .nil (.seqN ?_)
  rcases ifS hm with ⟨hc,hm⟩ | ⟨hc,hm⟩
  ·refine .cT R hc ?_
   exact .seq (.reg (.mv R (.sa R (.nil (.seqN (.ret (.blkR (.seqR (.seqR ((K10 _ (ho5 _ (oi hm).symm)).sub [] R))))))))))
  ·refine .cF R hc ?_
   exact .skip (.blkN (.seqN (.reg (.bi R (.mv R (.nil ((ih5 _ (oi hm).symm).sub [] R)))))))
 ·refine .cF R hc ?_
  exact .exit (.seqX (.seqX ((K8 _ (ho5 _ (oi hm).symm)).sub [] R)))
def y4w (p0:(AutT×(List KeyT))×(AutT×(List KeyT))×(AutT×(List KeyT))×List (List Int)×List Int×List Int) (p1:Int) (p2:List Int):Option Int:=
 (y3T p2 (y3y (some p0) p1)).bind fun r1=>
 if decide (r1 < 0) then
  some (-1)
 else
  (idx p2 r1).bind fun x2=>
  some x2
theorem y7j {p0:(AutT×(List KeyT))×(AutT×(List KeyT))×(AutT×(List KeyT))×List (List Int)×List Int×List Int} {p1:Int} {p2:List Int} {r:Int} (hm:y4w p0 p1 p2=some r):
  Fw Tryz.prog 149 ⟨0,[]⟩ [.o (lQ 155 (lx155 p0) 0),.i p1,.f qI p2] [] (.i r) []:=by
 unfold y4w at hm
 refine Fw.mk' Tryz.func149 R Tryz.ntmps149 R R (fun C=>?_) R R
 refine .seq (.reg (.op (O.box 0 R Z R R R) R (.op (O.box 1 R Z R R R) R (.sa R (.nil (.seqN (.seq (.reg (.mv R (.fz 0 [3] [] R R fB R R (.fz 1 [4] [] R R fB R R (.cnt 3 R (.c (.q (.c (.pk (r:=rE155) (.p (.p (.p .l (.p .k (.p .l .l))) .m) (.p (.p (.p .l (.p .k (.p .l .l))) .m) (.p (.p (.p .l (.p .k (.p .l .l))) .m) (.p .l (.p .l .l)))))) .n)) .n) R (.op (O.mf (args:=(fun (x:Int)=> [.i x])) (res:=(fun (r:Bool)=> .b r)) (m:=(y3y (some p0) p1)) cf203 (fun x r h=>y6z h) (fun _=>R) R Z R R) R (bS hm fun r1 er1 hm=> .op (O.ca0 (y6i er1) cf136 R R Z R R R) R (.sa R (.nil (.seqN (.seq (.seq (.reg (.mv R (.bi R (.nil (.seqN ?_))))))))))))))))))))))))
 rcases ifS hm with ⟨hc,hm⟩ | ⟨hc,hm⟩
 ·refine .cT R hc ?_
  refine .seq (.reg (.sa R (.nil (.seqN (.ret (.seqR ?_))))))
  obtain rfl:=oi hm
  exact WX.rt [] (.inl R) Tryz.results149 (.tmp R .nil) R (fun _ _ _ h=>h) trivial
 ·refine .cF R hc ?_
  refine .skip (.seqN (.seq (.reg (.mv R (.mv R (bS hm fun x2 ex2 hm=> .op (O.ix sl32 Z R R ex2 R) R (.op (O.ld nag3 Z R (.E lv3) R R) R (.sa R (.nil (.seqN (.ret ?_)))))))))))
  obtain rfl:=oi hm
  exact WX.rt [] (.inl R) Tryz.results149 (.tmp R .nil) R (fun _ _ _ h=>h) trivial
end
end Go.Proofs.YtecmobjeeonmaaaGreatDoor
